/- Show of both sides: the shapes hold. -/
import Derived.Test.YtajcmjjgnbaahaaDoorSw2
namespace Go.Proofs.YtajcmjjgnbaahaaDoor.Amd
open Go Go.Proofs.YtajcmjjgnbaahaaDoor.Sx Go.RowKit
set_option linter.unusedVariables false
set_option linter.unusedSimpArgs false

theorem zz {a b : ByteArray} {n m : Nat} (ha : a.size ≤ n) (hb : b.size ≤ m) (h : n + m ≤ 1000 := by decide) : szA a b := decide_eq_true (by omega)
theorem zA {a b : ByteArray} {n m : Nat} (ha : a.size ≤ n) (hb : b.size ≤ m) : (a ++ b).size ≤ n + m := by rw [ByteArray.size_append]; omega
theorem zR {r : Int} {w : Bool} (h : in15 r) : (regB r w).size ≤ 23 := regB_size w h.1 h.2
theorem zS {v : Int} (h : in64 v) : (sgnB v).size ≤ 22 := sgnB_size h
theorem zIt {v : Int} (h : in64 v) : (itoaB v).size ≤ 21 := (itoaB_size h).2
theorem in_cl (x : Int) : in15 (cl x) := by unfold in15 cl; simp only [IE.den]; omega
theorem u7i {wide long : Bool} {d s disp imm cc : Int} {R : Prop} (h : R) : u7 wide long d s disp imm cc R := ⟨rfl, rfl, rfl, rfl, rfl, rfl, rfl, h⟩
theorem u6i {wide long : Bool} {d s disp imm : Int} {R : Prop} (h : R) : u6 wide long d s disp imm R := ⟨rfl, rfl, rfl, rfl, rfl, rfl, h⟩
structure Sh_a1 (L0 L1 : ByteArray) (wide long : Bool) (d s disp imm : Int) (Q : SV → Prop) (S : ByteArray) : Prop where
  q : ∀ V, V = S → Q (SV.strE V)
  p : ∀ V, V = S → Q (SV.str V)
  hd : in15 d
  l0 : L0.size ≤ 16
  l1 : L1.size ≤ 16
  n_imm : in64 imm
  e0 : long = true → (L0 ++ regB d false ++ L1 ++ itoaB imm) = S
  e1 : long = false → (L0 ++ regB d false ++ L1 ++ itoaB imm) = S
theorem sbk_a1 {L0 L1 : ByteArray} {wide long : Bool} {d s disp imm : Int} {cc : Int} {Q : SV → Prop} {S : ByteArray} (H : Sh_a1 L0 L1 wide long d s disp imm Q S) : sb_a1 L0 L1 wide long d s disp imm cc Q := by
  unfold sb_a1
  exact (u7i (u7i ⟨fun h1 => ⟨(in_cl d), (u7i ⟨(in_cl s), (u7i ⟨H.hd, (u7i ⟨⟨(zz H.l0 (zR H.hd)), (u7i ⟨⟨(zz (zA H.l0 (zR H.hd)) H.l1), (u7i ⟨H.n_imm, (u7i ⟨(zz (zA (zA H.l0 (zR H.hd)) H.l1) (zIt H.n_imm)), (u7i (H.q _ (H.e0 h1)))⟩)⟩)⟩, H.n_imm, (u7i ⟨(zz (zA H.l0 (zR H.hd)) H.l1), (u7i ⟨(zz (zA (zA H.l0 (zR H.hd)) H.l1) (zIt H.n_imm)), (u7i (H.q _ (H.e0 h1)))⟩)⟩)⟩)⟩, H.n_imm, (u7i ⟨(zz H.l0 (zR H.hd)), (u7i ⟨(zz (zA H.l0 (zR H.hd)) H.l1), (u7i ⟨(zz (zA (zA H.l0 (zR H.hd)) H.l1) (zIt H.n_imm)), (u7i (H.q _ (H.e0 h1)))⟩)⟩)⟩)⟩)⟩)⟩)⟩, fun h2 => ⟨(in_cl d), (u7i ⟨(in_cl s), (u7i ⟨H.hd, (u7i ⟨⟨(zz H.l0 (zR H.hd)), (u7i ⟨⟨(zz (zA H.l0 (zR H.hd)) H.l1), (u7i ⟨H.n_imm, (u7i ⟨(zz (zA (zA H.l0 (zR H.hd)) H.l1) (zIt H.n_imm)), (u7i (H.q _ (H.e1 h2)))⟩)⟩)⟩, H.n_imm, (u7i ⟨(zz (zA H.l0 (zR H.hd)) H.l1), (u7i ⟨(zz (zA (zA H.l0 (zR H.hd)) H.l1) (zIt H.n_imm)), (u7i (H.q _ (H.e1 h2)))⟩)⟩)⟩)⟩, H.n_imm, (u7i ⟨(zz H.l0 (zR H.hd)), (u7i ⟨(zz (zA H.l0 (zR H.hd)) H.l1), (u7i ⟨(zz (zA (zA H.l0 (zR H.hd)) H.l1) (zIt H.n_imm)), (u7i (H.q _ (H.e1 h2)))⟩)⟩)⟩)⟩)⟩)⟩)⟩⟩))
structure Sh_a2 (L0 L1 : ByteArray) (wide long : Bool) (d s disp imm : Int) (Q : SV → Prop) (S : ByteArray) : Prop where
  q : ∀ V, V = S → Q (SV.strE V)
  p : ∀ V, V = S → Q (SV.str V)
  l0 : L0.size ≤ 16
  l1 : L1.size ≤ 16
  e0 : long = true → (L0 ++ regB (cl d) wide ++ L1 ++ regB (cl s) wide) = S
  e1 : long = false → (L0 ++ regB (cl d) wide ++ L1 ++ regB (cl s) wide) = S
theorem sbk_a2 {L0 L1 : ByteArray} {wide long : Bool} {d s disp imm : Int} {cc : Int} {Q : SV → Prop} {S : ByteArray} (H : Sh_a2 L0 L1 wide long d s disp imm Q S) : sb_a2 L0 L1 wide long d s disp imm cc Q := by
  unfold sb_a2
  exact (u7i (u7i ⟨fun h1 => ⟨(in_cl d), (u7i ⟨(in_cl s), (u7i ⟨(zz H.l0 (zR (in_cl d))), (zz (zA H.l0 (zR (in_cl d))) H.l1), (zz (zA (zA H.l0 (zR (in_cl d))) H.l1) (zR (in_cl s))), (H.q _ (H.e0 h1))⟩)⟩)⟩, fun h2 => ⟨(in_cl d), (u7i ⟨(in_cl s), (u7i ⟨(zz H.l0 (zR (in_cl d))), (zz (zA H.l0 (zR (in_cl d))) H.l1), (zz (zA (zA H.l0 (zR (in_cl d))) H.l1) (zR (in_cl s))), (H.q _ (H.e1 h2))⟩)⟩)⟩⟩))
structure Sh_a3 (L0 L1 L2 L3 L4 : ByteArray) (wide long : Bool) (d s disp imm : Int) (Q : SV → Prop) (S : ByteArray) : Prop where
  q : ∀ V, V = S → Q (SV.strE V)
  p : ∀ V, V = S → Q (SV.str V)
  hs : in15 s
  l0 : L0.size ≤ 16
  l1 : L1.size ≤ 16
  l2 : L2.size ≤ 16
  l3 : L3.size ≤ 16
  l4 : L4.size ≤ 16
  n_disp : in64 disp
  e0 : long = true → (L0 ++ regB (cl d) wide ++ L1 ++ (L2 ++ regB s true ++ sgnB disp ++ L3)) = S
  e1 : long = false → (L4 ++ regB (cl d) wide ++ L1 ++ (L2 ++ regB s true ++ sgnB disp ++ L3)) = S
theorem sbk_a3 {L0 L1 L2 L3 L4 : ByteArray} {wide long : Bool} {d s disp imm : Int} {cc : Int} {Q : SV → Prop} {S : ByteArray} (H : Sh_a3 L0 L1 L2 L3 L4 wide long d s disp imm Q S) : sb_a3 L0 L1 L2 L3 L4 wide long d s disp imm cc Q := by
  unfold sb_a3
  exact (u7i (u7i ⟨fun h1 => ⟨(in_cl d), (u7i ⟨(in_cl s), (u7i ⟨(zz H.l0 (zR (in_cl d))), (zz (zA H.l0 (zR (in_cl d))) H.l1), H.hs, (zz H.l2 (zR H.hs)), H.n_disp, (zz (zA H.l2 (zR H.hs)) (zS H.n_disp)), (zz (zA (zA H.l2 (zR H.hs)) (zS H.n_disp)) H.l3), (zz (zA (zA H.l0 (zR (in_cl d))) H.l1) (zA (zA (zA H.l2 (zR H.hs)) (zS H.n_disp)) H.l3)), (H.q _ (H.e0 h1))⟩)⟩)⟩, fun h2 => ⟨(in_cl d), (u7i ⟨(in_cl s), (u7i ⟨(zz H.l4 (zR (in_cl d))), (zz (zA H.l4 (zR (in_cl d))) H.l1), H.hs, (zz H.l2 (zR H.hs)), H.n_disp, (zz (zA H.l2 (zR H.hs)) (zS H.n_disp)), (zz (zA (zA H.l2 (zR H.hs)) (zS H.n_disp)) H.l3), (zz (zA (zA H.l4 (zR (in_cl d))) H.l1) (zA (zA (zA H.l2 (zR H.hs)) (zS H.n_disp)) H.l3)), (H.q _ (H.e1 h2))⟩)⟩)⟩⟩))
structure Sh_a4 (L0 L1 L2 L3 L4 : ByteArray) (wide long : Bool) (d s disp imm : Int) (Q : SV → Prop) (S : ByteArray) : Prop where
  q : ∀ V, V = S → Q (SV.strE V)
  p : ∀ V, V = S → Q (SV.str V)
  hd : in15 d
  l0 : L0.size ≤ 16
  l1 : L1.size ≤ 16
  l2 : L2.size ≤ 16
  l3 : L3.size ≤ 16
  l4 : L4.size ≤ 16
  n_disp : in64 disp
  e0 : long = true → (L2 ++ (L0 ++ regB d true ++ sgnB disp ++ L1) ++ L3 ++ regB (cl s) wide) = S
  e1 : long = false → (L4 ++ (L0 ++ regB d true ++ sgnB disp ++ L1) ++ L3 ++ regB (cl s) wide) = S
theorem sbk_a4 {L0 L1 L2 L3 L4 : ByteArray} {wide long : Bool} {d s disp imm : Int} {cc : Int} {Q : SV → Prop} {S : ByteArray} (H : Sh_a4 L0 L1 L2 L3 L4 wide long d s disp imm Q S) : sb_a4 L0 L1 L2 L3 L4 wide long d s disp imm cc Q := by
  unfold sb_a4
  exact (u7i (u7i ⟨fun h1 => ⟨(in_cl d), (u7i ⟨(in_cl s), (u7i ⟨H.hd, (zz H.l0 (zR H.hd)), H.n_disp, (zz (zA H.l0 (zR H.hd)) (zS H.n_disp)), (zz (zA (zA H.l0 (zR H.hd)) (zS H.n_disp)) H.l1), (zz H.l2 (zA (zA (zA H.l0 (zR H.hd)) (zS H.n_disp)) H.l1)), (zz (zA H.l2 (zA (zA (zA H.l0 (zR H.hd)) (zS H.n_disp)) H.l1)) H.l3), (zz (zA (zA H.l2 (zA (zA (zA H.l0 (zR H.hd)) (zS H.n_disp)) H.l1)) H.l3) (zR (in_cl s))), (H.q _ (H.e0 h1))⟩)⟩)⟩, fun h2 => ⟨(in_cl d), (u7i ⟨(in_cl s), (u7i ⟨H.hd, (zz H.l0 (zR H.hd)), H.n_disp, (zz (zA H.l0 (zR H.hd)) (zS H.n_disp)), (zz (zA (zA H.l0 (zR H.hd)) (zS H.n_disp)) H.l1), (zz H.l4 (zA (zA (zA H.l0 (zR H.hd)) (zS H.n_disp)) H.l1)), (zz (zA H.l4 (zA (zA (zA H.l0 (zR H.hd)) (zS H.n_disp)) H.l1)) H.l3), (zz (zA (zA H.l4 (zA (zA (zA H.l0 (zR H.hd)) (zS H.n_disp)) H.l1)) H.l3) (zR (in_cl s))), (H.q _ (H.e1 h2))⟩)⟩)⟩⟩))
structure Sh_a14 (L0 L1 L2 : ByteArray) (wide long : Bool) (d s disp imm : Int) (Q : SV → Prop) (S : ByteArray) : Prop where
  q : ∀ V, V = S → Q (SV.strE V)
  p : ∀ V, V = S → Q (SV.str V)
  l0 : L0.size ≤ 16
  l1 : L1.size ≤ 16
  l2 : L2.size ≤ 16
  n_imm : in64 imm
  e0 : long = true → (L0 ++ regB (cl d) wide ++ L1 ++ itoaB imm) = S
  e1 : long = false → (L2 ++ regB (cl d) wide ++ L1 ++ itoaB imm) = S
theorem sbk_a14 {L0 L1 L2 : ByteArray} {wide long : Bool} {d s disp imm : Int} {cc : Int} {Q : SV → Prop} {S : ByteArray} (H : Sh_a14 L0 L1 L2 wide long d s disp imm Q S) : sb_a14 L0 L1 L2 wide long d s disp imm cc Q := by
  unfold sb_a14
  exact (u7i (u7i ⟨fun h1 => ⟨(in_cl d), (u7i ⟨(in_cl s), (u7i ⟨(zz H.l0 (zR (in_cl d))), (zz (zA H.l0 (zR (in_cl d))) H.l1), H.n_imm, (zz (zA (zA H.l0 (zR (in_cl d))) H.l1) (zIt H.n_imm)), (H.q _ (H.e0 h1))⟩)⟩)⟩, fun h2 => ⟨(in_cl d), (u7i ⟨(in_cl s), (u7i ⟨(zz H.l2 (zR (in_cl d))), (zz (zA H.l2 (zR (in_cl d))) H.l1), H.n_imm, (zz (zA (zA H.l2 (zR (in_cl d))) H.l1) (zIt H.n_imm)), (H.q _ (H.e1 h2))⟩)⟩)⟩⟩))
structure Sh_a18 (L0 : ByteArray) (wide long : Bool) (d s disp imm : Int) (Q : SV → Prop) (S : ByteArray) : Prop where
  q : ∀ V, V = S → Q (SV.strE V)
  p : ∀ V, V = S → Q (SV.str V)
  l0 : L0.size ≤ 16
  e0 : long = true → (L0 ++ regB (cl d) wide) = S
  e1 : long = false → (L0 ++ regB (cl d) wide) = S
theorem sbk_a18 {L0 : ByteArray} {wide long : Bool} {d s disp imm : Int} {cc : Int} {Q : SV → Prop} {S : ByteArray} (H : Sh_a18 L0 wide long d s disp imm Q S) : sb_a18 L0 wide long d s disp imm cc Q := by
  unfold sb_a18
  exact (u7i (u7i ⟨fun h1 => ⟨(in_cl d), (u7i ⟨(in_cl s), (u7i ⟨(zz H.l0 (zR (in_cl d))), (H.q _ (H.e0 h1))⟩)⟩)⟩, fun h2 => ⟨(in_cl d), (u7i ⟨(in_cl s), (u7i ⟨(zz H.l0 (zR (in_cl d))), (H.q _ (H.e1 h2))⟩)⟩)⟩⟩))
structure Sh_a21 (L0 L1 : ByteArray) (wide long : Bool) (d s disp imm : Int) (Q : SV → Prop) (S : ByteArray) : Prop where
  q : ∀ V, V = S → Q (SV.strE V)
  p : ∀ V, V = S → Q (SV.str V)
  l0 : L0.size ≤ 16
  l1 : L1.size ≤ 16
  e0 : long = true → (L0 ++ regB (cl d) wide ++ L1) = S
  e1 : long = false → (L0 ++ regB (cl d) wide ++ L1) = S
theorem sbk_a21 {L0 L1 : ByteArray} {wide long : Bool} {d s disp imm : Int} {cc : Int} {Q : SV → Prop} {S : ByteArray} (H : Sh_a21 L0 L1 wide long d s disp imm Q S) : sb_a21 L0 L1 wide long d s disp imm cc Q := by
  unfold sb_a21
  exact (u7i (u7i ⟨fun h1 => ⟨(in_cl d), (u7i ⟨(in_cl s), (u7i ⟨(zz H.l0 (zR (in_cl d))), (zz (zA H.l0 (zR (in_cl d))) H.l1), (H.q _ (H.e0 h1))⟩)⟩)⟩, fun h2 => ⟨(in_cl d), (u7i ⟨(in_cl s), (u7i ⟨(zz H.l0 (zR (in_cl d))), (zz (zA H.l0 (zR (in_cl d))) H.l1), (H.q _ (H.e1 h2))⟩)⟩)⟩⟩))
structure Sh_a23 (L0 : ByteArray) (wide long : Bool) (d s disp imm : Int) (Q : SV → Prop) (S : ByteArray) : Prop where
  q : ∀ V, V = S → Q (SV.strE V)
  p : ∀ V, V = S → Q (SV.str V)
  hd : in15 d
  l0 : L0.size ≤ 16
  e0 : long = true → (L0 ++ regB d true) = S
  e1 : long = false → (L0 ++ regB d true) = S
theorem sbk_a23 {L0 : ByteArray} {wide long : Bool} {d s disp imm : Int} {cc : Int} {Q : SV → Prop} {S : ByteArray} (H : Sh_a23 L0 wide long d s disp imm Q S) : sb_a23 L0 wide long d s disp imm cc Q := by
  unfold sb_a23
  exact (u7i (u7i ⟨fun h1 => ⟨(in_cl d), (u7i ⟨(in_cl s), (u7i ⟨H.hd, (zz H.l0 (zR H.hd)), (H.q _ (H.e0 h1))⟩)⟩)⟩, fun h2 => ⟨(in_cl d), (u7i ⟨(in_cl s), (u7i ⟨H.hd, (zz H.l0 (zR H.hd)), (H.q _ (H.e1 h2))⟩)⟩)⟩⟩))
structure Sh_a25 (L0 L1 : ByteArray) (wide long : Bool) (d s disp imm : Int) (Q : SV → Prop) (S : ByteArray) : Prop where
  q : ∀ V, V = S → Q (SV.strE V)
  p : ∀ V, V = S → Q (SV.str V)
  l0 : L0.size ≤ 16
  l1 : L1.size ≤ 16
  n_imm : in64 imm
  e0 : long = true → (L0 ++ sgnB imm) = S
  e1 : long = false → (L1 ++ sgnB imm) = S
theorem sbk_a25 {L0 L1 : ByteArray} {wide long : Bool} {d s disp imm : Int} {cc : Int} {Q : SV → Prop} {S : ByteArray} (H : Sh_a25 L0 L1 wide long d s disp imm Q S) : sb_a25 L0 L1 wide long d s disp imm cc Q := by
  unfold sb_a25
  exact (u7i (u7i ⟨fun h1 => ⟨(in_cl d), (u7i ⟨(in_cl s), (u7i ⟨H.n_imm, (zz H.l0 (zS H.n_imm)), (H.q _ (H.e0 h1))⟩)⟩)⟩, fun h2 => ⟨(in_cl d), (u7i ⟨(in_cl s), (u7i ⟨H.n_imm, (zz H.l1 (zS H.n_imm)), (H.q _ (H.e1 h2))⟩)⟩)⟩⟩))
structure Sh_a27 (L0 : ByteArray) (wide long : Bool) (d s disp imm : Int) (Q : SV → Prop) (S : ByteArray) : Prop where
  q : ∀ V, V = S → Q (SV.strE V)
  p : ∀ V, V = S → Q (SV.str V)
  e0 : long = true → L0 = S
  e1 : long = false → L0 = S
theorem sbk_a27 {L0 : ByteArray} {wide long : Bool} {d s disp imm : Int} {cc : Int} {Q : SV → Prop} {S : ByteArray} (H : Sh_a27 L0 wide long d s disp imm Q S) : sb_a27 L0 wide long d s disp imm cc Q := by
  unfold sb_a27
  exact (u7i (u7i ⟨fun h1 => ⟨(in_cl d), (u7i ⟨(in_cl s), (u7i (H.p _ (H.e0 h1)))⟩)⟩, fun h2 => ⟨(in_cl d), (u7i ⟨(in_cl s), (u7i (H.p _ (H.e1 h2)))⟩)⟩⟩))
structure Sh_a26_2 (L0 L1 L2 L3 L4 L5 L6 : ByteArray) (wide long : Bool) (d s disp imm : Int) (Q : SV → Prop) (S : ByteArray) : Prop where
  q : ∀ V, V = S → Q (SV.strE V)
  p : ∀ V, V = S → Q (SV.str V)
  l4 : L4.size ≤ 16
  l6 : L6.size ≤ 16
  n_imm : in64 imm
  e0 : long = true → (L0 ++ L1 ++ L2 ++ L3 ++ sgnB imm) = S
  e1 : long = true → L4 ++ sgnB imm = L0 ++ L1 ++ L2 ++ L3 ++ sgnB imm
  e2 : long = false → (L0 ++ L1 ++ L5 ++ L3 ++ sgnB imm) = S
  e3 : long = false → L6 ++ sgnB imm = L0 ++ L1 ++ L5 ++ L3 ++ sgnB imm
theorem sbk_a26_2 {L0 L1 L2 L3 L4 L5 L6 : ByteArray} {wide long : Bool} {d s disp imm : Int} {NL CB : Nat} {b : Nat × (Nat → Int)} {Q : SV → Prop} {S : ByteArray} (H : Sh_a26_2 L0 L1 L2 L3 L4 L5 L6 wide long d s disp imm Q S) : sb_a26_2 L0 L1 L2 L3 L4 L5 L6 wide long d s disp imm NL CB b Q := by
  unfold sb_a26_2
  exact (u6i (u6i ⟨fun h1 => ⟨(in_cl d), (u6i ⟨(in_cl s), (u6i ⟨(H.q _ (H.e0 h1)), (u6i ⟨(u6i ⟨H.n_imm, (u6i ⟨(zz H.l4 (zS H.n_imm)), (u6i (u6i ⟨(H.e1 h1), rfl, rfl, rfl, rfl, rfl, rfl, (u6i ⟨rfl, rfl, rfl, rfl, rfl, rfl, rfl, rfl, rfl, rfl, rfl, rfl, rfl, rfl, rfl, rfl, (H.e1 h1), (u6i ⟨rfl, rfl, trivial⟩)⟩)⟩))⟩)⟩), H.n_imm, (u6i (u6i ⟨(zz H.l4 (zS H.n_imm)), (u6i (u6i ⟨(H.e1 h1), rfl, rfl, rfl, rfl, rfl, rfl, (u6i ⟨rfl, rfl, rfl, rfl, rfl, rfl, rfl, rfl, rfl, rfl, rfl, rfl, rfl, rfl, rfl, rfl, (H.e1 h1), (u6i ⟨rfl, rfl, trivial⟩)⟩)⟩))⟩))⟩), H.n_imm, (u6i (u6i (u6i ⟨(zz H.l4 (zS H.n_imm)), (u6i (u6i ⟨(H.e1 h1), rfl, rfl, rfl, rfl, rfl, rfl, (u6i ⟨rfl, rfl, rfl, rfl, rfl, rfl, rfl, rfl, rfl, rfl, rfl, rfl, rfl, rfl, rfl, rfl, (H.e1 h1), (u6i ⟨rfl, rfl, trivial⟩)⟩)⟩))⟩)))⟩)⟩)⟩, fun h2 => ⟨(in_cl d), (u6i ⟨(in_cl s), (u6i ⟨(H.q _ (H.e2 h2)), (u6i ⟨(u6i ⟨H.n_imm, (u6i ⟨(zz H.l6 (zS H.n_imm)), (u6i (u6i ⟨(H.e3 h2), rfl, rfl, rfl, rfl, rfl, rfl, (u6i ⟨rfl, rfl, rfl, rfl, rfl, rfl, rfl, rfl, rfl, rfl, rfl, rfl, rfl, rfl, rfl, rfl, (H.e3 h2), (u6i ⟨rfl, rfl, trivial⟩)⟩)⟩))⟩)⟩), H.n_imm, (u6i (u6i ⟨(zz H.l6 (zS H.n_imm)), (u6i (u6i ⟨(H.e3 h2), rfl, rfl, rfl, rfl, rfl, rfl, (u6i ⟨rfl, rfl, rfl, rfl, rfl, rfl, rfl, rfl, rfl, rfl, rfl, rfl, rfl, rfl, rfl, rfl, (H.e3 h2), (u6i ⟨rfl, rfl, trivial⟩)⟩)⟩))⟩))⟩), H.n_imm, (u6i (u6i (u6i ⟨(zz H.l6 (zS H.n_imm)), (u6i (u6i ⟨(H.e3 h2), rfl, rfl, rfl, rfl, rfl, rfl, (u6i ⟨rfl, rfl, rfl, rfl, rfl, rfl, rfl, rfl, rfl, rfl, rfl, rfl, rfl, rfl, rfl, rfl, (H.e3 h2), (u6i ⟨rfl, rfl, trivial⟩)⟩)⟩))⟩)))⟩)⟩)⟩⟩))
end Go.Proofs.YtajcmjjgnbaahaaDoor.Amd
