/- Show of both sides: the shapes hold. -/
import Derived.Test.YtajcmjjgnbaahaaDoorSw2
namespace Go.Proofs.YtajcmjjgnbaahaaDoor.Amd
open Go Go.Proofs.YtajcmjjgnbaahaaDoor.Sx Go.RowKit
set_option linter.unusedVariables false
set_option linter.unusedSimpArgs false
theorem zz {a b : ByteArray} {n m : Nat} (ha : a.size <= n) (hb : b.size <= m) (h : n + m <= 1000 := by decide) : szA a b := decide_eq_true (by omega)
theorem zA {a b : ByteArray} {n m : Nat} (ha : a.size <= n) (hb : b.size <= m) : (a ++ b).size <= n + m := by rw [ByteArray.size_append]; omega
theorem zR {r : Int} {w : Bool} (h : in15 r) : (regB r w).size <= 23 := regB_size w h.1 h.2
theorem zS {v : Int} (h : in64 v) : (sgnB v).size <= 22 := sgnB_size h
theorem zIt {v : Int} (h : in64 v) : (itoaB v).size <= 21 := (itoaB_size h).2
theorem in_cl (x : Int) : in15 (cl x) := by unfold in15 cl; simp only [IE.den]; omega
theorem u7i {wide long : Bool} {d s disp imm cc : Int} {R : Prop} (h : R) : u7 wide long d s disp imm cc R := ⟨rfl, rfl, rfl, rfl, rfl, rfl, rfl, h⟩
theorem u6i {wide long : Bool} {d s disp imm : Int} {R : Prop} (h : R) : u6 wide long d s disp imm R := ⟨rfl, rfl, rfl, rfl, rfl, rfl, h⟩
structure Sh_a1 (L0 L1 : ByteArray) (wide long : Bool) (d s disp imm : Int) (Q : SV -> Prop) (S : ByteArray) : Prop where
  q : ∀ V, V = S -> Q (SV.strE V)
  p : ∀ V, V = S -> Q (SV.str V)
  hd : in15 d
  l0 : L0.size <= 16
  l1 : L1.size <= 16
  n_imm : in64 imm
  e0 : long = true -> (L0 ++ regB d false ++ L1 ++ itoaB imm) = S
  e1 : long = false -> (L0 ++ regB d false ++ L1 ++ itoaB imm) = S
theorem sbk_a1 {L0 L1 : ByteArray} {wide long : Bool} {d s disp imm : Int} {cc : Int} {Q : SV -> Prop} {S : ByteArray} (H : Sh_a1 L0 L1 wide long d s disp imm Q S) : sb_a1 L0 L1 wide long d s disp imm cc Q := by
  unfold sb_a1
  exact (u7i (u7i ⟨fun h1 => ⟨(in_cl d), (u7i ⟨(in_cl s), (u7i ⟨H.hd, (u7i ⟨⟨(zz H.l0 (zR H.hd)), (u7i ⟨⟨(zz (zA H.l0 (zR H.hd)) H.l1), (u7i ⟨H.n_imm, (u7i ⟨(zz (zA (zA H.l0 (zR H.hd)) H.l1) (zIt H.n_imm)), (u7i (H.q _ (H.e0 h1)))⟩)⟩)⟩, H.n_imm, (u7i ⟨(zz (zA H.l0 (zR H.hd)) H.l1), (u7i ⟨(zz (zA (zA H.l0 (zR H.hd)) H.l1) (zIt H.n_imm)), (u7i (H.q _ (H.e0 h1)))⟩)⟩)⟩)⟩, H.n_imm, (u7i ⟨(zz H.l0 (zR H.hd)), (u7i ⟨(zz (zA H.l0 (zR H.hd)) H.l1), (u7i ⟨(zz (zA (zA H.l0 (zR H.hd)) H.l1) (zIt H.n_imm)), (u7i (H.q _ (H.e0 h1)))⟩)⟩)⟩)⟩)⟩)⟩)⟩, fun h2 => ⟨(in_cl d), (u7i ⟨(in_cl s), (u7i ⟨H.hd, (u7i ⟨⟨(zz H.l0 (zR H.hd)), (u7i ⟨⟨(zz (zA H.l0 (zR H.hd)) H.l1), (u7i ⟨H.n_imm, (u7i ⟨(zz (zA (zA H.l0 (zR H.hd)) H.l1) (zIt H.n_imm)), (u7i (H.q _ (H.e1 h2)))⟩)⟩)⟩, H.n_imm, (u7i ⟨(zz (zA H.l0 (zR H.hd)) H.l1), (u7i ⟨(zz (zA (zA H.l0 (zR H.hd)) H.l1) (zIt H.n_imm)), (u7i (H.q _ (H.e1 h2)))⟩)⟩)⟩)⟩, H.n_imm, (u7i ⟨(zz H.l0 (zR H.hd)), (u7i ⟨(zz (zA H.l0 (zR H.hd)) H.l1), (u7i ⟨(zz (zA (zA H.l0 (zR H.hd)) H.l1) (zIt H.n_imm)), (u7i (H.q _ (H.e1 h2)))⟩)⟩)⟩)⟩)⟩)⟩)⟩⟩))
structure Sh_a2 (L0 L1 : ByteArray) (wide long : Bool) (d s disp imm : Int) (Q : SV -> Prop) (S : ByteArray) : Prop where
  q : ∀ V, V = S -> Q (SV.strE V)
  p : ∀ V, V = S -> Q (SV.str V)
  l0 : L0.size <= 16
  l1 : L1.size <= 16
  e0 : long = true -> (L0 ++ regB (cl d) wide ++ L1 ++ regB (cl s) wide) = S
  e1 : long = false -> (L0 ++ regB (cl d) wide ++ L1 ++ regB (cl s) wide) = S
theorem sbk_a2 {L0 L1 : ByteArray} {wide long : Bool} {d s disp imm : Int} {cc : Int} {Q : SV -> Prop} {S : ByteArray} (H : Sh_a2 L0 L1 wide long d s disp imm Q S) : sb_a2 L0 L1 wide long d s disp imm cc Q := by
  unfold sb_a2
  exact (u7i (u7i ⟨fun h1 => ⟨(in_cl d), (u7i ⟨(in_cl s), (u7i ⟨(zz H.l0 (zR (in_cl d))), (zz (zA H.l0 (zR (in_cl d))) H.l1), (zz (zA (zA H.l0 (zR (in_cl d))) H.l1) (zR (in_cl s))), (H.q _ (H.e0 h1))⟩)⟩)⟩, fun h2 => ⟨(in_cl d), (u7i ⟨(in_cl s), (u7i ⟨(zz H.l0 (zR (in_cl d))), (zz (zA H.l0 (zR (in_cl d))) H.l1), (zz (zA (zA H.l0 (zR (in_cl d))) H.l1) (zR (in_cl s))), (H.q _ (H.e1 h2))⟩)⟩)⟩⟩))
structure Sh_a3 (L0 L1 L2 L3 L4 : ByteArray) (wide long : Bool) (d s disp imm : Int) (Q : SV -> Prop) (S : ByteArray) : Prop where
  q : ∀ V, V = S -> Q (SV.strE V)
  p : ∀ V, V = S -> Q (SV.str V)
  hs : in15 s
  l0 : L0.size <= 16
  l1 : L1.size <= 16
  l2 : L2.size <= 16
  l3 : L3.size <= 16
  l4 : L4.size <= 16
  n_disp : in64 disp
  e0 : long = true -> (L0 ++ regB (cl d) wide ++ L1 ++ (L2 ++ regB s true ++ sgnB disp ++ L3)) = S
  e1 : long = false -> (L4 ++ regB (cl d) wide ++ L1 ++ (L2 ++ regB s true ++ sgnB disp ++ L3)) = S
theorem sbk_a3 {L0 L1 L2 L3 L4 : ByteArray} {wide long : Bool} {d s disp imm : Int} {cc : Int} {Q : SV -> Prop} {S : ByteArray} (H : Sh_a3 L0 L1 L2 L3 L4 wide long d s disp imm Q S) : sb_a3 L0 L1 L2 L3 L4 wide long d s disp imm cc Q := by
  unfold sb_a3
  exact (u7i (u7i ⟨fun h1 => ⟨(in_cl d), (u7i ⟨(in_cl s), (u7i ⟨(zz H.l0 (zR (in_cl d))), (zz (zA H.l0 (zR (in_cl d))) H.l1), H.hs, (zz H.l2 (zR H.hs)), H.n_disp, (zz (zA H.l2 (zR H.hs)) (zS H.n_disp)), (zz (zA (zA H.l2 (zR H.hs)) (zS H.n_disp)) H.l3), (zz (zA (zA H.l0 (zR (in_cl d))) H.l1) (zA (zA (zA H.l2 (zR H.hs)) (zS H.n_disp)) H.l3)), (H.q _ (H.e0 h1))⟩)⟩)⟩, fun h2 => ⟨(in_cl d), (u7i ⟨(in_cl s), (u7i ⟨(zz H.l4 (zR (in_cl d))), (zz (zA H.l4 (zR (in_cl d))) H.l1), H.hs, (zz H.l2 (zR H.hs)), H.n_disp, (zz (zA H.l2 (zR H.hs)) (zS H.n_disp)), (zz (zA (zA H.l2 (zR H.hs)) (zS H.n_disp)) H.l3), (zz (zA (zA H.l4 (zR (in_cl d))) H.l1) (zA (zA (zA H.l2 (zR H.hs)) (zS H.n_disp)) H.l3)), (H.q _ (H.e1 h2))⟩)⟩)⟩⟩))
structure Sh_a4 (L0 L1 L2 L3 L4 : ByteArray) (wide long : Bool) (d s disp imm : Int) (Q : SV -> Prop) (S : ByteArray) : Prop where
  q : ∀ V, V = S -> Q (SV.strE V)
  p : ∀ V, V = S -> Q (SV.str V)
  hd : in15 d
  l0 : L0.size <= 16
  l1 : L1.size <= 16
  l2 : L2.size <= 16
  l3 : L3.size <= 16
  l4 : L4.size <= 16
  n_disp : in64 disp
  e0 : long = true -> (L2 ++ (L0 ++ regB d true ++ sgnB disp ++ L1) ++ L3 ++ regB (cl s) wide) = S
  e1 : long = false -> (L4 ++ (L0 ++ regB d true ++ sgnB disp ++ L1) ++ L3 ++ regB (cl s) wide) = S
theorem sbk_a4 {L0 L1 L2 L3 L4 : ByteArray} {wide long : Bool} {d s disp imm : Int} {cc : Int} {Q : SV -> Prop} {S : ByteArray} (H : Sh_a4 L0 L1 L2 L3 L4 wide long d s disp imm Q S) : sb_a4 L0 L1 L2 L3 L4 wide long d s disp imm cc Q := by
  unfold sb_a4
  exact (u7i (u7i ⟨fun h1 => ⟨(in_cl d), (u7i ⟨(in_cl s), (u7i ⟨H.hd, (zz H.l0 (zR H.hd)), H.n_disp, (zz (zA H.l0 (zR H.hd)) (zS H.n_disp)), (zz (zA (zA H.l0 (zR H.hd)) (zS H.n_disp)) H.l1), (zz H.l2 (zA (zA (zA H.l0 (zR H.hd)) (zS H.n_disp)) H.l1)), (zz (zA H.l2 (zA (zA (zA H.l0 (zR H.hd)) (zS H.n_disp)) H.l1)) H.l3), (zz (zA (zA H.l2 (zA (zA (zA H.l0 (zR H.hd)) (zS H.n_disp)) H.l1)) H.l3) (zR (in_cl s))), (H.q _ (H.e0 h1))⟩)⟩)⟩, fun h2 => ⟨(in_cl d), (u7i ⟨(in_cl s), (u7i ⟨H.hd, (zz H.l0 (zR H.hd)), H.n_disp, (zz (zA H.l0 (zR H.hd)) (zS H.n_disp)), (zz (zA (zA H.l0 (zR H.hd)) (zS H.n_disp)) H.l1), (zz H.l4 (zA (zA (zA H.l0 (zR H.hd)) (zS H.n_disp)) H.l1)), (zz (zA H.l4 (zA (zA (zA H.l0 (zR H.hd)) (zS H.n_disp)) H.l1)) H.l3), (zz (zA (zA H.l4 (zA (zA (zA H.l0 (zR H.hd)) (zS H.n_disp)) H.l1)) H.l3) (zR (in_cl s))), (H.q _ (H.e1 h2))⟩)⟩)⟩⟩))
structure Sh_a14 (L0 L1 L2 : ByteArray) (wide long : Bool) (d s disp imm : Int) (Q : SV -> Prop) (S : ByteArray) : Prop where
  q : ∀ V, V = S -> Q (SV.strE V)
  p : ∀ V, V = S -> Q (SV.str V)
  l0 : L0.size <= 16
  l1 : L1.size <= 16
  l2 : L2.size <= 16
  n_imm : in64 imm
  e0 : long = true -> (L0 ++ regB (cl d) wide ++ L1 ++ itoaB imm) = S
  e1 : long = false -> (L2 ++ regB (cl d) wide ++ L1 ++ itoaB imm) = S
theorem sbk_a14 {L0 L1 L2 : ByteArray} {wide long : Bool} {d s disp imm : Int} {cc : Int} {Q : SV -> Prop} {S : ByteArray} (H : Sh_a14 L0 L1 L2 wide long d s disp imm Q S) : sb_a14 L0 L1 L2 wide long d s disp imm cc Q := by
  unfold sb_a14
  exact (u7i (u7i ⟨fun h1 => ⟨(in_cl d), (u7i ⟨(in_cl s), (u7i ⟨(zz H.l0 (zR (in_cl d))), (zz (zA H.l0 (zR (in_cl d))) H.l1), H.n_imm, (zz (zA (zA H.l0 (zR (in_cl d))) H.l1) (zIt H.n_imm)), (H.q _ (H.e0 h1))⟩)⟩)⟩, fun h2 => ⟨(in_cl d), (u7i ⟨(in_cl s), (u7i ⟨(zz H.l2 (zR (in_cl d))), (zz (zA H.l2 (zR (in_cl d))) H.l1), H.n_imm, (zz (zA (zA H.l2 (zR (in_cl d))) H.l1) (zIt H.n_imm)), (H.q _ (H.e1 h2))⟩)⟩)⟩⟩))
structure Sh_a18 (L0 : ByteArray) (wide long : Bool) (d s disp imm : Int) (Q : SV -> Prop) (S : ByteArray) : Prop where
  q : ∀ V, V = S -> Q (SV.strE V)
  p : ∀ V, V = S -> Q (SV.str V)
  l0 : L0.size <= 16
  e0 : long = true -> (L0 ++ regB (cl d) wide) = S
  e1 : long = false -> (L0 ++ regB (cl d) wide) = S
theorem sbk_a18 {L0 : ByteArray} {wide long : Bool} {d s disp imm : Int} {cc : Int} {Q : SV -> Prop} {S : ByteArray} (H : Sh_a18 L0 wide long d s disp imm Q S) : sb_a18 L0 wide long d s disp imm cc Q := by
  unfold sb_a18
  exact (u7i (u7i ⟨fun h1 => ⟨(in_cl d), (u7i ⟨(in_cl s), (u7i ⟨(zz H.l0 (zR (in_cl d))), (H.q _ (H.e0 h1))⟩)⟩)⟩, fun h2 => ⟨(in_cl d), (u7i ⟨(in_cl s), (u7i ⟨(zz H.l0 (zR (in_cl d))), (H.q _ (H.e1 h2))⟩)⟩)⟩⟩))
structure Sh_a21 (L0 L1 : ByteArray) (wide long : Bool) (d s disp imm : Int) (Q : SV -> Prop) (S : ByteArray) : Prop where
  q : ∀ V, V = S -> Q (SV.strE V)
  p : ∀ V, V = S -> Q (SV.str V)
  l0 : L0.size <= 16
  l1 : L1.size <= 16
  e0 : long = true -> (L0 ++ regB (cl d) wide ++ L1) = S
  e1 : long = false -> (L0 ++ regB (cl d) wide ++ L1) = S
theorem sbk_a21 {L0 L1 : ByteArray} {wide long : Bool} {d s disp imm : Int} {cc : Int} {Q : SV -> Prop} {S : ByteArray} (H : Sh_a21 L0 L1 wide long d s disp imm Q S) : sb_a21 L0 L1 wide long d s disp imm cc Q := by
  unfold sb_a21
  exact (u7i (u7i ⟨fun h1 => ⟨(in_cl d), (u7i ⟨(in_cl s), (u7i ⟨(zz H.l0 (zR (in_cl d))), (zz (zA H.l0 (zR (in_cl d))) H.l1), (H.q _ (H.e0 h1))⟩)⟩)⟩, fun h2 => ⟨(in_cl d), (u7i ⟨(in_cl s), (u7i ⟨(zz H.l0 (zR (in_cl d))), (zz (zA H.l0 (zR (in_cl d))) H.l1), (H.q _ (H.e1 h2))⟩)⟩)⟩⟩))
structure Sh_a23 (L0 : ByteArray) (wide long : Bool) (d s disp imm : Int) (Q : SV -> Prop) (S : ByteArray) : Prop where
  q : ∀ V, V = S -> Q (SV.strE V)
  p : ∀ V, V = S -> Q (SV.str V)
  hd : in15 d
  l0 : L0.size <= 16
  e0 : long = true -> (L0 ++ regB d true) = S
  e1 : long = false -> (L0 ++ regB d true) = S
theorem sbk_a23 {L0 : ByteArray} {wide long : Bool} {d s disp imm : Int} {cc : Int} {Q : SV -> Prop} {S : ByteArray} (H : Sh_a23 L0 wide long d s disp imm Q S) : sb_a23 L0 wide long d s disp imm cc Q := by
  unfold sb_a23
  exact (u7i (u7i ⟨fun h1 => ⟨(in_cl d), (u7i ⟨(in_cl s), (u7i ⟨H.hd, (zz H.l0 (zR H.hd)), (H.q _ (H.e0 h1))⟩)⟩)⟩, fun h2 => ⟨(in_cl d), (u7i ⟨(in_cl s), (u7i ⟨H.hd, (zz H.l0 (zR H.hd)), (H.q _ (H.e1 h2))⟩)⟩)⟩⟩))
structure Sh_a25 (L0 L1 : ByteArray) (wide long : Bool) (d s disp imm : Int) (Q : SV -> Prop) (S : ByteArray) : Prop where
  q : ∀ V, V = S -> Q (SV.strE V)
  p : ∀ V, V = S -> Q (SV.str V)
  l0 : L0.size <= 16
  l1 : L1.size <= 16
  n_imm : in64 imm
  e0 : long = true -> (L0 ++ sgnB imm) = S
  e1 : long = false -> (L1 ++ sgnB imm) = S
theorem sbk_a25 {L0 L1 : ByteArray} {wide long : Bool} {d s disp imm : Int} {cc : Int} {Q : SV -> Prop} {S : ByteArray} (H : Sh_a25 L0 L1 wide long d s disp imm Q S) : sb_a25 L0 L1 wide long d s disp imm cc Q := by
  unfold sb_a25
  exact (u7i (u7i ⟨fun h1 => ⟨(in_cl d), (u7i ⟨(in_cl s), (u7i ⟨H.n_imm, (zz H.l0 (zS H.n_imm)), (H.q _ (H.e0 h1))⟩)⟩)⟩, fun h2 => ⟨(in_cl d), (u7i ⟨(in_cl s), (u7i ⟨H.n_imm, (zz H.l1 (zS H.n_imm)), (H.q _ (H.e1 h2))⟩)⟩)⟩⟩))
structure Sh_a27 (L0 : ByteArray) (wide long : Bool) (d s disp imm : Int) (Q : SV -> Prop) (S : ByteArray) : Prop where
  q : ∀ V, V = S -> Q (SV.strE V)
  p : ∀ V, V = S -> Q (SV.str V)
  e0 : long = true -> L0 = S
  e1 : long = false -> L0 = S
theorem sbk_a27 {L0 : ByteArray} {wide long : Bool} {d s disp imm : Int} {cc : Int} {Q : SV -> Prop} {S : ByteArray} (H : Sh_a27 L0 wide long d s disp imm Q S) : sb_a27 L0 wide long d s disp imm cc Q := by
  unfold sb_a27
  exact (u7i (u7i ⟨fun h1 => ⟨(in_cl d), (u7i ⟨(in_cl s), (u7i (H.p _ (H.e0 h1)))⟩)⟩, fun h2 => ⟨(in_cl d), (u7i ⟨(in_cl s), (u7i (H.p _ (H.e1 h2)))⟩)⟩⟩))
structure Sh_a26_2 (L0 L1 L2 L3 L4 L5 L6 : ByteArray) (wide long : Bool) (d s disp imm : Int) (Q : SV -> Prop) (S : ByteArray) : Prop where
  q : ∀ V, V = S -> Q (SV.strE V)
  p : ∀ V, V = S -> Q (SV.str V)
  l4 : L4.size <= 16
  l6 : L6.size <= 16
  n_imm : in64 imm
  e0 : long = true -> (L0 ++ L1 ++ L2 ++ L3 ++ sgnB imm) = S
  e1 : long = true -> L4 ++ sgnB imm = L0 ++ L1 ++ L2 ++ L3 ++ sgnB imm
  e2 : long = false -> (L0 ++ L1 ++ L5 ++ L3 ++ sgnB imm) = S
  e3 : long = false -> L6 ++ sgnB imm = L0 ++ L1 ++ L5 ++ L3 ++ sgnB imm
theorem sbk_a26_2 {L0 L1 L2 L3 L4 L5 L6 : ByteArray} {wide long : Bool} {d s disp imm : Int} {NL CB : Nat} {b : Nat × (Nat -> Int)} {Q : SV -> Prop} {S : ByteArray} (H : Sh_a26_2 L0 L1 L2 L3 L4 L5 L6 wide long d s disp imm Q S) : sb_a26_2 L0 L1 L2 L3 L4 L5 L6 wide long d s disp imm NL CB b Q := by
  unfold sb_a26_2
  exact (u6i (u6i ⟨fun h1 => ⟨(in_cl d), (u6i ⟨(in_cl s), (u6i ⟨(H.q _ (H.e0 h1)), (u6i ⟨(u6i ⟨H.n_imm, (u6i ⟨(zz H.l4 (zS H.n_imm)), (u6i (u6i ⟨(H.e1 h1), rfl, rfl, rfl, rfl, rfl, rfl, (u6i ⟨rfl, rfl, rfl, rfl, rfl, rfl, rfl, rfl, rfl, rfl, rfl, rfl, rfl, rfl, rfl, rfl, (H.e1 h1), (u6i ⟨rfl, rfl, trivial⟩)⟩)⟩))⟩)⟩), H.n_imm, (u6i (u6i ⟨(zz H.l4 (zS H.n_imm)), (u6i (u6i ⟨(H.e1 h1), rfl, rfl, rfl, rfl, rfl, rfl, (u6i ⟨rfl, rfl, rfl, rfl, rfl, rfl, rfl, rfl, rfl, rfl, rfl, rfl, rfl, rfl, rfl, rfl, (H.e1 h1), (u6i ⟨rfl, rfl, trivial⟩)⟩)⟩))⟩))⟩), H.n_imm, (u6i (u6i (u6i ⟨(zz H.l4 (zS H.n_imm)), (u6i (u6i ⟨(H.e1 h1), rfl, rfl, rfl, rfl, rfl, rfl, (u6i ⟨rfl, rfl, rfl, rfl, rfl, rfl, rfl, rfl, rfl, rfl, rfl, rfl, rfl, rfl, rfl, rfl, (H.e1 h1), (u6i ⟨rfl, rfl, trivial⟩)⟩)⟩))⟩)))⟩)⟩)⟩, fun h2 => ⟨(in_cl d), (u6i ⟨(in_cl s), (u6i ⟨(H.q _ (H.e2 h2)), (u6i ⟨(u6i ⟨H.n_imm, (u6i ⟨(zz H.l6 (zS H.n_imm)), (u6i (u6i ⟨(H.e3 h2), rfl, rfl, rfl, rfl, rfl, rfl, (u6i ⟨rfl, rfl, rfl, rfl, rfl, rfl, rfl, rfl, rfl, rfl, rfl, rfl, rfl, rfl, rfl, rfl, (H.e3 h2), (u6i ⟨rfl, rfl, trivial⟩)⟩)⟩))⟩)⟩), H.n_imm, (u6i (u6i ⟨(zz H.l6 (zS H.n_imm)), (u6i (u6i ⟨(H.e3 h2), rfl, rfl, rfl, rfl, rfl, rfl, (u6i ⟨rfl, rfl, rfl, rfl, rfl, rfl, rfl, rfl, rfl, rfl, rfl, rfl, rfl, rfl, rfl, rfl, (H.e3 h2), (u6i ⟨rfl, rfl, trivial⟩)⟩)⟩))⟩))⟩), H.n_imm, (u6i (u6i (u6i ⟨(zz H.l6 (zS H.n_imm)), (u6i (u6i ⟨(H.e3 h2), rfl, rfl, rfl, rfl, rfl, rfl, (u6i ⟨rfl, rfl, rfl, rfl, rfl, rfl, rfl, rfl, rfl, rfl, rfl, rfl, rfl, rfl, rfl, rfl, (H.e3 h2), (u6i ⟨rfl, rfl, trivial⟩)⟩)⟩))⟩)))⟩)⟩)⟩⟩))
structure Sh_r3 (L0 L1 L2 L3 : ByteArray) (wide long : Bool) (d s disp imm : Int) (Q : SV -> Prop) (S : ByteArray) : Prop where
  q : ∀ V, V = S -> Q (SV.strE V)
  p : ∀ V, V = S -> Q (SV.str V)
  hd : in15 d
  hs : in15 s
  l0 : L0.size <= 16
  l1 : L1.size <= 16
  l2 : L2.size <= 16
  l3 : L3.size <= 16
  n_disp : in64 disp
  e0 : long = true -> wide = true -> (L0 ++ regB d true ++ L1 ++ regB s true ++ sgnB disp ++ L2) = S
  e1 : long = true -> wide = false -> (L0 ++ regB d false ++ L1 ++ regB s true ++ sgnB disp ++ L2) = S
  e2 : long = false -> wide = true -> (L3 ++ regB d true ++ L1 ++ regB s true ++ sgnB disp ++ L2) = S
  e3 : long = false -> wide = false -> (L3 ++ regB d false ++ L1 ++ regB s true ++ sgnB disp ++ L2) = S
theorem sbk_r3 {L0 L1 L2 L3 : ByteArray} {wide long : Bool} {d s disp imm : Int} {cc : Int} {Q : SV -> Prop} {S : ByteArray} (H : Sh_r3 L0 L1 L2 L3 wide long d s disp imm Q S) : sb_r3 L0 L1 L2 L3 wide long d s disp imm cc Q := by
  unfold sb_r3
  exact ⟨fun h1 => ⟨fun h2 => ⟨H.hd, H.hs, ⟨(zz H.l0 (zR H.hd)), (u7i ⟨⟨(zz (zA H.l0 (zR H.hd)) H.l1), (u7i ⟨H.hs, (u7i ⟨⟨(zz (zA (zA H.l0 (zR H.hd)) H.l1) (zR H.hs)), (u7i ⟨H.n_disp, (u7i ⟨(zz (zA (zA (zA H.l0 (zR H.hd)) H.l1) (zR H.hs)) (zS H.n_disp)), (u7i ⟨(zz (zA (zA (zA (zA H.l0 (zR H.hd)) H.l1) (zR H.hs)) (zS H.n_disp)) H.l2), (u7i (H.q _ (H.e0 h1 h2)))⟩)⟩)⟩)⟩, H.n_disp, (u7i ⟨(zz (zA (zA H.l0 (zR H.hd)) H.l1) (zR H.hs)), (u7i ⟨(zz (zA (zA (zA H.l0 (zR H.hd)) H.l1) (zR H.hs)) (zS H.n_disp)), (u7i ⟨(zz (zA (zA (zA (zA H.l0 (zR H.hd)) H.l1) (zR H.hs)) (zS H.n_disp)) H.l2), (u7i (H.q _ (H.e0 h1 h2)))⟩)⟩)⟩)⟩)⟩)⟩, H.hs, (u7i ⟨⟨(zz (zA H.l0 (zR H.hd)) H.l1), (u7i ⟨⟨(zz (zA (zA H.l0 (zR H.hd)) H.l1) (zR H.hs)), (u7i ⟨H.n_disp, (u7i ⟨(zz (zA (zA (zA H.l0 (zR H.hd)) H.l1) (zR H.hs)) (zS H.n_disp)), (u7i ⟨(zz (zA (zA (zA (zA H.l0 (zR H.hd)) H.l1) (zR H.hs)) (zS H.n_disp)) H.l2), (u7i (H.q _ (H.e0 h1 h2)))⟩)⟩)⟩)⟩, H.n_disp, (u7i ⟨(zz (zA (zA H.l0 (zR H.hd)) H.l1) (zR H.hs)), (u7i ⟨(zz (zA (zA (zA H.l0 (zR H.hd)) H.l1) (zR H.hs)) (zS H.n_disp)), (u7i ⟨(zz (zA (zA (zA (zA H.l0 (zR H.hd)) H.l1) (zR H.hs)) (zS H.n_disp)) H.l2), (u7i (H.q _ (H.e0 h1 h2)))⟩)⟩)⟩)⟩)⟩, H.n_disp, (u7i ⟨(zz (zA H.l0 (zR H.hd)) H.l1), (u7i ⟨(zz (zA (zA H.l0 (zR H.hd)) H.l1) (zR H.hs)), (u7i ⟨(zz (zA (zA (zA H.l0 (zR H.hd)) H.l1) (zR H.hs)) (zS H.n_disp)), (u7i ⟨(zz (zA (zA (zA (zA H.l0 (zR H.hd)) H.l1) (zR H.hs)) (zS H.n_disp)) H.l2), (u7i (H.q _ (H.e0 h1 h2)))⟩)⟩)⟩)⟩)⟩)⟩)⟩, H.hs, (u7i ⟨⟨(zz H.l0 (zR H.hd)), (u7i ⟨⟨(zz (zA H.l0 (zR H.hd)) H.l1), (u7i ⟨⟨(zz (zA (zA H.l0 (zR H.hd)) H.l1) (zR H.hs)), (u7i ⟨H.n_disp, (u7i ⟨(zz (zA (zA (zA H.l0 (zR H.hd)) H.l1) (zR H.hs)) (zS H.n_disp)), (u7i ⟨(zz (zA (zA (zA (zA H.l0 (zR H.hd)) H.l1) (zR H.hs)) (zS H.n_disp)) H.l2), (u7i (H.q _ (H.e0 h1 h2)))⟩)⟩)⟩)⟩, H.n_disp, (u7i ⟨(zz (zA (zA H.l0 (zR H.hd)) H.l1) (zR H.hs)), (u7i ⟨(zz (zA (zA (zA H.l0 (zR H.hd)) H.l1) (zR H.hs)) (zS H.n_disp)), (u7i ⟨(zz (zA (zA (zA (zA H.l0 (zR H.hd)) H.l1) (zR H.hs)) (zS H.n_disp)) H.l2), (u7i (H.q _ (H.e0 h1 h2)))⟩)⟩)⟩)⟩)⟩, H.n_disp, (u7i ⟨(zz (zA H.l0 (zR H.hd)) H.l1), (u7i ⟨(zz (zA (zA H.l0 (zR H.hd)) H.l1) (zR H.hs)), (u7i ⟨(zz (zA (zA (zA H.l0 (zR H.hd)) H.l1) (zR H.hs)) (zS H.n_disp)), (u7i ⟨(zz (zA (zA (zA (zA H.l0 (zR H.hd)) H.l1) (zR H.hs)) (zS H.n_disp)) H.l2), (u7i (H.q _ (H.e0 h1 h2)))⟩)⟩)⟩)⟩)⟩)⟩, H.n_disp, (u7i ⟨(zz H.l0 (zR H.hd)), (u7i ⟨(zz (zA H.l0 (zR H.hd)) H.l1), (u7i ⟨(zz (zA (zA H.l0 (zR H.hd)) H.l1) (zR H.hs)), (u7i ⟨(zz (zA (zA (zA H.l0 (zR H.hd)) H.l1) (zR H.hs)) (zS H.n_disp)), (u7i ⟨(zz (zA (zA (zA (zA H.l0 (zR H.hd)) H.l1) (zR H.hs)) (zS H.n_disp)) H.l2), (u7i (H.q _ (H.e0 h1 h2)))⟩)⟩)⟩)⟩)⟩)⟩)⟩, fun h3 => ⟨H.hd, H.hs, ⟨(zz H.l0 (zR H.hd)), (u7i ⟨⟨(zz (zA H.l0 (zR H.hd)) H.l1), (u7i ⟨H.hs, (u7i ⟨⟨(zz (zA (zA H.l0 (zR H.hd)) H.l1) (zR H.hs)), (u7i ⟨H.n_disp, (u7i ⟨(zz (zA (zA (zA H.l0 (zR H.hd)) H.l1) (zR H.hs)) (zS H.n_disp)), (u7i ⟨(zz (zA (zA (zA (zA H.l0 (zR H.hd)) H.l1) (zR H.hs)) (zS H.n_disp)) H.l2), (u7i (H.q _ (H.e1 h1 h3)))⟩)⟩)⟩)⟩, H.n_disp, (u7i ⟨(zz (zA (zA H.l0 (zR H.hd)) H.l1) (zR H.hs)), (u7i ⟨(zz (zA (zA (zA H.l0 (zR H.hd)) H.l1) (zR H.hs)) (zS H.n_disp)), (u7i ⟨(zz (zA (zA (zA (zA H.l0 (zR H.hd)) H.l1) (zR H.hs)) (zS H.n_disp)) H.l2), (u7i (H.q _ (H.e1 h1 h3)))⟩)⟩)⟩)⟩)⟩)⟩, H.hs, (u7i ⟨⟨(zz (zA H.l0 (zR H.hd)) H.l1), (u7i ⟨⟨(zz (zA (zA H.l0 (zR H.hd)) H.l1) (zR H.hs)), (u7i ⟨H.n_disp, (u7i ⟨(zz (zA (zA (zA H.l0 (zR H.hd)) H.l1) (zR H.hs)) (zS H.n_disp)), (u7i ⟨(zz (zA (zA (zA (zA H.l0 (zR H.hd)) H.l1) (zR H.hs)) (zS H.n_disp)) H.l2), (u7i (H.q _ (H.e1 h1 h3)))⟩)⟩)⟩)⟩, H.n_disp, (u7i ⟨(zz (zA (zA H.l0 (zR H.hd)) H.l1) (zR H.hs)), (u7i ⟨(zz (zA (zA (zA H.l0 (zR H.hd)) H.l1) (zR H.hs)) (zS H.n_disp)), (u7i ⟨(zz (zA (zA (zA (zA H.l0 (zR H.hd)) H.l1) (zR H.hs)) (zS H.n_disp)) H.l2), (u7i (H.q _ (H.e1 h1 h3)))⟩)⟩)⟩)⟩)⟩, H.n_disp, (u7i ⟨(zz (zA H.l0 (zR H.hd)) H.l1), (u7i ⟨(zz (zA (zA H.l0 (zR H.hd)) H.l1) (zR H.hs)), (u7i ⟨(zz (zA (zA (zA H.l0 (zR H.hd)) H.l1) (zR H.hs)) (zS H.n_disp)), (u7i ⟨(zz (zA (zA (zA (zA H.l0 (zR H.hd)) H.l1) (zR H.hs)) (zS H.n_disp)) H.l2), (u7i (H.q _ (H.e1 h1 h3)))⟩)⟩)⟩)⟩)⟩)⟩)⟩, H.hs, (u7i ⟨⟨(zz H.l0 (zR H.hd)), (u7i ⟨⟨(zz (zA H.l0 (zR H.hd)) H.l1), (u7i ⟨⟨(zz (zA (zA H.l0 (zR H.hd)) H.l1) (zR H.hs)), (u7i ⟨H.n_disp, (u7i ⟨(zz (zA (zA (zA H.l0 (zR H.hd)) H.l1) (zR H.hs)) (zS H.n_disp)), (u7i ⟨(zz (zA (zA (zA (zA H.l0 (zR H.hd)) H.l1) (zR H.hs)) (zS H.n_disp)) H.l2), (u7i (H.q _ (H.e1 h1 h3)))⟩)⟩)⟩)⟩, H.n_disp, (u7i ⟨(zz (zA (zA H.l0 (zR H.hd)) H.l1) (zR H.hs)), (u7i ⟨(zz (zA (zA (zA H.l0 (zR H.hd)) H.l1) (zR H.hs)) (zS H.n_disp)), (u7i ⟨(zz (zA (zA (zA (zA H.l0 (zR H.hd)) H.l1) (zR H.hs)) (zS H.n_disp)) H.l2), (u7i (H.q _ (H.e1 h1 h3)))⟩)⟩)⟩)⟩)⟩, H.n_disp, (u7i ⟨(zz (zA H.l0 (zR H.hd)) H.l1), (u7i ⟨(zz (zA (zA H.l0 (zR H.hd)) H.l1) (zR H.hs)), (u7i ⟨(zz (zA (zA (zA H.l0 (zR H.hd)) H.l1) (zR H.hs)) (zS H.n_disp)), (u7i ⟨(zz (zA (zA (zA (zA H.l0 (zR H.hd)) H.l1) (zR H.hs)) (zS H.n_disp)) H.l2), (u7i (H.q _ (H.e1 h1 h3)))⟩)⟩)⟩)⟩)⟩)⟩, H.n_disp, (u7i ⟨(zz H.l0 (zR H.hd)), (u7i ⟨(zz (zA H.l0 (zR H.hd)) H.l1), (u7i ⟨(zz (zA (zA H.l0 (zR H.hd)) H.l1) (zR H.hs)), (u7i ⟨(zz (zA (zA (zA H.l0 (zR H.hd)) H.l1) (zR H.hs)) (zS H.n_disp)), (u7i ⟨(zz (zA (zA (zA (zA H.l0 (zR H.hd)) H.l1) (zR H.hs)) (zS H.n_disp)) H.l2), (u7i (H.q _ (H.e1 h1 h3)))⟩)⟩)⟩)⟩)⟩)⟩)⟩⟩, fun h4 => ⟨fun h5 => ⟨H.hd, H.hs, ⟨(zz H.l3 (zR H.hd)), (u7i ⟨⟨(zz (zA H.l3 (zR H.hd)) H.l1), (u7i ⟨H.hs, (u7i ⟨⟨(zz (zA (zA H.l3 (zR H.hd)) H.l1) (zR H.hs)), (u7i ⟨H.n_disp, (u7i ⟨(zz (zA (zA (zA H.l3 (zR H.hd)) H.l1) (zR H.hs)) (zS H.n_disp)), (u7i ⟨(zz (zA (zA (zA (zA H.l3 (zR H.hd)) H.l1) (zR H.hs)) (zS H.n_disp)) H.l2), (u7i (H.q _ (H.e2 h4 h5)))⟩)⟩)⟩)⟩, H.n_disp, (u7i ⟨(zz (zA (zA H.l3 (zR H.hd)) H.l1) (zR H.hs)), (u7i ⟨(zz (zA (zA (zA H.l3 (zR H.hd)) H.l1) (zR H.hs)) (zS H.n_disp)), (u7i ⟨(zz (zA (zA (zA (zA H.l3 (zR H.hd)) H.l1) (zR H.hs)) (zS H.n_disp)) H.l2), (u7i (H.q _ (H.e2 h4 h5)))⟩)⟩)⟩)⟩)⟩)⟩, H.hs, (u7i ⟨⟨(zz (zA H.l3 (zR H.hd)) H.l1), (u7i ⟨⟨(zz (zA (zA H.l3 (zR H.hd)) H.l1) (zR H.hs)), (u7i ⟨H.n_disp, (u7i ⟨(zz (zA (zA (zA H.l3 (zR H.hd)) H.l1) (zR H.hs)) (zS H.n_disp)), (u7i ⟨(zz (zA (zA (zA (zA H.l3 (zR H.hd)) H.l1) (zR H.hs)) (zS H.n_disp)) H.l2), (u7i (H.q _ (H.e2 h4 h5)))⟩)⟩)⟩)⟩, H.n_disp, (u7i ⟨(zz (zA (zA H.l3 (zR H.hd)) H.l1) (zR H.hs)), (u7i ⟨(zz (zA (zA (zA H.l3 (zR H.hd)) H.l1) (zR H.hs)) (zS H.n_disp)), (u7i ⟨(zz (zA (zA (zA (zA H.l3 (zR H.hd)) H.l1) (zR H.hs)) (zS H.n_disp)) H.l2), (u7i (H.q _ (H.e2 h4 h5)))⟩)⟩)⟩)⟩)⟩, H.n_disp, (u7i ⟨(zz (zA H.l3 (zR H.hd)) H.l1), (u7i ⟨(zz (zA (zA H.l3 (zR H.hd)) H.l1) (zR H.hs)), (u7i ⟨(zz (zA (zA (zA H.l3 (zR H.hd)) H.l1) (zR H.hs)) (zS H.n_disp)), (u7i ⟨(zz (zA (zA (zA (zA H.l3 (zR H.hd)) H.l1) (zR H.hs)) (zS H.n_disp)) H.l2), (u7i (H.q _ (H.e2 h4 h5)))⟩)⟩)⟩)⟩)⟩)⟩)⟩, H.hs, (u7i ⟨⟨(zz H.l3 (zR H.hd)), (u7i ⟨⟨(zz (zA H.l3 (zR H.hd)) H.l1), (u7i ⟨⟨(zz (zA (zA H.l3 (zR H.hd)) H.l1) (zR H.hs)), (u7i ⟨H.n_disp, (u7i ⟨(zz (zA (zA (zA H.l3 (zR H.hd)) H.l1) (zR H.hs)) (zS H.n_disp)), (u7i ⟨(zz (zA (zA (zA (zA H.l3 (zR H.hd)) H.l1) (zR H.hs)) (zS H.n_disp)) H.l2), (u7i (H.q _ (H.e2 h4 h5)))⟩)⟩)⟩)⟩, H.n_disp, (u7i ⟨(zz (zA (zA H.l3 (zR H.hd)) H.l1) (zR H.hs)), (u7i ⟨(zz (zA (zA (zA H.l3 (zR H.hd)) H.l1) (zR H.hs)) (zS H.n_disp)), (u7i ⟨(zz (zA (zA (zA (zA H.l3 (zR H.hd)) H.l1) (zR H.hs)) (zS H.n_disp)) H.l2), (u7i (H.q _ (H.e2 h4 h5)))⟩)⟩)⟩)⟩)⟩, H.n_disp, (u7i ⟨(zz (zA H.l3 (zR H.hd)) H.l1), (u7i ⟨(zz (zA (zA H.l3 (zR H.hd)) H.l1) (zR H.hs)), (u7i ⟨(zz (zA (zA (zA H.l3 (zR H.hd)) H.l1) (zR H.hs)) (zS H.n_disp)), (u7i ⟨(zz (zA (zA (zA (zA H.l3 (zR H.hd)) H.l1) (zR H.hs)) (zS H.n_disp)) H.l2), (u7i (H.q _ (H.e2 h4 h5)))⟩)⟩)⟩)⟩)⟩)⟩, H.n_disp, (u7i ⟨(zz H.l3 (zR H.hd)), (u7i ⟨(zz (zA H.l3 (zR H.hd)) H.l1), (u7i ⟨(zz (zA (zA H.l3 (zR H.hd)) H.l1) (zR H.hs)), (u7i ⟨(zz (zA (zA (zA H.l3 (zR H.hd)) H.l1) (zR H.hs)) (zS H.n_disp)), (u7i ⟨(zz (zA (zA (zA (zA H.l3 (zR H.hd)) H.l1) (zR H.hs)) (zS H.n_disp)) H.l2), (u7i (H.q _ (H.e2 h4 h5)))⟩)⟩)⟩)⟩)⟩)⟩)⟩, fun h6 => ⟨H.hd, H.hs, ⟨(zz H.l3 (zR H.hd)), (u7i ⟨⟨(zz (zA H.l3 (zR H.hd)) H.l1), (u7i ⟨H.hs, (u7i ⟨⟨(zz (zA (zA H.l3 (zR H.hd)) H.l1) (zR H.hs)), (u7i ⟨H.n_disp, (u7i ⟨(zz (zA (zA (zA H.l3 (zR H.hd)) H.l1) (zR H.hs)) (zS H.n_disp)), (u7i ⟨(zz (zA (zA (zA (zA H.l3 (zR H.hd)) H.l1) (zR H.hs)) (zS H.n_disp)) H.l2), (u7i (H.q _ (H.e3 h4 h6)))⟩)⟩)⟩)⟩, H.n_disp, (u7i ⟨(zz (zA (zA H.l3 (zR H.hd)) H.l1) (zR H.hs)), (u7i ⟨(zz (zA (zA (zA H.l3 (zR H.hd)) H.l1) (zR H.hs)) (zS H.n_disp)), (u7i ⟨(zz (zA (zA (zA (zA H.l3 (zR H.hd)) H.l1) (zR H.hs)) (zS H.n_disp)) H.l2), (u7i (H.q _ (H.e3 h4 h6)))⟩)⟩)⟩)⟩)⟩)⟩, H.hs, (u7i ⟨⟨(zz (zA H.l3 (zR H.hd)) H.l1), (u7i ⟨⟨(zz (zA (zA H.l3 (zR H.hd)) H.l1) (zR H.hs)), (u7i ⟨H.n_disp, (u7i ⟨(zz (zA (zA (zA H.l3 (zR H.hd)) H.l1) (zR H.hs)) (zS H.n_disp)), (u7i ⟨(zz (zA (zA (zA (zA H.l3 (zR H.hd)) H.l1) (zR H.hs)) (zS H.n_disp)) H.l2), (u7i (H.q _ (H.e3 h4 h6)))⟩)⟩)⟩)⟩, H.n_disp, (u7i ⟨(zz (zA (zA H.l3 (zR H.hd)) H.l1) (zR H.hs)), (u7i ⟨(zz (zA (zA (zA H.l3 (zR H.hd)) H.l1) (zR H.hs)) (zS H.n_disp)), (u7i ⟨(zz (zA (zA (zA (zA H.l3 (zR H.hd)) H.l1) (zR H.hs)) (zS H.n_disp)) H.l2), (u7i (H.q _ (H.e3 h4 h6)))⟩)⟩)⟩)⟩)⟩, H.n_disp, (u7i ⟨(zz (zA H.l3 (zR H.hd)) H.l1), (u7i ⟨(zz (zA (zA H.l3 (zR H.hd)) H.l1) (zR H.hs)), (u7i ⟨(zz (zA (zA (zA H.l3 (zR H.hd)) H.l1) (zR H.hs)) (zS H.n_disp)), (u7i ⟨(zz (zA (zA (zA (zA H.l3 (zR H.hd)) H.l1) (zR H.hs)) (zS H.n_disp)) H.l2), (u7i (H.q _ (H.e3 h4 h6)))⟩)⟩)⟩)⟩)⟩)⟩)⟩, H.hs, (u7i ⟨⟨(zz H.l3 (zR H.hd)), (u7i ⟨⟨(zz (zA H.l3 (zR H.hd)) H.l1), (u7i ⟨⟨(zz (zA (zA H.l3 (zR H.hd)) H.l1) (zR H.hs)), (u7i ⟨H.n_disp, (u7i ⟨(zz (zA (zA (zA H.l3 (zR H.hd)) H.l1) (zR H.hs)) (zS H.n_disp)), (u7i ⟨(zz (zA (zA (zA (zA H.l3 (zR H.hd)) H.l1) (zR H.hs)) (zS H.n_disp)) H.l2), (u7i (H.q _ (H.e3 h4 h6)))⟩)⟩)⟩)⟩, H.n_disp, (u7i ⟨(zz (zA (zA H.l3 (zR H.hd)) H.l1) (zR H.hs)), (u7i ⟨(zz (zA (zA (zA H.l3 (zR H.hd)) H.l1) (zR H.hs)) (zS H.n_disp)), (u7i ⟨(zz (zA (zA (zA (zA H.l3 (zR H.hd)) H.l1) (zR H.hs)) (zS H.n_disp)) H.l2), (u7i (H.q _ (H.e3 h4 h6)))⟩)⟩)⟩)⟩)⟩, H.n_disp, (u7i ⟨(zz (zA H.l3 (zR H.hd)) H.l1), (u7i ⟨(zz (zA (zA H.l3 (zR H.hd)) H.l1) (zR H.hs)), (u7i ⟨(zz (zA (zA (zA H.l3 (zR H.hd)) H.l1) (zR H.hs)) (zS H.n_disp)), (u7i ⟨(zz (zA (zA (zA (zA H.l3 (zR H.hd)) H.l1) (zR H.hs)) (zS H.n_disp)) H.l2), (u7i (H.q _ (H.e3 h4 h6)))⟩)⟩)⟩)⟩)⟩)⟩, H.n_disp, (u7i ⟨(zz H.l3 (zR H.hd)), (u7i ⟨(zz (zA H.l3 (zR H.hd)) H.l1), (u7i ⟨(zz (zA (zA H.l3 (zR H.hd)) H.l1) (zR H.hs)), (u7i ⟨(zz (zA (zA (zA H.l3 (zR H.hd)) H.l1) (zR H.hs)) (zS H.n_disp)), (u7i ⟨(zz (zA (zA (zA (zA H.l3 (zR H.hd)) H.l1) (zR H.hs)) (zS H.n_disp)) H.l2), (u7i (H.q _ (H.e3 h4 h6)))⟩)⟩)⟩)⟩)⟩)⟩)⟩⟩⟩
structure Sh_r4 (L0 L1 L2 : ByteArray) (wide long : Bool) (d s disp imm : Int) (Q : SV -> Prop) (S : ByteArray) : Prop where
  q : ∀ V, V = S -> Q (SV.strE V)
  p : ∀ V, V = S -> Q (SV.str V)
  hd : in15 d
  hs : in15 s
  l0 : L0.size <= 16
  l1 : L1.size <= 16
  l2 : L2.size <= 16
  n_disp : in64 disp
  e0 : long = true -> wide = true -> (L0 ++ regB d true ++ sgnB disp ++ L1 ++ regB s wide) = S
  e1 : long = true -> wide = false -> (L0 ++ regB d true ++ sgnB disp ++ L1 ++ regB s wide) = S
  e2 : long = false -> wide = true -> (L2 ++ regB d true ++ sgnB disp ++ L1 ++ regB s wide) = S
  e3 : long = false -> wide = false -> (L2 ++ regB d true ++ sgnB disp ++ L1 ++ regB s wide) = S
theorem sbk_r4 {L0 L1 L2 : ByteArray} {wide long : Bool} {d s disp imm : Int} {cc : Int} {Q : SV -> Prop} {S : ByteArray} (H : Sh_r4 L0 L1 L2 wide long d s disp imm Q S) : sb_r4 L0 L1 L2 wide long d s disp imm cc Q := by
  unfold sb_r4
  exact ⟨fun h1 => ⟨fun h2 => ⟨H.hd, H.hs, H.hd, (u7i ⟨⟨(zz H.l0 (zR H.hd)), (u7i ⟨H.n_disp, (u7i ⟨(zz (zA H.l0 (zR H.hd)) (zS H.n_disp)), (u7i ⟨(zz (zA (zA H.l0 (zR H.hd)) (zS H.n_disp)) H.l1), (u7i ⟨(zz (zA (zA (zA H.l0 (zR H.hd)) (zS H.n_disp)) H.l1) (zR H.hs)), (u7i (H.q _ (H.e0 h1 h2)))⟩)⟩)⟩)⟩)⟩, H.n_disp, (u7i ⟨(zz H.l0 (zR H.hd)), (u7i ⟨(zz (zA H.l0 (zR H.hd)) (zS H.n_disp)), (u7i ⟨(zz (zA (zA H.l0 (zR H.hd)) (zS H.n_disp)) H.l1), (u7i ⟨(zz (zA (zA (zA H.l0 (zR H.hd)) (zS H.n_disp)) H.l1) (zR H.hs)), (u7i (H.q _ (H.e0 h1 h2)))⟩)⟩)⟩)⟩)⟩)⟩, fun h3 => ⟨H.hd, H.hs, H.hd, (u7i ⟨⟨(zz H.l0 (zR H.hd)), (u7i ⟨H.n_disp, (u7i ⟨(zz (zA H.l0 (zR H.hd)) (zS H.n_disp)), (u7i ⟨(zz (zA (zA H.l0 (zR H.hd)) (zS H.n_disp)) H.l1), (u7i ⟨(zz (zA (zA (zA H.l0 (zR H.hd)) (zS H.n_disp)) H.l1) (zR H.hs)), (u7i (H.q _ (H.e1 h1 h3)))⟩)⟩)⟩)⟩)⟩, H.n_disp, (u7i ⟨(zz H.l0 (zR H.hd)), (u7i ⟨(zz (zA H.l0 (zR H.hd)) (zS H.n_disp)), (u7i ⟨(zz (zA (zA H.l0 (zR H.hd)) (zS H.n_disp)) H.l1), (u7i ⟨(zz (zA (zA (zA H.l0 (zR H.hd)) (zS H.n_disp)) H.l1) (zR H.hs)), (u7i (H.q _ (H.e1 h1 h3)))⟩)⟩)⟩)⟩)⟩)⟩⟩, fun h4 => ⟨fun h5 => ⟨H.hd, H.hs, H.hd, (u7i ⟨⟨(zz H.l2 (zR H.hd)), (u7i ⟨H.n_disp, (u7i ⟨(zz (zA H.l2 (zR H.hd)) (zS H.n_disp)), (u7i ⟨(zz (zA (zA H.l2 (zR H.hd)) (zS H.n_disp)) H.l1), (u7i ⟨(zz (zA (zA (zA H.l2 (zR H.hd)) (zS H.n_disp)) H.l1) (zR H.hs)), (u7i (H.q _ (H.e2 h4 h5)))⟩)⟩)⟩)⟩)⟩, H.n_disp, (u7i ⟨(zz H.l2 (zR H.hd)), (u7i ⟨(zz (zA H.l2 (zR H.hd)) (zS H.n_disp)), (u7i ⟨(zz (zA (zA H.l2 (zR H.hd)) (zS H.n_disp)) H.l1), (u7i ⟨(zz (zA (zA (zA H.l2 (zR H.hd)) (zS H.n_disp)) H.l1) (zR H.hs)), (u7i (H.q _ (H.e2 h4 h5)))⟩)⟩)⟩)⟩)⟩)⟩, fun h6 => ⟨H.hd, H.hs, H.hd, (u7i ⟨⟨(zz H.l2 (zR H.hd)), (u7i ⟨H.n_disp, (u7i ⟨(zz (zA H.l2 (zR H.hd)) (zS H.n_disp)), (u7i ⟨(zz (zA (zA H.l2 (zR H.hd)) (zS H.n_disp)) H.l1), (u7i ⟨(zz (zA (zA (zA H.l2 (zR H.hd)) (zS H.n_disp)) H.l1) (zR H.hs)), (u7i (H.q _ (H.e3 h4 h6)))⟩)⟩)⟩)⟩)⟩, H.n_disp, (u7i ⟨(zz H.l2 (zR H.hd)), (u7i ⟨(zz (zA H.l2 (zR H.hd)) (zS H.n_disp)), (u7i ⟨(zz (zA (zA H.l2 (zR H.hd)) (zS H.n_disp)) H.l1), (u7i ⟨(zz (zA (zA (zA H.l2 (zR H.hd)) (zS H.n_disp)) H.l1) (zR H.hs)), (u7i (H.q _ (H.e3 h4 h6)))⟩)⟩)⟩)⟩)⟩)⟩⟩⟩
structure Sh_r1 (L0 L1 : ByteArray) (wide long : Bool) (d s disp imm : Int) (Q : SV -> Prop) (S : ByteArray) : Prop where
  q : ∀ V, V = S -> Q (SV.strE V)
  p : ∀ V, V = S -> Q (SV.str V)
  hd : in15 d
  l0 : L0.size <= 16
  l1 : L1.size <= 16
  n_imm : in64 imm
  e0 : wide = true -> (L0 ++ regB d false ++ L1 ++ itoaB imm) = S
  e1 : wide = false -> (L0 ++ regB d false ++ L1 ++ itoaB imm) = S
theorem sbk_r1 {L0 L1 : ByteArray} {wide long : Bool} {d s disp imm : Int} {Q : SV -> Prop} {S : ByteArray} (H : Sh_r1 L0 L1 wide long d s disp imm Q S) : sb_r1 L0 L1 wide long d s disp imm Q := by
  unfold sb_r1
  exact ⟨fun h1 => ⟨H.hd, (zz H.l0 (zR H.hd)), (zz (zA H.l0 (zR H.hd)) H.l1), H.n_imm, (zz (zA (zA H.l0 (zR H.hd)) H.l1) (zIt H.n_imm)), (H.q _ (H.e0 h1))⟩, fun h2 => ⟨H.hd, (zz H.l0 (zR H.hd)), (zz (zA H.l0 (zR H.hd)) H.l1), H.n_imm, (zz (zA (zA H.l0 (zR H.hd)) H.l1) (zIt H.n_imm)), (H.q _ (H.e1 h2))⟩⟩
structure Sh_r2 (L0 L1 : ByteArray) (wide long : Bool) (d s disp imm : Int) (Q : SV -> Prop) (S : ByteArray) : Prop where
  q : ∀ V, V = S -> Q (SV.strE V)
  p : ∀ V, V = S -> Q (SV.str V)
  hd : in15 d
  hs : in15 s
  l0 : L0.size <= 16
  l1 : L1.size <= 16
  e0 : wide = true -> (L0 ++ regB d true ++ L1 ++ regB s wide) = S
  e1 : wide = false -> (L0 ++ regB d false ++ L1 ++ regB s wide) = S
theorem sbk_r2 {L0 L1 : ByteArray} {wide long : Bool} {d s disp imm : Int} {Q : SV -> Prop} {S : ByteArray} (H : Sh_r2 L0 L1 wide long d s disp imm Q S) : sb_r2 L0 L1 wide long d s disp imm Q := by
  unfold sb_r2
  exact ⟨fun h1 => ⟨H.hd, H.hs, (zz H.l0 (zR H.hd)), (zz (zA H.l0 (zR H.hd)) H.l1), (zz (zA (zA H.l0 (zR H.hd)) H.l1) (zR H.hs)), (H.q _ (H.e0 h1))⟩, fun h2 => ⟨H.hd, H.hs, (zz H.l0 (zR H.hd)), (zz (zA H.l0 (zR H.hd)) H.l1), (zz (zA (zA H.l0 (zR H.hd)) H.l1) (zR H.hs)), (H.q _ (H.e1 h2))⟩⟩
structure Sh_r14 (L0 L1 L2 : ByteArray) (wide long : Bool) (d s disp imm : Int) (Q : SV -> Prop) (S : ByteArray) : Prop where
  q : ∀ V, V = S -> Q (SV.strE V)
  p : ∀ V, V = S -> Q (SV.str V)
  hd : in15 d
  l0 : L0.size <= 16
  l1 : L1.size <= 16
  l2 : L2.size <= 16
  n_imm : in64 imm
  e0 : long = true -> wide = true -> (L0 ++ regB d true ++ L1 ++ itoaB imm) = S
  e1 : long = true -> wide = false -> (L0 ++ regB d false ++ L1 ++ itoaB imm) = S
  e2 : long = false -> wide = true -> (L2 ++ regB d true ++ L1 ++ itoaB imm) = S
  e3 : long = false -> wide = false -> (L2 ++ regB d false ++ L1 ++ itoaB imm) = S
theorem sbk_r14 {L0 L1 L2 : ByteArray} {wide long : Bool} {d s disp imm : Int} {Q : SV -> Prop} {S : ByteArray} (H : Sh_r14 L0 L1 L2 wide long d s disp imm Q S) : sb_r14 L0 L1 L2 wide long d s disp imm Q := by
  unfold sb_r14
  exact ⟨fun h1 => ⟨fun h2 => ⟨H.hd, (zz H.l0 (zR H.hd)), (zz (zA H.l0 (zR H.hd)) H.l1), H.n_imm, (zz (zA (zA H.l0 (zR H.hd)) H.l1) (zIt H.n_imm)), (H.q _ (H.e0 h1 h2))⟩, fun h3 => ⟨H.hd, (zz H.l0 (zR H.hd)), (zz (zA H.l0 (zR H.hd)) H.l1), H.n_imm, (zz (zA (zA H.l0 (zR H.hd)) H.l1) (zIt H.n_imm)), (H.q _ (H.e1 h1 h3))⟩⟩, fun h4 => ⟨fun h5 => ⟨H.hd, (zz H.l2 (zR H.hd)), (zz (zA H.l2 (zR H.hd)) H.l1), H.n_imm, (zz (zA (zA H.l2 (zR H.hd)) H.l1) (zIt H.n_imm)), (H.q _ (H.e2 h4 h5))⟩, fun h6 => ⟨H.hd, (zz H.l2 (zR H.hd)), (zz (zA H.l2 (zR H.hd)) H.l1), H.n_imm, (zz (zA (zA H.l2 (zR H.hd)) H.l1) (zIt H.n_imm)), (H.q _ (H.e3 h4 h6))⟩⟩⟩
structure Sh_r18 (L0 : ByteArray) (wide long : Bool) (d s disp imm : Int) (Q : SV -> Prop) (S : ByteArray) : Prop where
  q : ∀ V, V = S -> Q (SV.strE V)
  p : ∀ V, V = S -> Q (SV.str V)
  hd : in15 d
  l0 : L0.size <= 16
  e0 : wide = true -> (L0 ++ regB d true) = S
  e1 : wide = false -> (L0 ++ regB d false) = S
theorem sbk_r18 {L0 : ByteArray} {wide long : Bool} {d s disp imm : Int} {Q : SV -> Prop} {S : ByteArray} (H : Sh_r18 L0 wide long d s disp imm Q S) : sb_r18 L0 wide long d s disp imm Q := by
  unfold sb_r18
  exact ⟨fun h1 => ⟨H.hd, (zz H.l0 (zR H.hd)), (H.q _ (H.e0 h1))⟩, fun h2 => ⟨H.hd, (zz H.l0 (zR H.hd)), (H.q _ (H.e1 h2))⟩⟩
structure Sh_r21 (L0 L1 : ByteArray) (wide long : Bool) (d s disp imm : Int) (Q : SV -> Prop) (S : ByteArray) : Prop where
  q : ∀ V, V = S -> Q (SV.strE V)
  p : ∀ V, V = S -> Q (SV.str V)
  hd : in15 d
  l0 : L0.size <= 16
  l1 : L1.size <= 16
  e0 : wide = true -> (L0 ++ regB d true ++ L1) = S
  e1 : wide = false -> (L0 ++ regB d false ++ L1) = S
theorem sbk_r21 {L0 L1 : ByteArray} {wide long : Bool} {d s disp imm : Int} {Q : SV -> Prop} {S : ByteArray} (H : Sh_r21 L0 L1 wide long d s disp imm Q S) : sb_r21 L0 L1 wide long d s disp imm Q := by
  unfold sb_r21
  exact ⟨fun h1 => ⟨H.hd, (zz H.l0 (zR H.hd)), (zz (zA H.l0 (zR H.hd)) H.l1), (H.q _ (H.e0 h1))⟩, fun h2 => ⟨H.hd, (zz H.l0 (zR H.hd)), (zz (zA H.l0 (zR H.hd)) H.l1), (H.q _ (H.e1 h2))⟩⟩
structure Sh_r23 (L0 : ByteArray) (wide long : Bool) (d s disp imm : Int) (Q : SV -> Prop) (S : ByteArray) : Prop where
  q : ∀ V, V = S -> Q (SV.strE V)
  p : ∀ V, V = S -> Q (SV.str V)
  hd : in15 d
  l0 : L0.size <= 16
  e0 : wide = true -> (L0 ++ regB d true) = S
  e1 : wide = false -> (L0 ++ regB d true) = S
theorem sbk_r23 {L0 : ByteArray} {wide long : Bool} {d s disp imm : Int} {Q : SV -> Prop} {S : ByteArray} (H : Sh_r23 L0 wide long d s disp imm Q S) : sb_r23 L0 wide long d s disp imm Q := by
  unfold sb_r23
  exact ⟨fun h1 => ⟨H.hd, (zz H.l0 (zR H.hd)), (H.q _ (H.e0 h1))⟩, fun h2 => ⟨H.hd, (zz H.l0 (zR H.hd)), (H.q _ (H.e1 h2))⟩⟩
structure Sh_r25 (L0 L1 : ByteArray) (wide long : Bool) (d s disp imm : Int) (Q : SV -> Prop) (S : ByteArray) : Prop where
  q : ∀ V, V = S -> Q (SV.strE V)
  p : ∀ V, V = S -> Q (SV.str V)
  l0 : L0.size <= 16
  l1 : L1.size <= 16
  n_imm : in64 imm
  e0 : long = true -> (L0 ++ sgnB imm) = S
  e1 : long = false -> (L1 ++ sgnB imm) = S
theorem sbk_r25 {L0 L1 : ByteArray} {wide long : Bool} {d s disp imm : Int} {Q : SV -> Prop} {S : ByteArray} (H : Sh_r25 L0 L1 wide long d s disp imm Q S) : sb_r25 L0 L1 wide long d s disp imm Q := by
  unfold sb_r25
  exact ⟨fun h1 => ⟨H.n_imm, (zz H.l0 (zS H.n_imm)), (H.q _ (H.e0 h1))⟩, fun h2 => ⟨H.n_imm, (zz H.l1 (zS H.n_imm)), (H.q _ (H.e1 h2))⟩⟩
structure Sh_r26 (L0 L1 L2 L3 L4 L5 L6 L7 L8 L9 L10 L11 : ByteArray) (wide long : Bool) (d s disp imm : Int) (cc : Int) (Q : SV -> Prop) (S : ByteArray) : Prop where
  q : ∀ V, V = S -> Q (SV.strE V)
  p : ∀ V, V = S -> Q (SV.str V)
  l0 : L0.size <= 16
  l1 : L1.size <= 16
  l10 : L10.size <= 16
  l11 : L11.size <= 16
  l2 : L2.size <= 16
  l3 : L3.size <= 16
  l4 : L4.size <= 16
  l5 : L5.size <= 16
  l6 : L6.size <= 16
  l7 : L7.size <= 16
  l8 : L8.size <= 16
  l9 : L9.size <= 16
  n_imm : in64 imm
  e0 : BE.den (.cmp .eql (.var cc) (.lit 2)) = true -> long = true -> (L0 ++ sgnB imm) = S
  e1 : BE.den (.cmp .eql (.var cc) (.lit 2)) = true -> long = false -> (L1 ++ sgnB imm) = S
  e2 : BE.den (.cmp .eql (.var cc) (.lit 2)) = false -> BE.den (.cmp .eql (.var cc) (.lit 3)) = true -> long = true -> (L2 ++ sgnB imm) = S
  e3 : BE.den (.cmp .eql (.var cc) (.lit 2)) = false -> BE.den (.cmp .eql (.var cc) (.lit 3)) = true -> long = false -> (L3 ++ sgnB imm) = S
  e4 : BE.den (.cmp .eql (.var cc) (.lit 2)) = false -> BE.den (.cmp .eql (.var cc) (.lit 3)) = false -> BE.den (.cmp .eql (.var cc) (.lit 4)) = true -> long = true -> (L4 ++ sgnB imm) = S
  e5 : BE.den (.cmp .eql (.var cc) (.lit 2)) = false -> BE.den (.cmp .eql (.var cc) (.lit 3)) = false -> BE.den (.cmp .eql (.var cc) (.lit 4)) = true -> long = false -> (L5 ++ sgnB imm) = S
  e6 : BE.den (.cmp .eql (.var cc) (.lit 2)) = false -> BE.den (.cmp .eql (.var cc) (.lit 3)) = false -> BE.den (.cmp .eql (.var cc) (.lit 4)) = false -> BE.den (.cmp .eql (.var cc) (.lit 5)) = true -> long = true -> (L6 ++ sgnB imm) = S
  e7 : BE.den (.cmp .eql (.var cc) (.lit 2)) = false -> BE.den (.cmp .eql (.var cc) (.lit 3)) = false -> BE.den (.cmp .eql (.var cc) (.lit 4)) = false -> BE.den (.cmp .eql (.var cc) (.lit 5)) = true -> long = false -> (L7 ++ sgnB imm) = S
  e8 : BE.den (.cmp .eql (.var cc) (.lit 2)) = false -> BE.den (.cmp .eql (.var cc) (.lit 3)) = false -> BE.den (.cmp .eql (.var cc) (.lit 4)) = false -> BE.den (.cmp .eql (.var cc) (.lit 5)) = false -> BE.den (.cmp .eql (.var cc) (.lit 6)) = true -> long = true -> (L8 ++ sgnB imm) = S
  e9 : BE.den (.cmp .eql (.var cc) (.lit 2)) = false -> BE.den (.cmp .eql (.var cc) (.lit 3)) = false -> BE.den (.cmp .eql (.var cc) (.lit 4)) = false -> BE.den (.cmp .eql (.var cc) (.lit 5)) = false -> BE.den (.cmp .eql (.var cc) (.lit 6)) = true -> long = false -> (L9 ++ sgnB imm) = S
  e10 : BE.den (.cmp .eql (.var cc) (.lit 2)) = false -> BE.den (.cmp .eql (.var cc) (.lit 3)) = false -> BE.den (.cmp .eql (.var cc) (.lit 4)) = false -> BE.den (.cmp .eql (.var cc) (.lit 5)) = false -> BE.den (.cmp .eql (.var cc) (.lit 6)) = false -> long = true -> (L10 ++ sgnB imm) = S
  e11 : BE.den (.cmp .eql (.var cc) (.lit 2)) = false -> BE.den (.cmp .eql (.var cc) (.lit 3)) = false -> BE.den (.cmp .eql (.var cc) (.lit 4)) = false -> BE.den (.cmp .eql (.var cc) (.lit 5)) = false -> BE.den (.cmp .eql (.var cc) (.lit 6)) = false -> long = false -> (L11 ++ sgnB imm) = S
theorem sbk_r26 {L0 L1 L2 L3 L4 L5 L6 L7 L8 L9 L10 L11 : ByteArray} {wide long : Bool} {d s disp imm : Int} {cc : Int} {Q : SV -> Prop} {S : ByteArray} (H : Sh_r26 L0 L1 L2 L3 L4 L5 L6 L7 L8 L9 L10 L11 wide long d s disp imm cc Q S) : sb_r26 L0 L1 L2 L3 L4 L5 L6 L7 L8 L9 L10 L11 wide long d s disp imm cc Q := by
  unfold sb_r26
  exact ⟨fun h1 => ⟨fun h2 => ⟨H.n_imm, (zz H.l0 (zS H.n_imm)), (H.q _ (H.e0 h1 h2))⟩, fun h3 => ⟨H.n_imm, (zz H.l1 (zS H.n_imm)), (H.q _ (H.e1 h1 h3))⟩⟩, fun h4 => ⟨fun h5 => ⟨fun h6 => ⟨H.n_imm, (zz H.l2 (zS H.n_imm)), (H.q _ (H.e2 h4 h5 h6))⟩, fun h7 => ⟨H.n_imm, (zz H.l3 (zS H.n_imm)), (H.q _ (H.e3 h4 h5 h7))⟩⟩, fun h8 => ⟨fun h9 => ⟨fun h10 => ⟨H.n_imm, (zz H.l4 (zS H.n_imm)), (H.q _ (H.e4 h4 h8 h9 h10))⟩, fun h11 => ⟨H.n_imm, (zz H.l5 (zS H.n_imm)), (H.q _ (H.e5 h4 h8 h9 h11))⟩⟩, fun h12 => ⟨fun h13 => ⟨fun h14 => ⟨H.n_imm, (zz H.l6 (zS H.n_imm)), (H.q _ (H.e6 h4 h8 h12 h13 h14))⟩, fun h15 => ⟨H.n_imm, (zz H.l7 (zS H.n_imm)), (H.q _ (H.e7 h4 h8 h12 h13 h15))⟩⟩, fun h16 => ⟨fun h17 => ⟨fun h18 => ⟨H.n_imm, (zz H.l8 (zS H.n_imm)), (H.q _ (H.e8 h4 h8 h12 h16 h17 h18))⟩, fun h19 => ⟨H.n_imm, (zz H.l9 (zS H.n_imm)), (H.q _ (H.e9 h4 h8 h12 h16 h17 h19))⟩⟩, fun h20 => ⟨fun h21 => ⟨H.n_imm, (zz H.l10 (zS H.n_imm)), (H.q _ (H.e10 h4 h8 h12 h16 h20 h21))⟩, fun h22 => ⟨H.n_imm, (zz H.l11 (zS H.n_imm)), (H.q _ (H.e11 h4 h8 h12 h16 h20 h22))⟩⟩⟩⟩⟩⟩⟩
structure Sh_r27 (L0 : ByteArray) (wide long : Bool) (d s disp imm : Int) (Q : SV -> Prop) (S : ByteArray) : Prop where
  q : ∀ V, V = S -> Q (SV.strE V)
  p : ∀ V, V = S -> Q (SV.str V)
  e0 : L0 = S
theorem sbk_r27 {L0 : ByteArray} {wide long : Bool} {d s disp imm : Int} {Q : SV -> Prop} {S : ByteArray} (H : Sh_r27 L0 wide long d s disp imm Q S) : sb_r27 L0 wide long d s disp imm Q := by
  unfold sb_r27
  exact (H.p _ (H.e0 ))
end Go.Proofs.YtajcmjjgnbaahaaDoor.Amd
