/- The reference's form of an operation: its run, its contract. -/
import Derived.Test.YtajcmjjgnbaahaaGreatAb
set_option linter.unusedVariables false
set_option linter.unusedSimpArgs false
namespace Go.Proofs.YtajcmjjgnbaahaaGreat.Amd
open Go Go.Proofs.YtajcmjjgnbaahaaGreat.Sx Go.RowKit
theorem zWq (op : Int) (Q : SV -> List SObj -> Prop) : zH P A0 (fun _ => 40) Tryz.f31 [.int .i64 (.var op)] [] Q =
    ((BE.den (.cmp .eql (.var op) (.lit 1)) = true -> Q (SV.agg [SV.int .i64 (.lit 1), SV.int .u8 (.lit 184), SV.int .u8 (.lit 0), SV.str { data := #[UInt8.ofNat (108 + 1), UInt8.ofNat (110 + 1), UInt8.ofNat (117 + 1)] }, SV.bool (.lit false)]) [SObj.cells [SV.int .i64 (.lit 1), SV.int .u8 (.lit 184), SV.int .u8 (.lit 0), SV.str { data := #[UInt8.ofNat (108 + 1), UInt8.ofNat (110 + 1), UInt8.ofNat (117 + 1)] }, SV.bool (.lit false)] 95]) /\ (BE.den (.cmp .eql (.var op) (.lit 1)) = false -> (BE.den (.cmp .eql (.var op) (.lit 2)) = true -> Q (SV.agg [SV.int .i64 (.lit 2), SV.int .u8 (.lit 137), SV.int .u8 (.lit 0), SV.str { data := #[UInt8.ofNat (108 + 1), UInt8.ofNat (110 + 1), UInt8.ofNat (117 + 1)] }, SV.bool (.lit false)]) [SObj.cells [SV.int .i64 (.lit 2), SV.int .u8 (.lit 137), SV.int .u8 (.lit 0), SV.str { data := #[UInt8.ofNat (108 + 1), UInt8.ofNat (110 + 1), UInt8.ofNat (117 + 1)] }, SV.bool (.lit false)] 95]) /\ (BE.den (.cmp .eql (.var op) (.lit 2)) = false -> (BE.den (.cmp .eql (.var op) (.lit 3)) = true -> Q (SV.agg [SV.int .i64 (.lit 3), SV.int .u8 (.lit 139), SV.int .u8 (.lit 0), SV.str { data := #[UInt8.ofNat (108 + 1), UInt8.ofNat (110 + 1), UInt8.ofNat (117 + 1)] }, SV.bool (.lit true)]) [SObj.cells [SV.int .i64 (.lit 3), SV.int .u8 (.lit 139), SV.int .u8 (.lit 0), SV.str { data := #[UInt8.ofNat (108 + 1), UInt8.ofNat (110 + 1), UInt8.ofNat (117 + 1)] }, SV.bool (.lit true)] 95]) /\ (BE.den (.cmp .eql (.var op) (.lit 3)) = false -> (BE.den (.cmp .eql (.var op) (.lit 4)) = true -> Q (SV.agg [SV.int .i64 (.lit 4), SV.int .u8 (.lit 137), SV.int .u8 (.lit 0), SV.str { data := #[UInt8.ofNat (108 + 1), UInt8.ofNat (110 + 1), UInt8.ofNat (117 + 1)] }, SV.bool (.lit true)]) [SObj.cells [SV.int .i64 (.lit 4), SV.int .u8 (.lit 137), SV.int .u8 (.lit 0), SV.str { data := #[UInt8.ofNat (108 + 1), UInt8.ofNat (110 + 1), UInt8.ofNat (117 + 1)] }, SV.bool (.lit true)] 95]) /\ (BE.den (.cmp .eql (.var op) (.lit 4)) = false -> (BE.den (.cmp .eql (.var op) (.lit 5)) = true -> Q (SV.agg [SV.int .i64 (.lit 2), SV.int .u8 (.lit 1), SV.int .u8 (.lit 0), SV.str { data := #[UInt8.ofNat (96 + 1), UInt8.ofNat (99 + 1), UInt8.ofNat (99 + 1)] }, SV.bool (.lit false)]) [SObj.cells [SV.int .i64 (.lit 2), SV.int .u8 (.lit 1), SV.int .u8 (.lit 0), SV.str { data := #[UInt8.ofNat (96 + 1), UInt8.ofNat (99 + 1), UInt8.ofNat (99 + 1)] }, SV.bool (.lit false)] 95]) /\ (BE.den (.cmp .eql (.var op) (.lit 5)) = false -> (BE.den (.cmp .eql (.var op) (.lit 6)) = true -> Q (SV.agg [SV.int .i64 (.lit 2), SV.int .u8 (.lit 9), SV.int .u8 (.lit 0), SV.str { data := #[UInt8.ofNat (110 + 1), UInt8.ofNat (113 + 1)] }, SV.bool (.lit false)]) [SObj.cells [SV.int .i64 (.lit 2), SV.int .u8 (.lit 9), SV.int .u8 (.lit 0), SV.str { data := #[UInt8.ofNat (110 + 1), UInt8.ofNat (113 + 1)] }, SV.bool (.lit false)] 95]) /\ (BE.den (.cmp .eql (.var op) (.lit 6)) = false -> (BE.den (.cmp .eql (.var op) (.lit 7)) = true -> Q (SV.agg [SV.int .i64 (.lit 2), SV.int .u8 (.lit 33), SV.int .u8 (.lit 0), SV.str { data := #[UInt8.ofNat (96 + 1), UInt8.ofNat (109 + 1), UInt8.ofNat (99 + 1)] }, SV.bool (.lit false)]) [SObj.cells [SV.int .i64 (.lit 2), SV.int .u8 (.lit 33), SV.int .u8 (.lit 0), SV.str { data := #[UInt8.ofNat (96 + 1), UInt8.ofNat (109 + 1), UInt8.ofNat (99 + 1)] }, SV.bool (.lit false)] 95]) /\ (BE.den (.cmp .eql (.var op) (.lit 7)) = false -> (BE.den (.cmp .eql (.var op) (.lit 8)) = true -> Q (SV.agg [SV.int .i64 (.lit 2), SV.int .u8 (.lit 41), SV.int .u8 (.lit 0), SV.str { data := #[UInt8.ofNat (114 + 1), UInt8.ofNat (116 + 1), UInt8.ofNat (97 + 1)] }, SV.bool (.lit false)]) [SObj.cells [SV.int .i64 (.lit 2), SV.int .u8 (.lit 41), SV.int .u8 (.lit 0), SV.str { data := #[UInt8.ofNat (114 + 1), UInt8.ofNat (116 + 1), UInt8.ofNat (97 + 1)] }, SV.bool (.lit false)] 95]) /\ (BE.den (.cmp .eql (.var op) (.lit 8)) = false -> (BE.den (.cmp .eql (.var op) (.lit 9)) = true -> Q (SV.agg [SV.int .i64 (.lit 2), SV.int .u8 (.lit 49), SV.int .u8 (.lit 0), SV.str { data := #[UInt8.ofNat (119 + 1), UInt8.ofNat (110 + 1), UInt8.ofNat (113 + 1)] }, SV.bool (.lit false)]) [SObj.cells [SV.int .i64 (.lit 2), SV.int .u8 (.lit 49), SV.int .u8 (.lit 0), SV.str { data := #[UInt8.ofNat (119 + 1), UInt8.ofNat (110 + 1), UInt8.ofNat (113 + 1)] }, SV.bool (.lit false)] 95]) /\ (BE.den (.cmp .eql (.var op) (.lit 9)) = false -> (BE.den (.cmp .eql (.var op) (.lit 10)) = true -> Q (SV.agg [SV.int .i64 (.lit 2), SV.int .u8 (.lit 57), SV.int .u8 (.lit 0), SV.str { data := #[UInt8.ofNat (98 + 1), UInt8.ofNat (108 + 1), UInt8.ofNat (111 + 1)] }, SV.bool (.lit false)]) [SObj.cells [SV.int .i64 (.lit 2), SV.int .u8 (.lit 57), SV.int .u8 (.lit 0), SV.str { data := #[UInt8.ofNat (98 + 1), UInt8.ofNat (108 + 1), UInt8.ofNat (111 + 1)] }, SV.bool (.lit false)] 95]) /\ (BE.den (.cmp .eql (.var op) (.lit 10)) = false -> (BE.den (.cmp .eql (.var op) (.lit 11)) = true -> Q (SV.agg [SV.int .i64 (.lit 2), SV.int .u8 (.lit 133), SV.int .u8 (.lit 0), SV.str { data := #[UInt8.ofNat (115 + 1), UInt8.ofNat (100 + 1), UInt8.ofNat (114 + 1), UInt8.ofNat (115 + 1)] }, SV.bool (.lit false)]) [SObj.cells [SV.int .i64 (.lit 2), SV.int .u8 (.lit 133), SV.int .u8 (.lit 0), SV.str { data := #[UInt8.ofNat (115 + 1), UInt8.ofNat (100 + 1), UInt8.ofNat (114 + 1), UInt8.ofNat (115 + 1)] }, SV.bool (.lit false)] 95]) /\ (BE.den (.cmp .eql (.var op) (.lit 11)) = false -> (BE.den (.cmp .eql (.var op) (.lit 12)) = true -> Q (SV.agg [SV.int .i64 (.lit 2), SV.int .u8 (.lit 135), SV.int .u8 (.lit 0), SV.str { data := #[UInt8.ofNat (119 + 1), UInt8.ofNat (98 + 1), UInt8.ofNat (103 + 1), UInt8.ofNat (102 + 1)] }, SV.bool (.lit false)]) [SObj.cells [SV.int .i64 (.lit 2), SV.int .u8 (.lit 135), SV.int .u8 (.lit 0), SV.str { data := #[UInt8.ofNat (119 + 1), UInt8.ofNat (98 + 1), UInt8.ofNat (103 + 1), UInt8.ofNat (102 + 1)] }, SV.bool (.lit false)] 95]) /\ (BE.den (.cmp .eql (.var op) (.lit 12)) = false -> (BE.den (.cmp .eql (.var op) (.lit 13)) = true -> Q (SV.agg [SV.int .i64 (.lit 5), SV.int .u8 (.lit 175), SV.int .u8 (.lit 0), SV.str { data := #[UInt8.ofNat (104 + 1), UInt8.ofNat (108 + 1), UInt8.ofNat (116 + 1), UInt8.ofNat (107 + 1)] }, SV.bool (.lit false)]) [SObj.cells [SV.int .i64 (.lit 5), SV.int .u8 (.lit 175), SV.int .u8 (.lit 0), SV.str { data := #[UInt8.ofNat (104 + 1), UInt8.ofNat (108 + 1), UInt8.ofNat (116 + 1), UInt8.ofNat (107 + 1)] }, SV.bool (.lit false)] 95]) /\ (BE.den (.cmp .eql (.var op) (.lit 13)) = false -> (BE.den (.cmp .eql (.var op) (.lit 14)) = true -> Q (SV.agg [SV.int .i64 (.lit 6), SV.int .u8 (.lit 131), SV.int .u8 (.lit 0), SV.str { data := #[UInt8.ofNat (96 + 1), UInt8.ofNat (99 + 1), UInt8.ofNat (99 + 1)] }, SV.bool (.lit true)]) [SObj.cells [SV.int .i64 (.lit 6), SV.int .u8 (.lit 131), SV.int .u8 (.lit 0), SV.str { data := #[UInt8.ofNat (96 + 1), UInt8.ofNat (99 + 1), UInt8.ofNat (99 + 1)] }, SV.bool (.lit true)] 95]) /\ (BE.den (.cmp .eql (.var op) (.lit 14)) = false -> (BE.den (.cmp .eql (.var op) (.lit 15)) = true -> Q (SV.agg [SV.int .i64 (.lit 6), SV.int .u8 (.lit 131), SV.int .u8 (.lit 5), SV.str { data := #[UInt8.ofNat (114 + 1), UInt8.ofNat (116 + 1), UInt8.ofNat (97 + 1)] }, SV.bool (.lit true)]) [SObj.cells [SV.int .i64 (.lit 6), SV.int .u8 (.lit 131), SV.int .u8 (.lit 5), SV.str { data := #[UInt8.ofNat (114 + 1), UInt8.ofNat (116 + 1), UInt8.ofNat (97 + 1)] }, SV.bool (.lit true)] 95]) /\ (BE.den (.cmp .eql (.var op) (.lit 15)) = false -> (BE.den (.cmp .eql (.var op) (.lit 16)) = true -> Q (SV.agg [SV.int .i64 (.lit 6), SV.int .u8 (.lit 131), SV.int .u8 (.lit 7), SV.str { data := #[UInt8.ofNat (98 + 1), UInt8.ofNat (108 + 1), UInt8.ofNat (111 + 1)] }, SV.bool (.lit true)]) [SObj.cells [SV.int .i64 (.lit 6), SV.int .u8 (.lit 131), SV.int .u8 (.lit 7), SV.str { data := #[UInt8.ofNat (98 + 1), UInt8.ofNat (108 + 1), UInt8.ofNat (111 + 1)] }, SV.bool (.lit true)] 95]) /\ (BE.den (.cmp .eql (.var op) (.lit 16)) = false -> (BE.den (.cmp .eql (.var op) (.lit 17)) = true -> Q (SV.agg [SV.int .i64 (.lit 6), SV.int .u8 (.lit 131), SV.int .u8 (.lit 4), SV.str { data := #[UInt8.ofNat (96 + 1), UInt8.ofNat (109 + 1), UInt8.ofNat (99 + 1)] }, SV.bool (.lit true)]) [SObj.cells [SV.int .i64 (.lit 6), SV.int .u8 (.lit 131), SV.int .u8 (.lit 4), SV.str { data := #[UInt8.ofNat (96 + 1), UInt8.ofNat (109 + 1), UInt8.ofNat (99 + 1)] }, SV.bool (.lit true)] 95]) /\ (BE.den (.cmp .eql (.var op) (.lit 17)) = false -> (BE.den (.cmp .eql (.var op) (.lit 18)) = true -> Q (SV.agg [SV.int .i64 (.lit 7), SV.int .u8 (.lit 247), SV.int .u8 (.lit 3), SV.str { data := #[UInt8.ofNat (109 + 1), UInt8.ofNat (100 + 1), UInt8.ofNat (102 + 1)] }, SV.bool (.lit false)]) [SObj.cells [SV.int .i64 (.lit 7), SV.int .u8 (.lit 247), SV.int .u8 (.lit 3), SV.str { data := #[UInt8.ofNat (109 + 1), UInt8.ofNat (100 + 1), UInt8.ofNat (102 + 1)] }, SV.bool (.lit false)] 95]) /\ (BE.den (.cmp .eql (.var op) (.lit 18)) = false -> (BE.den (.cmp .eql (.var op) (.lit 19)) = true -> Q (SV.agg [SV.int .i64 (.lit 7), SV.int .u8 (.lit 247), SV.int .u8 (.lit 2), SV.str { data := #[UInt8.ofNat (109 + 1), UInt8.ofNat (110 + 1), UInt8.ofNat (115 + 1)] }, SV.bool (.lit false)]) [SObj.cells [SV.int .i64 (.lit 7), SV.int .u8 (.lit 247), SV.int .u8 (.lit 2), SV.str { data := #[UInt8.ofNat (109 + 1), UInt8.ofNat (110 + 1), UInt8.ofNat (115 + 1)] }, SV.bool (.lit false)] 95]) /\ (BE.den (.cmp .eql (.var op) (.lit 19)) = false -> (BE.den (.cmp .eql (.var op) (.lit 20)) = true -> Q (SV.agg [SV.int .i64 (.lit 7), SV.int .u8 (.lit 247), SV.int .u8 (.lit 6), SV.str { data := #[UInt8.ofNat (99 + 1), UInt8.ofNat (104 + 1), UInt8.ofNat (117 + 1)] }, SV.bool (.lit false)]) [SObj.cells [SV.int .i64 (.lit 7), SV.int .u8 (.lit 247), SV.int .u8 (.lit 6), SV.str { data := #[UInt8.ofNat (99 + 1), UInt8.ofNat (104 + 1), UInt8.ofNat (117 + 1)] }, SV.bool (.lit false)] 95]) /\ (BE.den (.cmp .eql (.var op) (.lit 20)) = false -> (BE.den (.cmp .eql (.var op) (.lit 21)) = true -> Q (SV.agg [SV.int .i64 (.lit 7), SV.int .u8 (.lit 211), SV.int .u8 (.lit 4), SV.str { data := #[UInt8.ofNat (114 + 1), UInt8.ofNat (103 + 1), UInt8.ofNat (107 + 1)] }, SV.bool (.lit false)]) [SObj.cells [SV.int .i64 (.lit 7), SV.int .u8 (.lit 211), SV.int .u8 (.lit 4), SV.str { data := #[UInt8.ofNat (114 + 1), UInt8.ofNat (103 + 1), UInt8.ofNat (107 + 1)] }, SV.bool (.lit false)] 95]) /\ (BE.den (.cmp .eql (.var op) (.lit 21)) = false -> (BE.den (.cmp .eql (.var op) (.lit 22)) = true -> Q (SV.agg [SV.int .i64 (.lit 7), SV.int .u8 (.lit 211), SV.int .u8 (.lit 5), SV.str { data := #[UInt8.ofNat (114 + 1), UInt8.ofNat (103 + 1), UInt8.ofNat (113 + 1)] }, SV.bool (.lit false)]) [SObj.cells [SV.int .i64 (.lit 7), SV.int .u8 (.lit 211), SV.int .u8 (.lit 5), SV.str { data := #[UInt8.ofNat (114 + 1), UInt8.ofNat (103 + 1), UInt8.ofNat (113 + 1)] }, SV.bool (.lit false)] 95]) /\ (BE.den (.cmp .eql (.var op) (.lit 22)) = false -> (BE.den (.cmp .eql (.var op) (.lit 23)) = true -> Q (SV.agg [SV.int .i64 (.lit 8), SV.int .u8 (.lit 80), SV.int .u8 (.lit 0), SV.str { data := #[UInt8.ofNat (111 + 1), UInt8.ofNat (116 + 1), UInt8.ofNat (114 + 1), UInt8.ofNat (103 + 1)] }, SV.bool (.lit false)]) [SObj.cells [SV.int .i64 (.lit 8), SV.int .u8 (.lit 80), SV.int .u8 (.lit 0), SV.str { data := #[UInt8.ofNat (111 + 1), UInt8.ofNat (116 + 1), UInt8.ofNat (114 + 1), UInt8.ofNat (103 + 1)] }, SV.bool (.lit false)] 95]) /\ (BE.den (.cmp .eql (.var op) (.lit 23)) = false -> (BE.den (.cmp .eql (.var op) (.lit 24)) = true -> Q (SV.agg [SV.int .i64 (.lit 8), SV.int .u8 (.lit 88), SV.int .u8 (.lit 0), SV.str { data := #[UInt8.ofNat (111 + 1), UInt8.ofNat (110 + 1), UInt8.ofNat (111 + 1)] }, SV.bool (.lit false)]) [SObj.cells [SV.int .i64 (.lit 8), SV.int .u8 (.lit 88), SV.int .u8 (.lit 0), SV.str { data := #[UInt8.ofNat (111 + 1), UInt8.ofNat (110 + 1), UInt8.ofNat (111 + 1)] }, SV.bool (.lit false)] 95]) /\ (BE.den (.cmp .eql (.var op) (.lit 24)) = false -> (BE.den (.cmp .eql (.var op) (.lit 25)) = true -> Q (SV.agg [SV.int .i64 (.lit 9), SV.int .u8 (.lit 235), SV.int .u8 (.lit 0), SV.str { data := #[UInt8.ofNat (105 + 1), UInt8.ofNat (108 + 1), UInt8.ofNat (111 + 1)] }, SV.bool (.lit true)]) [SObj.cells [SV.int .i64 (.lit 9), SV.int .u8 (.lit 235), SV.int .u8 (.lit 0), SV.str { data := #[UInt8.ofNat (105 + 1), UInt8.ofNat (108 + 1), UInt8.ofNat (111 + 1)] }, SV.bool (.lit true)] 95]) /\ (BE.den (.cmp .eql (.var op) (.lit 25)) = false -> (BE.den (.cmp .eql (.var op) (.lit 26)) = true -> Q (SV.agg [SV.int .i64 (.lit 10), SV.int .u8 (.lit 112), SV.int .u8 (.lit 0), SV.str { data := #[UInt8.ofNat (105 + 1)] }, SV.bool (.lit true)]) [SObj.cells [SV.int .i64 (.lit 10), SV.int .u8 (.lit 112), SV.int .u8 (.lit 0), SV.str { data := #[UInt8.ofNat (105 + 1)] }, SV.bool (.lit true)] 95]) /\ (BE.den (.cmp .eql (.var op) (.lit 26)) = false -> (BE.den (.cmp .eql (.var op) (.lit 27)) = true -> Q (SV.agg [SV.int .i64 (.lit 11), SV.int .u8 (.lit 195), SV.int .u8 (.lit 0), SV.str { data := #[UInt8.ofNat (113 + 1), UInt8.ofNat (100 + 1), UInt8.ofNat (115 + 1)] }, SV.bool (.lit false)]) [SObj.cells [SV.int .i64 (.lit 11), SV.int .u8 (.lit 195), SV.int .u8 (.lit 0), SV.str { data := #[UInt8.ofNat (113 + 1), UInt8.ofNat (100 + 1), UInt8.ofNat (115 + 1)] }, SV.bool (.lit false)] 95]) /\ (BE.den (.cmp .eql (.var op) (.lit 27)) = false -> Q (SV.agg [SV.int .i64 (.lit 0), SV.int .u8 (.lit 0), SV.int .u8 (.lit 0), SV.str { data := #[] }, SV.bool (.lit false)]) [SObj.cells [SV.int .i64 (.lit 0), SV.int .u8 (.lit 0), SV.int .u8 (.lit 0), SV.str { data := #[] }, SV.bool (.lit false)] 95])))))))))))))))))))))))))))) := by kernel_rfl
structure FmP where
  w : ByteArray
  c : Int
  n : Int
def fmSV (k : Nat) (c n : IE) (w : ByteArray) (ch : Bool) : SV := .agg [.int .i64 (.lit (k : Int)), .int .u8 c, .int .u8 n, .strE w, .bool (.lit ch)]
def zAY (k : Nat) (ch : Bool) (post : FmP -> Prop) (c n : FmP -> IE) : Out := .any FmP post (fun x _ => fmSV k (c x) (n x) x.w ch) (fun _ => []) fun _ => []
def zBz (op : Int) : List Out :=
  [zAY 0 false (fun _ => zA op = none) (fun _ => .lit 0) fun _ => .lit 0,
   zAY 1 false (fun _ => zA op = some .movImm) (fun _ => .lit 184) fun _ => .lit 0,
   zAY 2 false (fun x => zA op = some (.two x.c)) (fun x => .var (FmP.c x)) fun _ => .lit 0,
   zAY 3 true (fun _ => zA op = some .load) (fun _ => .lit 139) fun _ => .lit 0,
   zAY 4 true (fun _ => zA op = some .store) (fun _ => .lit 137) fun _ => .lit 0,
   zAY 5 false (fun _ => zA op = some .imul) (fun _ => .lit 175) fun _ => .lit 0,
   zAY 6 true (fun x => zA op = some (.imm x.n)) (fun _ => .lit 131) fun x => .var (FmP.n x),
   zAY 7 false (fun x => zA op = some (.one x.c x.n)) (fun x => .var (FmP.c x)) fun x => .var (FmP.n x),
   zAY 8 false (fun x => zA op = some (.stack x.c)) (fun x => .var (FmP.c x)) fun _ => .lit 0,
   zAY 9 true (fun _ => zA op = some .jmp) (fun _ => .lit 235) fun _ => .lit 0,
   zAY 10 true (fun _ => zA op = some .jcc) (fun _ => .lit 112) fun _ => .lit 0,
   zAY 11 false (fun _ => zA op = some .ret) (fun _ => .lit 195) fun _ => .lit 0]
def zWs : Ins -> List SV -> Prop := fun ins pl => match ins, pl with
  | [], [.int .i64 _] => True
  | _, _ => False
def zRo : Ins -> List SV -> List Out := fun ins pl => match ins, pl with
  | [], [.int .i64 op] => zBz op.den
  | _, _ => []
theorem zTm {ins : Ins} {pl : List SV} (h : zWs ins pl) : ∃ op : IE, ins = [] /\ pl = [.int .i64 op] := by
  unfold zWs at h
  split at h
  · exact ⟨_, rfl, rfl⟩
  · exact h.elim
theorem zPa (k : Nat) (ch : Bool) (post : FmP -> Prop) (c n : FmP -> IE) : (zAY k ch post c n).good :=
  fun x => ⟨⟨fun _ _ _ _ _ => rfl, fun _ _ _ => ⟨trivial, trivial, trivial, trivial, trivial, trivial⟩⟩, rfl, trivial⟩
theorem zNC (op : Int) : ∀ o ∈ zBz op, o.good := by
  intro o ho
  unfold zBz at ho
  simp only [List.mem_cons, List.not_mem_nil, or_false] at ho
  rcases ho with rfl | rfl | rfl | rfl | rfl | rfl | rfl | rfl | rfl | rfl | rfl | rfl <;> exact zPa _ _ _ _ _
abbrev fmS : zl := zAK [.plain] zWs zRo
def fmQ (op : Int) : SV -> List SObj -> Prop := fun v hp => zFH (zBz op) fun o => o.some 0 fun val new _ => zA8 0 1 { tmps := [v], hp := hp } [(0, val)] ([] ++ new)
theorem zWr {f : FuncId} {s : zl} (hs : zZ P f s) (h : ∀ op : Int, s [.int .i64 (.var op)] [] (fmQ op)) : zZ P f fmS := by
  refine zH5 hs (fun sz zs h => by simp at h) ?_ ?_
  · intro ins pl o ho
    unfold zRo at ho
    split at ho
    · exact zNC _ o ho
    · simp at ho
  · intro ins pl u hi hw hp
    obtain ⟨op, rfl, rfl⟩ := zTm hp
    exact h op.den
theorem zAV {l : List Out} {f : Out -> Prop} {o : Out} (h : o ∈ l) (hf : f o) : zFH l f := by
  induction l with
  | nil => simp at h
  | cons a r ih =>
    cases r with
    | nil =>
      simp only [List.mem_singleton] at h; subst h; exact hf
    | cons b r =>
      rcases List.mem_cons.1 h with rfl | h
      · exact .inl hf
      · exact .inr (ih h)
theorem fmK0 (w : ByteArray) (x0 : SObj) (A : FmP -> Prop) : ((zAY 0 false A (fun x => .lit 0) (fun x => .lit 0)).some 0 fun val new _ => zA8 0 1 { tmps := [.agg [.int .i64 (.lit 0), .int .u8 (.lit 0), .int .u8 (.lit 0), .str w, .bool (.lit false)]], hp := [x0] } [(0, val)] ([] ++ new)) =
    (∃ b, A b /\ w = FmP.w b /\ True) := by kernel_rfl
theorem fmK1 (w : ByteArray) (x0 : SObj) (A : FmP -> Prop) : ((zAY 1 false A (fun x => .lit 184) (fun x => .lit 0)).some 0 fun val new _ => zA8 0 1 { tmps := [.agg [.int .i64 (.lit 1), .int .u8 (.lit 184), .int .u8 (.lit 0), .str w, .bool (.lit false)]], hp := [x0] } [(0, val)] ([] ++ new)) =
    (∃ b, A b /\ w = FmP.w b /\ True) := by kernel_rfl
theorem fmK2 (c : Int) (w : ByteArray) (x0 : SObj) (A : FmP -> Prop) : ((zAY 2 false A (fun x => .var (FmP.c x)) (fun x => .lit 0)).some 0 fun val new _ => zA8 0 1 { tmps := [.agg [.int .i64 (.lit 2), .int .u8 (.lit c), .int .u8 (.lit 0), .str w, .bool (.lit false)]], hp := [x0] } [(0, val)] ([] ++ new)) =
    (∃ b, A b /\ c = FmP.c b /\ w = FmP.w b /\ True) := by kernel_rfl
theorem fmK3 (w : ByteArray) (x0 : SObj) (A : FmP -> Prop) : ((zAY 3 true A (fun x => .lit 139) (fun x => .lit 0)).some 0 fun val new _ => zA8 0 1 { tmps := [.agg [.int .i64 (.lit 3), .int .u8 (.lit 139), .int .u8 (.lit 0), .str w, .bool (.lit true)]], hp := [x0] } [(0, val)] ([] ++ new)) =
    (∃ b, A b /\ w = FmP.w b /\ True) := by kernel_rfl
theorem fmK4 (w : ByteArray) (x0 : SObj) (A : FmP -> Prop) : ((zAY 4 true A (fun x => .lit 137) (fun x => .lit 0)).some 0 fun val new _ => zA8 0 1 { tmps := [.agg [.int .i64 (.lit 4), .int .u8 (.lit 137), .int .u8 (.lit 0), .str w, .bool (.lit true)]], hp := [x0] } [(0, val)] ([] ++ new)) =
    (∃ b, A b /\ w = FmP.w b /\ True) := by kernel_rfl
theorem fmK5 (w : ByteArray) (x0 : SObj) (A : FmP -> Prop) : ((zAY 5 false A (fun x => .lit 175) (fun x => .lit 0)).some 0 fun val new _ => zA8 0 1 { tmps := [.agg [.int .i64 (.lit 5), .int .u8 (.lit 175), .int .u8 (.lit 0), .str w, .bool (.lit false)]], hp := [x0] } [(0, val)] ([] ++ new)) =
    (∃ b, A b /\ w = FmP.w b /\ True) := by kernel_rfl
theorem fmK6 (n : Int) (w : ByteArray) (x0 : SObj) (A : FmP -> Prop) : ((zAY 6 true A (fun x => .lit 131) (fun x => .var (FmP.n x))).some 0 fun val new _ => zA8 0 1 { tmps := [.agg [.int .i64 (.lit 6), .int .u8 (.lit 131), .int .u8 (.lit n), .str w, .bool (.lit true)]], hp := [x0] } [(0, val)] ([] ++ new)) =
    (∃ b, A b /\ n = FmP.n b /\ w = FmP.w b /\ True) := by kernel_rfl
theorem fmK7 (c : Int) (n : Int) (w : ByteArray) (x0 : SObj) (A : FmP -> Prop) : ((zAY 7 false A (fun x => .var (FmP.c x)) (fun x => .var (FmP.n x))).some 0 fun val new _ => zA8 0 1 { tmps := [.agg [.int .i64 (.lit 7), .int .u8 (.lit c), .int .u8 (.lit n), .str w, .bool (.lit false)]], hp := [x0] } [(0, val)] ([] ++ new)) =
    (∃ b, A b /\ c = FmP.c b /\ n = FmP.n b /\ w = FmP.w b /\ True) := by kernel_rfl
theorem fmK8 (c : Int) (w : ByteArray) (x0 : SObj) (A : FmP -> Prop) : ((zAY 8 false A (fun x => .var (FmP.c x)) (fun x => .lit 0)).some 0 fun val new _ => zA8 0 1 { tmps := [.agg [.int .i64 (.lit 8), .int .u8 (.lit c), .int .u8 (.lit 0), .str w, .bool (.lit false)]], hp := [x0] } [(0, val)] ([] ++ new)) =
    (∃ b, A b /\ c = FmP.c b /\ w = FmP.w b /\ True) := by kernel_rfl
theorem fmK9 (w : ByteArray) (x0 : SObj) (A : FmP -> Prop) : ((zAY 9 true A (fun x => .lit 235) (fun x => .lit 0)).some 0 fun val new _ => zA8 0 1 { tmps := [.agg [.int .i64 (.lit 9), .int .u8 (.lit 235), .int .u8 (.lit 0), .str w, .bool (.lit true)]], hp := [x0] } [(0, val)] ([] ++ new)) =
    (∃ b, A b /\ w = FmP.w b /\ True) := by kernel_rfl
theorem za3 (w : ByteArray) (x0 : SObj) (A : FmP -> Prop) : ((zAY 10 true A (fun x => .lit 112) (fun x => .lit 0)).some 0 fun val new _ => zA8 0 1 { tmps := [.agg [.int .i64 (.lit 10), .int .u8 (.lit 112), .int .u8 (.lit 0), .str w, .bool (.lit true)]], hp := [x0] } [(0, val)] ([] ++ new)) =
    (∃ b, A b /\ w = FmP.w b /\ True) := by kernel_rfl
theorem za2 (w : ByteArray) (x0 : SObj) (A : FmP -> Prop) : ((zAY 11 false A (fun x => .lit 195) (fun x => .lit 0)).some 0 fun val new _ => zA8 0 1 { tmps := [.agg [.int .i64 (.lit 11), .int .u8 (.lit 195), .int .u8 (.lit 0), .str w, .bool (.lit false)]], hp := [x0] } [(0, val)] ([] ++ new)) =
    (∃ b, A b /\ w = FmP.w b /\ True) := by kernel_rfl
theorem fm0 {op : Int} {w : ByteArray} {x0 : SObj} (h : zA op = none) : fmQ op (.agg [.int .i64 (.lit 0), .int .u8 (.lit 0), .int .u8 (.lit 0), .str w, .bool (.lit false)]) [x0] := by
  refine zAV (o := zAY 0 false (fun _ => zA op = none) (fun x => .lit 0) (fun x => .lit 0)) (by simp [zBz]) ?_
  exact (fmK0 w x0 (fun _ => zA op = none)).mpr ⟨⟨w, 0, 0⟩, h, rfl, trivial⟩
theorem fm1 {op : Int} {w : ByteArray} {x0 : SObj} (h : zA op = some .movImm) : fmQ op (.agg [.int .i64 (.lit 1), .int .u8 (.lit 184), .int .u8 (.lit 0), .str w, .bool (.lit false)]) [x0] := by
  refine zAV (o := zAY 1 false (fun _ => zA op = some .movImm) (fun x => .lit 184) (fun x => .lit 0)) (by simp [zBz]) ?_
  exact (fmK1 w x0 (fun _ => zA op = some .movImm)).mpr ⟨⟨w, 184, 0⟩, h, rfl, trivial⟩
theorem fm2 {op : Int} {c : Int} {w : ByteArray} {x0 : SObj} (h : zA op = some (.two c)) : fmQ op (.agg [.int .i64 (.lit 2), .int .u8 (.lit c), .int .u8 (.lit 0), .str w, .bool (.lit false)]) [x0] := by
  refine zAV (o := zAY 2 false (fun x => zA op = some (.two x.c)) (fun x => .var (FmP.c x)) (fun x => .lit 0)) (by simp [zBz]) ?_
  exact (fmK2 c w x0 (fun x => zA op = some (.two x.c))).mpr ⟨⟨w, c, 0⟩, h, rfl, rfl, trivial⟩
theorem fm3 {op : Int} {w : ByteArray} {x0 : SObj} (h : zA op = some .load) : fmQ op (.agg [.int .i64 (.lit 3), .int .u8 (.lit 139), .int .u8 (.lit 0), .str w, .bool (.lit true)]) [x0] := by
  refine zAV (o := zAY 3 true (fun _ => zA op = some .load) (fun x => .lit 139) (fun x => .lit 0)) (by simp [zBz]) ?_
  exact (fmK3 w x0 (fun _ => zA op = some .load)).mpr ⟨⟨w, 139, 0⟩, h, rfl, trivial⟩
theorem fm4 {op : Int} {w : ByteArray} {x0 : SObj} (h : zA op = some .store) : fmQ op (.agg [.int .i64 (.lit 4), .int .u8 (.lit 137), .int .u8 (.lit 0), .str w, .bool (.lit true)]) [x0] := by
  refine zAV (o := zAY 4 true (fun _ => zA op = some .store) (fun x => .lit 137) (fun x => .lit 0)) (by simp [zBz]) ?_
  exact (fmK4 w x0 (fun _ => zA op = some .store)).mpr ⟨⟨w, 137, 0⟩, h, rfl, trivial⟩
theorem fm5 {op : Int} {w : ByteArray} {x0 : SObj} (h : zA op = some .imul) : fmQ op (.agg [.int .i64 (.lit 5), .int .u8 (.lit 175), .int .u8 (.lit 0), .str w, .bool (.lit false)]) [x0] := by
  refine zAV (o := zAY 5 false (fun _ => zA op = some .imul) (fun x => .lit 175) (fun x => .lit 0)) (by simp [zBz]) ?_
  exact (fmK5 w x0 (fun _ => zA op = some .imul)).mpr ⟨⟨w, 175, 0⟩, h, rfl, trivial⟩
theorem fm6 {op : Int} {n : Int} {w : ByteArray} {x0 : SObj} (h : zA op = some (.imm n)) : fmQ op (.agg [.int .i64 (.lit 6), .int .u8 (.lit 131), .int .u8 (.lit n), .str w, .bool (.lit true)]) [x0] := by
  refine zAV (o := zAY 6 true (fun x => zA op = some (.imm x.n)) (fun x => .lit 131) (fun x => .var (FmP.n x))) (by simp [zBz]) ?_
  exact (fmK6 n w x0 (fun x => zA op = some (.imm x.n))).mpr ⟨⟨w, 131, n⟩, h, rfl, rfl, trivial⟩
theorem fm7 {op : Int} {c : Int} {n : Int} {w : ByteArray} {x0 : SObj} (h : zA op = some (.one c n)) : fmQ op (.agg [.int .i64 (.lit 7), .int .u8 (.lit c), .int .u8 (.lit n), .str w, .bool (.lit false)]) [x0] := by
  refine zAV (o := zAY 7 false (fun x => zA op = some (.one x.c x.n)) (fun x => .var (FmP.c x)) (fun x => .var (FmP.n x))) (by simp [zBz]) ?_
  exact (fmK7 c n w x0 (fun x => zA op = some (.one x.c x.n))).mpr ⟨⟨w, c, n⟩, h, rfl, rfl, rfl, trivial⟩
theorem fm8 {op : Int} {c : Int} {w : ByteArray} {x0 : SObj} (h : zA op = some (.stack c)) : fmQ op (.agg [.int .i64 (.lit 8), .int .u8 (.lit c), .int .u8 (.lit 0), .str w, .bool (.lit false)]) [x0] := by
  refine zAV (o := zAY 8 false (fun x => zA op = some (.stack x.c)) (fun x => .var (FmP.c x)) (fun x => .lit 0)) (by simp [zBz]) ?_
  exact (fmK8 c w x0 (fun x => zA op = some (.stack x.c))).mpr ⟨⟨w, c, 0⟩, h, rfl, rfl, trivial⟩
theorem fm9 {op : Int} {w : ByteArray} {x0 : SObj} (h : zA op = some .jmp) : fmQ op (.agg [.int .i64 (.lit 9), .int .u8 (.lit 235), .int .u8 (.lit 0), .str w, .bool (.lit true)]) [x0] := by
  refine zAV (o := zAY 9 true (fun _ => zA op = some .jmp) (fun x => .lit 235) (fun x => .lit 0)) (by simp [zBz]) ?_
  exact (fmK9 w x0 (fun _ => zA op = some .jmp)).mpr ⟨⟨w, 235, 0⟩, h, rfl, trivial⟩
theorem fm10 {op : Int} {w : ByteArray} {x0 : SObj} (h : zA op = some .jcc) : fmQ op (.agg [.int .i64 (.lit 10), .int .u8 (.lit 112), .int .u8 (.lit 0), .str w, .bool (.lit true)]) [x0] := by
  refine zAV (o := zAY 10 true (fun _ => zA op = some .jcc) (fun x => .lit 112) (fun x => .lit 0)) (by simp [zBz]) ?_
  exact (za3 w x0 (fun _ => zA op = some .jcc)).mpr ⟨⟨w, 112, 0⟩, h, rfl, trivial⟩
theorem fm11 {op : Int} {w : ByteArray} {x0 : SObj} (h : zA op = some .ret) : fmQ op (.agg [.int .i64 (.lit 11), .int .u8 (.lit 195), .int .u8 (.lit 0), .str w, .bool (.lit false)]) [x0] := by
  refine zAV (o := zAY 11 false (fun _ => zA op = some .ret) (fun x => .lit 195) (fun x => .lit 0)) (by simp [zBz]) ?_
  exact (za2 w x0 (fun _ => zA op = some .ret)).mpr ⟨⟨w, 195, 0⟩, h, rfl, trivial⟩
set_option maxRecDepth 100000 in
theorem zWp : zZ P 31 fmS := by
  have hs := zN (un := fun _ => 40) zK7 Tryz.func31
  refine zWr hs ?_
  intro op
  have e : ∀ n : Int, (BE.den (.cmp .eql (.var op) (.lit n)) = true) = (op = n) := fun n => by rw [zTr, decide_eq_true_eq]
  have e' : ∀ n : Int, (BE.den (.cmp .eql (.var op) (.lit n)) = false) = ¬ (op = n) := fun n => by rw [zTr, decide_eq_false_iff_not]
  rw [zWq]
  simp only [e, e']
  refine ⟨fun h => fm1 (by unfold zA; rw [h]; rfl), fun n1 => ?_⟩
  refine ⟨fun h => fm2 (by unfold zA; rw [h]; rfl), fun n2 => ?_⟩
  refine ⟨fun h => fm3 (by unfold zA; rw [h]; rfl), fun n3 => ?_⟩
  refine ⟨fun h => fm4 (by unfold zA; rw [h]; rfl), fun n4 => ?_⟩
  refine ⟨fun h => fm2 (by unfold zA; rw [h]; rfl), fun n5 => ?_⟩
  refine ⟨fun h => fm2 (by unfold zA; rw [h]; rfl), fun n6 => ?_⟩
  refine ⟨fun h => fm2 (by unfold zA; rw [h]; rfl), fun n7 => ?_⟩
  refine ⟨fun h => fm2 (by unfold zA; rw [h]; rfl), fun n8 => ?_⟩
  refine ⟨fun h => fm2 (by unfold zA; rw [h]; rfl), fun n9 => ?_⟩
  refine ⟨fun h => fm2 (by unfold zA; rw [h]; rfl), fun n10 => ?_⟩
  refine ⟨fun h => fm2 (by unfold zA; rw [h]; rfl), fun n11 => ?_⟩
  refine ⟨fun h => fm2 (by unfold zA; rw [h]; rfl), fun n12 => ?_⟩
  refine ⟨fun h => fm5 (by unfold zA; rw [h]; rfl), fun n13 => ?_⟩
  refine ⟨fun h => fm6 (by unfold zA; rw [h]; rfl), fun n14 => ?_⟩
  refine ⟨fun h => fm6 (by unfold zA; rw [h]; rfl), fun n15 => ?_⟩
  refine ⟨fun h => fm6 (by unfold zA; rw [h]; rfl), fun n16 => ?_⟩
  refine ⟨fun h => fm6 (by unfold zA; rw [h]; rfl), fun n17 => ?_⟩
  refine ⟨fun h => fm7 (by unfold zA; rw [h]; rfl), fun n18 => ?_⟩
  refine ⟨fun h => fm7 (by unfold zA; rw [h]; rfl), fun n19 => ?_⟩
  refine ⟨fun h => fm7 (by unfold zA; rw [h]; rfl), fun n20 => ?_⟩
  refine ⟨fun h => fm7 (by unfold zA; rw [h]; rfl), fun n21 => ?_⟩
  refine ⟨fun h => fm7 (by unfold zA; rw [h]; rfl), fun n22 => ?_⟩
  refine ⟨fun h => fm8 (by unfold zA; rw [h]; rfl), fun n23 => ?_⟩
  refine ⟨fun h => fm8 (by unfold zA; rw [h]; rfl), fun n24 => ?_⟩
  refine ⟨fun h => fm9 (by unfold zA; rw [h]; rfl), fun n25 => ?_⟩
  refine ⟨fun h => fm10 (by unfold zA; rw [h]; rfl), fun n26 => ?_⟩
  refine ⟨fun h => fm11 (by unfold zA; rw [h]; rfl), fun n27 => ?_⟩
  exact fm0 (by unfold zA; simp only [n1, n2, n3, n4, n5, n6, n7, n8, n9, n10, n11, n12, n13, n14, n15, n16, n17, n18, n19, n20, n21, n22, n23, n24, n25, n26, n27, if_false])
end Go.Proofs.YtajcmjjgnbaahaaGreat.Amd
