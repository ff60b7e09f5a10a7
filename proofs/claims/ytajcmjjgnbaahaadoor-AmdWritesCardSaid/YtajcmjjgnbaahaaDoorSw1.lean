/- Texts: Itoa as it is told; a register's text, register by register. -/
import Derived.Test.YtajcmjjgnbaahaaDoorAb
import Derived.Test.YtajcmjjgnbaahaaDoorSxt
import Derived.Test.YtajcmjjgnbaahaaDoorShelf
import Derived.Lib.ItoaLen
namespace Go.Proofs.YtajcmjjgnbaahaaDoor.Amd
open Go Go.Proofs.YtajcmjjgnbaahaaDoor.Sx Go.RowKit
set_option linter.unusedVariables false
set_option linter.unusedSimpArgs false
theorem gTens : P.globalNamed tenName = some 0 := by kernel_rfl
theorem itoa_spec : SpecOk P 18 (tabSpec 0 itoaF) := itoa_ok gTens (fun n w h0 h1 ht => Tryd.strconv_Itoa n h0 h1 w ht)
abbrev hpT : List SObj := [.glob 0 tenTab]
noncomputable def itT : List (FuncId × Cal) := [(18, .spec (tabSpec 0 itoaF) (tabGuess itoaF))]
theorem itT_ok : GammaOk P (table itT) := table_cons (spec_cal itoa_spec) fun g s h => by simp [table] at h
noncomputable def GI : FuncId -> Option Cal := inl P (fun _ _ => .plain 40) (table itT) 6
theorem GI_ok : GammaOk P GI := inl_ok itT_ok 6
theorem areg_0 (w : Bool) (Q : SV -> Prop) : sxFunc P GI (fun _ => .plain 40) Tryd.f17 [.int .i64 (.lit 0), .bool (.var w)] hpT (fun v _ => Q v) =
    ((w = true -> Q (SV.str { data := #[UInt8.ofNat (113 + 1), UInt8.ofNat (96 + 1), UInt8.ofNat (119 + 1)] })) /\ (w = false -> Q (SV.str { data := #[UInt8.ofNat (100 + 1), UInt8.ofNat (96 + 1), UInt8.ofNat (119 + 1)] }))) := by kernel_rfl
theorem rreg_0 (w : Bool) (Q : SV -> Prop) : sxFunc P GI (fun _ => .plain 40) Tryd.f29 [.int .i64 (.lit 0), .bool (.var w)] hpT (fun v _ => Q v) =
    ((w = true -> Q (SV.str { data := #[UInt8.ofNat (113 + 1), UInt8.ofNat (96 + 1), UInt8.ofNat (119 + 1)] })) /\ (w = false -> Q (SV.str { data := #[UInt8.ofNat (100 + 1), UInt8.ofNat (96 + 1), UInt8.ofNat (119 + 1)] }))) := by kernel_rfl
theorem areg_1 (w : Bool) (Q : SV -> Prop) : sxFunc P GI (fun _ => .plain 40) Tryd.f17 [.int .i64 (.lit 1), .bool (.var w)] hpT (fun v _ => Q v) =
    ((w = true -> Q (SV.str { data := #[UInt8.ofNat (113 + 1), UInt8.ofNat (98 + 1), UInt8.ofNat (119 + 1)] })) /\ (w = false -> Q (SV.str { data := #[UInt8.ofNat (100 + 1), UInt8.ofNat (98 + 1), UInt8.ofNat (119 + 1)] }))) := by kernel_rfl
theorem rreg_1 (w : Bool) (Q : SV -> Prop) : sxFunc P GI (fun _ => .plain 40) Tryd.f29 [.int .i64 (.lit 1), .bool (.var w)] hpT (fun v _ => Q v) =
    ((w = true -> Q (SV.str { data := #[UInt8.ofNat (113 + 1), UInt8.ofNat (98 + 1), UInt8.ofNat (119 + 1)] })) /\ (w = false -> Q (SV.str { data := #[UInt8.ofNat (100 + 1), UInt8.ofNat (98 + 1), UInt8.ofNat (119 + 1)] }))) := by kernel_rfl
theorem areg_2 (w : Bool) (Q : SV -> Prop) : sxFunc P GI (fun _ => .plain 40) Tryd.f17 [.int .i64 (.lit 2), .bool (.var w)] hpT (fun v _ => Q v) =
    ((w = true -> Q (SV.str { data := #[UInt8.ofNat (113 + 1), UInt8.ofNat (99 + 1), UInt8.ofNat (119 + 1)] })) /\ (w = false -> Q (SV.str { data := #[UInt8.ofNat (100 + 1), UInt8.ofNat (99 + 1), UInt8.ofNat (119 + 1)] }))) := by kernel_rfl
theorem rreg_2 (w : Bool) (Q : SV -> Prop) : sxFunc P GI (fun _ => .plain 40) Tryd.f29 [.int .i64 (.lit 2), .bool (.var w)] hpT (fun v _ => Q v) =
    ((w = true -> Q (SV.str { data := #[UInt8.ofNat (113 + 1), UInt8.ofNat (99 + 1), UInt8.ofNat (119 + 1)] })) /\ (w = false -> Q (SV.str { data := #[UInt8.ofNat (100 + 1), UInt8.ofNat (99 + 1), UInt8.ofNat (119 + 1)] }))) := by kernel_rfl
theorem areg_3 (w : Bool) (Q : SV -> Prop) : sxFunc P GI (fun _ => .plain 40) Tryd.f17 [.int .i64 (.lit 3), .bool (.var w)] hpT (fun v _ => Q v) =
    ((w = true -> Q (SV.str { data := #[UInt8.ofNat (113 + 1), UInt8.ofNat (97 + 1), UInt8.ofNat (119 + 1)] })) /\ (w = false -> Q (SV.str { data := #[UInt8.ofNat (100 + 1), UInt8.ofNat (97 + 1), UInt8.ofNat (119 + 1)] }))) := by kernel_rfl
theorem rreg_3 (w : Bool) (Q : SV -> Prop) : sxFunc P GI (fun _ => .plain 40) Tryd.f29 [.int .i64 (.lit 3), .bool (.var w)] hpT (fun v _ => Q v) =
    ((w = true -> Q (SV.str { data := #[UInt8.ofNat (113 + 1), UInt8.ofNat (97 + 1), UInt8.ofNat (119 + 1)] })) /\ (w = false -> Q (SV.str { data := #[UInt8.ofNat (100 + 1), UInt8.ofNat (97 + 1), UInt8.ofNat (119 + 1)] }))) := by kernel_rfl
theorem areg_4 (w : Bool) (Q : SV -> Prop) : sxFunc P GI (fun _ => .plain 40) Tryd.f17 [.int .i64 (.lit 4), .bool (.var w)] hpT (fun v _ => Q v) =
    ((w = true -> Q (SV.str { data := #[UInt8.ofNat (113 + 1), UInt8.ofNat (114 + 1), UInt8.ofNat (111 + 1)] })) /\ (w = false -> Q (SV.str { data := #[UInt8.ofNat (100 + 1), UInt8.ofNat (114 + 1), UInt8.ofNat (111 + 1)] }))) := by kernel_rfl
theorem rreg_4 (w : Bool) (Q : SV -> Prop) : sxFunc P GI (fun _ => .plain 40) Tryd.f29 [.int .i64 (.lit 4), .bool (.var w)] hpT (fun v _ => Q v) =
    ((w = true -> Q (SV.str { data := #[UInt8.ofNat (113 + 1), UInt8.ofNat (114 + 1), UInt8.ofNat (111 + 1)] })) /\ (w = false -> Q (SV.str { data := #[UInt8.ofNat (100 + 1), UInt8.ofNat (114 + 1), UInt8.ofNat (111 + 1)] }))) := by kernel_rfl
theorem areg_5 (w : Bool) (Q : SV -> Prop) : sxFunc P GI (fun _ => .plain 40) Tryd.f17 [.int .i64 (.lit 5), .bool (.var w)] hpT (fun v _ => Q v) =
    ((w = true -> Q (SV.str { data := #[UInt8.ofNat (113 + 1), UInt8.ofNat (97 + 1), UInt8.ofNat (111 + 1)] })) /\ (w = false -> Q (SV.str { data := #[UInt8.ofNat (100 + 1), UInt8.ofNat (97 + 1), UInt8.ofNat (111 + 1)] }))) := by kernel_rfl
theorem rreg_5 (w : Bool) (Q : SV -> Prop) : sxFunc P GI (fun _ => .plain 40) Tryd.f29 [.int .i64 (.lit 5), .bool (.var w)] hpT (fun v _ => Q v) =
    ((w = true -> Q (SV.str { data := #[UInt8.ofNat (113 + 1), UInt8.ofNat (97 + 1), UInt8.ofNat (111 + 1)] })) /\ (w = false -> Q (SV.str { data := #[UInt8.ofNat (100 + 1), UInt8.ofNat (97 + 1), UInt8.ofNat (111 + 1)] }))) := by kernel_rfl
theorem areg_6 (w : Bool) (Q : SV -> Prop) : sxFunc P GI (fun _ => .plain 40) Tryd.f17 [.int .i64 (.lit 6), .bool (.var w)] hpT (fun v _ => Q v) =
    ((w = true -> Q (SV.str { data := #[UInt8.ofNat (113 + 1), UInt8.ofNat (114 + 1), UInt8.ofNat (104 + 1)] })) /\ (w = false -> Q (SV.str { data := #[UInt8.ofNat (100 + 1), UInt8.ofNat (114 + 1), UInt8.ofNat (104 + 1)] }))) := by kernel_rfl
theorem rreg_6 (w : Bool) (Q : SV -> Prop) : sxFunc P GI (fun _ => .plain 40) Tryd.f29 [.int .i64 (.lit 6), .bool (.var w)] hpT (fun v _ => Q v) =
    ((w = true -> Q (SV.str { data := #[UInt8.ofNat (113 + 1), UInt8.ofNat (114 + 1), UInt8.ofNat (104 + 1)] })) /\ (w = false -> Q (SV.str { data := #[UInt8.ofNat (100 + 1), UInt8.ofNat (114 + 1), UInt8.ofNat (104 + 1)] }))) := by kernel_rfl
theorem areg_7 (w : Bool) (Q : SV -> Prop) : sxFunc P GI (fun _ => .plain 40) Tryd.f17 [.int .i64 (.lit 7), .bool (.var w)] hpT (fun v _ => Q v) =
    ((w = true -> Q (SV.str { data := #[UInt8.ofNat (113 + 1), UInt8.ofNat (99 + 1), UInt8.ofNat (104 + 1)] })) /\ (w = false -> Q (SV.str { data := #[UInt8.ofNat (100 + 1), UInt8.ofNat (99 + 1), UInt8.ofNat (104 + 1)] }))) := by kernel_rfl
theorem rreg_7 (w : Bool) (Q : SV -> Prop) : sxFunc P GI (fun _ => .plain 40) Tryd.f29 [.int .i64 (.lit 7), .bool (.var w)] hpT (fun v _ => Q v) =
    ((w = true -> Q (SV.str { data := #[UInt8.ofNat (113 + 1), UInt8.ofNat (99 + 1), UInt8.ofNat (104 + 1)] })) /\ (w = false -> Q (SV.str { data := #[UInt8.ofNat (100 + 1), UInt8.ofNat (99 + 1), UInt8.ofNat (104 + 1)] }))) := by kernel_rfl
theorem areg_8 (w : Bool) (Q : SV -> Prop) : sxFunc P GI (fun _ => .plain 40) Tryd.f17 [.int .i64 (.lit 8), .bool (.var w)] hpT (fun v _ => Q v) =
    ((Int.NonNeg (8 - -9223372036854775808) /\ Int.NonNeg (9223372036854775807 - 8)) /\ decide (ByteArray.size { data := #[114] } + ByteArray.size (itoaB 8) <= 9223372036854775807) = true /\ (BE.den (.not (.var w)) = true -> decide (ByteArray.size ({ data := #[114] } ++ itoaB 8) + ByteArray.size { data := #[100] } <= 9223372036854775807) = true /\ Q (SV.strE ({ data := #[114] } ++ itoaB 8 ++ { data := #[100] }))) /\ (BE.den (.not (.var w)) = false -> Q (SV.strE ({ data := #[114] } ++ itoaB 8)))) := by kernel_rfl
theorem rreg_8 (w : Bool) (Q : SV -> Prop) : sxFunc P GI (fun _ => .plain 40) Tryd.f29 [.int .i64 (.lit 8), .bool (.var w)] hpT (fun v _ => Q v) =
    ((w = true -> (Int.NonNeg (8 - -9223372036854775808) /\ Int.NonNeg (9223372036854775807 - 8)) /\ decide (ByteArray.size { data := #[114] } + ByteArray.size (itoaB 8) <= 9223372036854775807) = true /\ Q (SV.strE ({ data := #[114] } ++ itoaB 8))) /\ (w = false -> (Int.NonNeg (8 - -9223372036854775808) /\ Int.NonNeg (9223372036854775807 - 8)) /\ decide (ByteArray.size { data := #[114] } + ByteArray.size (itoaB 8) <= 9223372036854775807) = true /\ decide (ByteArray.size ({ data := #[114] } ++ itoaB 8) + ByteArray.size { data := #[100] } <= 9223372036854775807) = true /\ Q (SV.strE ({ data := #[114] } ++ itoaB 8 ++ { data := #[100] })))) := by kernel_rfl
theorem areg_9 (w : Bool) (Q : SV -> Prop) : sxFunc P GI (fun _ => .plain 40) Tryd.f17 [.int .i64 (.lit 9), .bool (.var w)] hpT (fun v _ => Q v) =
    ((Int.NonNeg (9 - -9223372036854775808) /\ Int.NonNeg (9223372036854775807 - 9)) /\ decide (ByteArray.size { data := #[114] } + ByteArray.size (itoaB 9) <= 9223372036854775807) = true /\ (BE.den (.not (.var w)) = true -> decide (ByteArray.size ({ data := #[114] } ++ itoaB 9) + ByteArray.size { data := #[100] } <= 9223372036854775807) = true /\ Q (SV.strE ({ data := #[114] } ++ itoaB 9 ++ { data := #[100] }))) /\ (BE.den (.not (.var w)) = false -> Q (SV.strE ({ data := #[114] } ++ itoaB 9)))) := by kernel_rfl
theorem rreg_9 (w : Bool) (Q : SV -> Prop) : sxFunc P GI (fun _ => .plain 40) Tryd.f29 [.int .i64 (.lit 9), .bool (.var w)] hpT (fun v _ => Q v) =
    ((w = true -> (Int.NonNeg (9 - -9223372036854775808) /\ Int.NonNeg (9223372036854775807 - 9)) /\ decide (ByteArray.size { data := #[114] } + ByteArray.size (itoaB 9) <= 9223372036854775807) = true /\ Q (SV.strE ({ data := #[114] } ++ itoaB 9))) /\ (w = false -> (Int.NonNeg (9 - -9223372036854775808) /\ Int.NonNeg (9223372036854775807 - 9)) /\ decide (ByteArray.size { data := #[114] } + ByteArray.size (itoaB 9) <= 9223372036854775807) = true /\ decide (ByteArray.size ({ data := #[114] } ++ itoaB 9) + ByteArray.size { data := #[100] } <= 9223372036854775807) = true /\ Q (SV.strE ({ data := #[114] } ++ itoaB 9 ++ { data := #[100] })))) := by kernel_rfl
theorem areg_10 (w : Bool) (Q : SV -> Prop) : sxFunc P GI (fun _ => .plain 40) Tryd.f17 [.int .i64 (.lit 10), .bool (.var w)] hpT (fun v _ => Q v) =
    ((Int.NonNeg (10 - -9223372036854775808) /\ Int.NonNeg (9223372036854775807 - 10)) /\ decide (ByteArray.size { data := #[114] } + ByteArray.size (itoaB 10) <= 9223372036854775807) = true /\ (BE.den (.not (.var w)) = true -> decide (ByteArray.size ({ data := #[114] } ++ itoaB 10) + ByteArray.size { data := #[100] } <= 9223372036854775807) = true /\ Q (SV.strE ({ data := #[114] } ++ itoaB 10 ++ { data := #[100] }))) /\ (BE.den (.not (.var w)) = false -> Q (SV.strE ({ data := #[114] } ++ itoaB 10)))) := by kernel_rfl
theorem rreg_10 (w : Bool) (Q : SV -> Prop) : sxFunc P GI (fun _ => .plain 40) Tryd.f29 [.int .i64 (.lit 10), .bool (.var w)] hpT (fun v _ => Q v) =
    ((w = true -> (Int.NonNeg (10 - -9223372036854775808) /\ Int.NonNeg (9223372036854775807 - 10)) /\ decide (ByteArray.size { data := #[114] } + ByteArray.size (itoaB 10) <= 9223372036854775807) = true /\ Q (SV.strE ({ data := #[114] } ++ itoaB 10))) /\ (w = false -> (Int.NonNeg (10 - -9223372036854775808) /\ Int.NonNeg (9223372036854775807 - 10)) /\ decide (ByteArray.size { data := #[114] } + ByteArray.size (itoaB 10) <= 9223372036854775807) = true /\ decide (ByteArray.size ({ data := #[114] } ++ itoaB 10) + ByteArray.size { data := #[100] } <= 9223372036854775807) = true /\ Q (SV.strE ({ data := #[114] } ++ itoaB 10 ++ { data := #[100] })))) := by kernel_rfl
theorem areg_11 (w : Bool) (Q : SV -> Prop) : sxFunc P GI (fun _ => .plain 40) Tryd.f17 [.int .i64 (.lit 11), .bool (.var w)] hpT (fun v _ => Q v) =
    ((Int.NonNeg (11 - -9223372036854775808) /\ Int.NonNeg (9223372036854775807 - 11)) /\ decide (ByteArray.size { data := #[114] } + ByteArray.size (itoaB 11) <= 9223372036854775807) = true /\ (BE.den (.not (.var w)) = true -> decide (ByteArray.size ({ data := #[114] } ++ itoaB 11) + ByteArray.size { data := #[100] } <= 9223372036854775807) = true /\ Q (SV.strE ({ data := #[114] } ++ itoaB 11 ++ { data := #[100] }))) /\ (BE.den (.not (.var w)) = false -> Q (SV.strE ({ data := #[114] } ++ itoaB 11)))) := by kernel_rfl
theorem rreg_11 (w : Bool) (Q : SV -> Prop) : sxFunc P GI (fun _ => .plain 40) Tryd.f29 [.int .i64 (.lit 11), .bool (.var w)] hpT (fun v _ => Q v) =
    ((w = true -> (Int.NonNeg (11 - -9223372036854775808) /\ Int.NonNeg (9223372036854775807 - 11)) /\ decide (ByteArray.size { data := #[114] } + ByteArray.size (itoaB 11) <= 9223372036854775807) = true /\ Q (SV.strE ({ data := #[114] } ++ itoaB 11))) /\ (w = false -> (Int.NonNeg (11 - -9223372036854775808) /\ Int.NonNeg (9223372036854775807 - 11)) /\ decide (ByteArray.size { data := #[114] } + ByteArray.size (itoaB 11) <= 9223372036854775807) = true /\ decide (ByteArray.size ({ data := #[114] } ++ itoaB 11) + ByteArray.size { data := #[100] } <= 9223372036854775807) = true /\ Q (SV.strE ({ data := #[114] } ++ itoaB 11 ++ { data := #[100] })))) := by kernel_rfl
theorem areg_12 (w : Bool) (Q : SV -> Prop) : sxFunc P GI (fun _ => .plain 40) Tryd.f17 [.int .i64 (.lit 12), .bool (.var w)] hpT (fun v _ => Q v) =
    ((Int.NonNeg (12 - -9223372036854775808) /\ Int.NonNeg (9223372036854775807 - 12)) /\ decide (ByteArray.size { data := #[114] } + ByteArray.size (itoaB 12) <= 9223372036854775807) = true /\ (BE.den (.not (.var w)) = true -> decide (ByteArray.size ({ data := #[114] } ++ itoaB 12) + ByteArray.size { data := #[100] } <= 9223372036854775807) = true /\ Q (SV.strE ({ data := #[114] } ++ itoaB 12 ++ { data := #[100] }))) /\ (BE.den (.not (.var w)) = false -> Q (SV.strE ({ data := #[114] } ++ itoaB 12)))) := by kernel_rfl
theorem rreg_12 (w : Bool) (Q : SV -> Prop) : sxFunc P GI (fun _ => .plain 40) Tryd.f29 [.int .i64 (.lit 12), .bool (.var w)] hpT (fun v _ => Q v) =
    ((w = true -> (Int.NonNeg (12 - -9223372036854775808) /\ Int.NonNeg (9223372036854775807 - 12)) /\ decide (ByteArray.size { data := #[114] } + ByteArray.size (itoaB 12) <= 9223372036854775807) = true /\ Q (SV.strE ({ data := #[114] } ++ itoaB 12))) /\ (w = false -> (Int.NonNeg (12 - -9223372036854775808) /\ Int.NonNeg (9223372036854775807 - 12)) /\ decide (ByteArray.size { data := #[114] } + ByteArray.size (itoaB 12) <= 9223372036854775807) = true /\ decide (ByteArray.size ({ data := #[114] } ++ itoaB 12) + ByteArray.size { data := #[100] } <= 9223372036854775807) = true /\ Q (SV.strE ({ data := #[114] } ++ itoaB 12 ++ { data := #[100] })))) := by kernel_rfl
theorem areg_13 (w : Bool) (Q : SV -> Prop) : sxFunc P GI (fun _ => .plain 40) Tryd.f17 [.int .i64 (.lit 13), .bool (.var w)] hpT (fun v _ => Q v) =
    ((Int.NonNeg (13 - -9223372036854775808) /\ Int.NonNeg (9223372036854775807 - 13)) /\ decide (ByteArray.size { data := #[114] } + ByteArray.size (itoaB 13) <= 9223372036854775807) = true /\ (BE.den (.not (.var w)) = true -> decide (ByteArray.size ({ data := #[114] } ++ itoaB 13) + ByteArray.size { data := #[100] } <= 9223372036854775807) = true /\ Q (SV.strE ({ data := #[114] } ++ itoaB 13 ++ { data := #[100] }))) /\ (BE.den (.not (.var w)) = false -> Q (SV.strE ({ data := #[114] } ++ itoaB 13)))) := by kernel_rfl
theorem rreg_13 (w : Bool) (Q : SV -> Prop) : sxFunc P GI (fun _ => .plain 40) Tryd.f29 [.int .i64 (.lit 13), .bool (.var w)] hpT (fun v _ => Q v) =
    ((w = true -> (Int.NonNeg (13 - -9223372036854775808) /\ Int.NonNeg (9223372036854775807 - 13)) /\ decide (ByteArray.size { data := #[114] } + ByteArray.size (itoaB 13) <= 9223372036854775807) = true /\ Q (SV.strE ({ data := #[114] } ++ itoaB 13))) /\ (w = false -> (Int.NonNeg (13 - -9223372036854775808) /\ Int.NonNeg (9223372036854775807 - 13)) /\ decide (ByteArray.size { data := #[114] } + ByteArray.size (itoaB 13) <= 9223372036854775807) = true /\ decide (ByteArray.size ({ data := #[114] } ++ itoaB 13) + ByteArray.size { data := #[100] } <= 9223372036854775807) = true /\ Q (SV.strE ({ data := #[114] } ++ itoaB 13 ++ { data := #[100] })))) := by kernel_rfl
theorem areg_14 (w : Bool) (Q : SV -> Prop) : sxFunc P GI (fun _ => .plain 40) Tryd.f17 [.int .i64 (.lit 14), .bool (.var w)] hpT (fun v _ => Q v) =
    ((Int.NonNeg (14 - -9223372036854775808) /\ Int.NonNeg (9223372036854775807 - 14)) /\ decide (ByteArray.size { data := #[114] } + ByteArray.size (itoaB 14) <= 9223372036854775807) = true /\ (BE.den (.not (.var w)) = true -> decide (ByteArray.size ({ data := #[114] } ++ itoaB 14) + ByteArray.size { data := #[100] } <= 9223372036854775807) = true /\ Q (SV.strE ({ data := #[114] } ++ itoaB 14 ++ { data := #[100] }))) /\ (BE.den (.not (.var w)) = false -> Q (SV.strE ({ data := #[114] } ++ itoaB 14)))) := by kernel_rfl
theorem rreg_14 (w : Bool) (Q : SV -> Prop) : sxFunc P GI (fun _ => .plain 40) Tryd.f29 [.int .i64 (.lit 14), .bool (.var w)] hpT (fun v _ => Q v) =
    ((w = true -> (Int.NonNeg (14 - -9223372036854775808) /\ Int.NonNeg (9223372036854775807 - 14)) /\ decide (ByteArray.size { data := #[114] } + ByteArray.size (itoaB 14) <= 9223372036854775807) = true /\ Q (SV.strE ({ data := #[114] } ++ itoaB 14))) /\ (w = false -> (Int.NonNeg (14 - -9223372036854775808) /\ Int.NonNeg (9223372036854775807 - 14)) /\ decide (ByteArray.size { data := #[114] } + ByteArray.size (itoaB 14) <= 9223372036854775807) = true /\ decide (ByteArray.size ({ data := #[114] } ++ itoaB 14) + ByteArray.size { data := #[100] } <= 9223372036854775807) = true /\ Q (SV.strE ({ data := #[114] } ++ itoaB 14 ++ { data := #[100] })))) := by kernel_rfl
theorem areg_15 (w : Bool) (Q : SV -> Prop) : sxFunc P GI (fun _ => .plain 40) Tryd.f17 [.int .i64 (.lit 15), .bool (.var w)] hpT (fun v _ => Q v) =
    ((Int.NonNeg (15 - -9223372036854775808) /\ Int.NonNeg (9223372036854775807 - 15)) /\ decide (ByteArray.size { data := #[114] } + ByteArray.size (itoaB 15) <= 9223372036854775807) = true /\ (BE.den (.not (.var w)) = true -> decide (ByteArray.size ({ data := #[114] } ++ itoaB 15) + ByteArray.size { data := #[100] } <= 9223372036854775807) = true /\ Q (SV.strE ({ data := #[114] } ++ itoaB 15 ++ { data := #[100] }))) /\ (BE.den (.not (.var w)) = false -> Q (SV.strE ({ data := #[114] } ++ itoaB 15)))) := by kernel_rfl
theorem rreg_15 (w : Bool) (Q : SV -> Prop) : sxFunc P GI (fun _ => .plain 40) Tryd.f29 [.int .i64 (.lit 15), .bool (.var w)] hpT (fun v _ => Q v) =
    ((w = true -> (Int.NonNeg (15 - -9223372036854775808) /\ Int.NonNeg (9223372036854775807 - 15)) /\ decide (ByteArray.size { data := #[114] } + ByteArray.size (itoaB 15) <= 9223372036854775807) = true /\ Q (SV.strE ({ data := #[114] } ++ itoaB 15))) /\ (w = false -> (Int.NonNeg (15 - -9223372036854775808) /\ Int.NonNeg (9223372036854775807 - 15)) /\ decide (ByteArray.size { data := #[114] } + ByteArray.size (itoaB 15) <= 9223372036854775807) = true /\ decide (ByteArray.size ({ data := #[114] } ++ itoaB 15) + ByteArray.size { data := #[100] } <= 9223372036854775807) = true /\ Q (SV.strE ({ data := #[114] } ++ itoaB 15 ++ { data := #[100] })))) := by kernel_rfl
theorem asgn_nf (v : Int) (Q : SV -> Prop) : sxFunc P GI (fun _ => .plain 40) Tryd.f20 [.int .i64 (.var v)] hpT (fun v _ => Q v) =
    ((BE.den (.cmp .lss (.var v) (.lit 0)) = true -> (Int.NonNeg (v - -9223372036854775808) /\ Int.NonNeg (9223372036854775807 - v)) /\ Q (SV.strE (itoaB v))) /\ (BE.den (.cmp .lss (.var v) (.lit 0)) = false -> (Int.NonNeg (v - -9223372036854775808) /\ Int.NonNeg (9223372036854775807 - v)) /\ decide (ByteArray.size { data := #[43] } + ByteArray.size (itoaB v) <= 9223372036854775807) = true /\ Q (SV.strE ({ data := #[43] } ++ itoaB v)))) := by kernel_rfl
theorem rsgn_nf (v : Int) (Q : SV -> Prop) : sxFunc P GI (fun _ => .plain 40) Tryd.f30 [.int .i64 (.var v)] hpT (fun v _ => Q v) =
    ((BE.den (.cmp .lss (.var v) (.lit 0)) = true -> (Int.NonNeg (v - -9223372036854775808) /\ Int.NonNeg (9223372036854775807 - v)) /\ Q (SV.strE (itoaB v))) /\ (BE.den (.cmp .lss (.var v) (.lit 0)) = false -> (Int.NonNeg (v - -9223372036854775808) /\ Int.NonNeg (9223372036854775807 - v)) /\ decide (ByteArray.size { data := #[43] } + ByteArray.size (itoaB v) <= 9223372036854775807) = true /\ Q (SV.strE ({ data := #[43] } ++ itoaB v)))) := by kernel_rfl
def regT : List (UInt8 × UInt8) := [(97, 120), (99, 120), (100, 120), (98, 120), (115, 112), (98, 112), (115, 105), (100, 105)]
def regB (r : Int) (w : Bool) : ByteArray :=
  if 7 < r then (if w = true then ⟨#[114]⟩ ++ itoaB r else ⟨#[114]⟩ ++ itoaB r ++ ⟨#[100]⟩)
  else match regT[r.toNat]? with | some (a, b) => ⟨#[if w = true then 114 else 101, a, b]⟩ | none => ⟨#[]⟩
def sgnB (v : Int) : ByteArray := if v < 0 then itoaB v else ⟨#[43]⟩ ++ itoaB v
def regF : TabFn
  | [.int .i64 r, .bool w] => some (0 <= r.den /\ r.den <= 15, .strE (regB r.den w.den))
  | _ => none
def sgnF : TabFn
  | [.int .i64 v] => some (Sx.inI64 v.den, .strE (sgnB v.den))
  | _ => none
theorem nDigits_pos (u : Nat) : 1 <= Lib.nDigits u := by
  rw [Lib.nDigits]
  split <;> omega
theorem itoaB_size {n : Int} (h : Sx.inI64 n) : 1 <= (itoaB n).size /\ (itoaB n).size <= 21 := by
  have e : (itoaB n).size = (Lib.itoa n).length := by simp [itoaB, ByteArray.size]
  rw [e]
  refine ⟨?_, Lib.itoa_length_le n h.1 h.2⟩
  unfold Lib.itoa
  split
  · simp
  · rw [Lib.decDigits_length]; exact nDigits_pos _
theorem b1_size (c : UInt8) : (⟨#[c]⟩ : ByteArray).size = 1 := rfl
theorem regB_size {r : Int} (w : Bool) (h0 : 0 <= r) (h1 : r <= 15) : (regB r w).size <= 23 := by
  unfold regB
  by_cases h : 7 < r
  · rw [if_pos h]
    have := itoaB_size (n := r) ⟨by omega, by omega⟩
    split <;> simp only [ByteArray.size_append, b1_size] <;> omega
  · rw [if_neg h]
    split
    · exact Nat.le_of_ble_eq_true rfl
    · exact Nat.zero_le _
theorem sgnB_size {v : Int} (h : Sx.inI64 v) : (sgnB v).size <= 22 := by
  have := itoaB_size h
  unfold sgnB
  split
  · omega
  · simp only [ByteArray.size_append, b1_size]; omega
theorem in16 {k : Int} (h0 : 0 <= k) (h1 : k <= 15) : Int.NonNeg (k - -9223372036854775808) /\ Int.NonNeg (9223372036854775807 - k) := ⟨show (-9223372036854775808 : Int) <= k by omega, show k <= 9223372036854775807 by omega⟩
theorem catI {k : Int} (c : UInt8) (h0 : 0 <= k) (h1 : k <= 15) : decide (ByteArray.size ⟨#[c]⟩ + ByteArray.size (itoaB k) <= 9223372036854775807) = true := by
  have := itoaB_size (n := k) ⟨by omega, by omega⟩
  rw [b1_size]; exact decide_eq_true (by omega)
theorem catJ {k : Int} (c d : UInt8) (h0 : 0 <= k) (h1 : k <= 15) : decide (ByteArray.size ((⟨#[c]⟩ : ByteArray) ++ itoaB k) + ByteArray.size ⟨#[d]⟩ <= 9223372036854775807) = true := by
  have := itoaB_size (n := k) ⟨by omega, by omega⟩
  rw [ByteArray.size_append, b1_size, b1_size]; exact decide_eq_true (by omega)
theorem st_d {V V' : ByteArray} (h : V = V') (ν : Nat -> Pl) : SV.den ν (.strE V) = SV.den nu0 (.strE V') := by subst h; rfl
theorem not_t {w : Bool} (h : BE.den (.not (.var w)) = true) : w = false := by cases w <;> simp_all [BE.den]
theorem not_f {w : Bool} (h : BE.den (.not (.var w)) = false) : w = true := by cases w <;> simp_all [BE.den]
theorem reg_cases {r : Int} (h0 : 0 <= r) (h1 : r <= 15) : r = 0 ∨ r = 1 ∨ r = 2 ∨ r = 3 ∨ r = 4 ∨ r = 5 ∨ r = 6 ∨ r = 7 ∨ r = 8 ∨ r = 9 ∨ r = 10 ∨ r = 11 ∨ r = 12 ∨ r = 13 ∨ r = 14 ∨ r = 15 := by omega
theorem aregB_0 (w : Bool) : sxFunc P GI (fun _ => .plain 40) Tryd.f17 [.int .i64 (.lit 0), .bool (.var w)] hpT (fun v _ => ∀ ν, v.den ν = SV.den nu0 (.strE (regB 0 w))) = True := by
  apply eq_true
  rw [areg_0]
  exact ⟨fun h ν => by subst h; rfl, fun h ν => by subst h; rfl⟩
theorem aregB_1 (w : Bool) : sxFunc P GI (fun _ => .plain 40) Tryd.f17 [.int .i64 (.lit 1), .bool (.var w)] hpT (fun v _ => ∀ ν, v.den ν = SV.den nu0 (.strE (regB 1 w))) = True := by
  apply eq_true
  rw [areg_1]
  exact ⟨fun h ν => by subst h; rfl, fun h ν => by subst h; rfl⟩
theorem aregB_2 (w : Bool) : sxFunc P GI (fun _ => .plain 40) Tryd.f17 [.int .i64 (.lit 2), .bool (.var w)] hpT (fun v _ => ∀ ν, v.den ν = SV.den nu0 (.strE (regB 2 w))) = True := by
  apply eq_true
  rw [areg_2]
  exact ⟨fun h ν => by subst h; rfl, fun h ν => by subst h; rfl⟩
theorem aregB_3 (w : Bool) : sxFunc P GI (fun _ => .plain 40) Tryd.f17 [.int .i64 (.lit 3), .bool (.var w)] hpT (fun v _ => ∀ ν, v.den ν = SV.den nu0 (.strE (regB 3 w))) = True := by
  apply eq_true
  rw [areg_3]
  exact ⟨fun h ν => by subst h; rfl, fun h ν => by subst h; rfl⟩
theorem aregB_4 (w : Bool) : sxFunc P GI (fun _ => .plain 40) Tryd.f17 [.int .i64 (.lit 4), .bool (.var w)] hpT (fun v _ => ∀ ν, v.den ν = SV.den nu0 (.strE (regB 4 w))) = True := by
  apply eq_true
  rw [areg_4]
  exact ⟨fun h ν => by subst h; rfl, fun h ν => by subst h; rfl⟩
theorem aregB_5 (w : Bool) : sxFunc P GI (fun _ => .plain 40) Tryd.f17 [.int .i64 (.lit 5), .bool (.var w)] hpT (fun v _ => ∀ ν, v.den ν = SV.den nu0 (.strE (regB 5 w))) = True := by
  apply eq_true
  rw [areg_5]
  exact ⟨fun h ν => by subst h; rfl, fun h ν => by subst h; rfl⟩
theorem aregB_6 (w : Bool) : sxFunc P GI (fun _ => .plain 40) Tryd.f17 [.int .i64 (.lit 6), .bool (.var w)] hpT (fun v _ => ∀ ν, v.den ν = SV.den nu0 (.strE (regB 6 w))) = True := by
  apply eq_true
  rw [areg_6]
  exact ⟨fun h ν => by subst h; rfl, fun h ν => by subst h; rfl⟩
theorem aregB_7 (w : Bool) : sxFunc P GI (fun _ => .plain 40) Tryd.f17 [.int .i64 (.lit 7), .bool (.var w)] hpT (fun v _ => ∀ ν, v.den ν = SV.den nu0 (.strE (regB 7 w))) = True := by
  apply eq_true
  rw [areg_7]
  exact ⟨fun h ν => by subst h; rfl, fun h ν => by subst h; rfl⟩
theorem aregB_8 (w : Bool) : sxFunc P GI (fun _ => .plain 40) Tryd.f17 [.int .i64 (.lit 8), .bool (.var w)] hpT (fun v _ => ∀ ν, v.den ν = SV.den nu0 (.strE (regB 8 w))) = True := by
  apply eq_true
  rw [areg_8]
  exact ⟨in16 (by decide) (by decide), catI 114 (by decide) (by decide), fun h => ⟨catJ 114 100 (by decide) (by decide), fun ν => by rw [not_t h]; exact st_d rfl ν⟩, fun h ν => by rw [not_f h]; exact st_d rfl ν⟩
theorem aregB_9 (w : Bool) : sxFunc P GI (fun _ => .plain 40) Tryd.f17 [.int .i64 (.lit 9), .bool (.var w)] hpT (fun v _ => ∀ ν, v.den ν = SV.den nu0 (.strE (regB 9 w))) = True := by
  apply eq_true
  rw [areg_9]
  exact ⟨in16 (by decide) (by decide), catI 114 (by decide) (by decide), fun h => ⟨catJ 114 100 (by decide) (by decide), fun ν => by rw [not_t h]; exact st_d rfl ν⟩, fun h ν => by rw [not_f h]; exact st_d rfl ν⟩
theorem aregB_10 (w : Bool) : sxFunc P GI (fun _ => .plain 40) Tryd.f17 [.int .i64 (.lit 10), .bool (.var w)] hpT (fun v _ => ∀ ν, v.den ν = SV.den nu0 (.strE (regB 10 w))) = True := by
  apply eq_true
  rw [areg_10]
  exact ⟨in16 (by decide) (by decide), catI 114 (by decide) (by decide), fun h => ⟨catJ 114 100 (by decide) (by decide), fun ν => by rw [not_t h]; exact st_d rfl ν⟩, fun h ν => by rw [not_f h]; exact st_d rfl ν⟩
theorem aregB_11 (w : Bool) : sxFunc P GI (fun _ => .plain 40) Tryd.f17 [.int .i64 (.lit 11), .bool (.var w)] hpT (fun v _ => ∀ ν, v.den ν = SV.den nu0 (.strE (regB 11 w))) = True := by
  apply eq_true
  rw [areg_11]
  exact ⟨in16 (by decide) (by decide), catI 114 (by decide) (by decide), fun h => ⟨catJ 114 100 (by decide) (by decide), fun ν => by rw [not_t h]; exact st_d rfl ν⟩, fun h ν => by rw [not_f h]; exact st_d rfl ν⟩
theorem aregB_12 (w : Bool) : sxFunc P GI (fun _ => .plain 40) Tryd.f17 [.int .i64 (.lit 12), .bool (.var w)] hpT (fun v _ => ∀ ν, v.den ν = SV.den nu0 (.strE (regB 12 w))) = True := by
  apply eq_true
  rw [areg_12]
  exact ⟨in16 (by decide) (by decide), catI 114 (by decide) (by decide), fun h => ⟨catJ 114 100 (by decide) (by decide), fun ν => by rw [not_t h]; exact st_d rfl ν⟩, fun h ν => by rw [not_f h]; exact st_d rfl ν⟩
theorem aregB_13 (w : Bool) : sxFunc P GI (fun _ => .plain 40) Tryd.f17 [.int .i64 (.lit 13), .bool (.var w)] hpT (fun v _ => ∀ ν, v.den ν = SV.den nu0 (.strE (regB 13 w))) = True := by
  apply eq_true
  rw [areg_13]
  exact ⟨in16 (by decide) (by decide), catI 114 (by decide) (by decide), fun h => ⟨catJ 114 100 (by decide) (by decide), fun ν => by rw [not_t h]; exact st_d rfl ν⟩, fun h ν => by rw [not_f h]; exact st_d rfl ν⟩
theorem aregB_14 (w : Bool) : sxFunc P GI (fun _ => .plain 40) Tryd.f17 [.int .i64 (.lit 14), .bool (.var w)] hpT (fun v _ => ∀ ν, v.den ν = SV.den nu0 (.strE (regB 14 w))) = True := by
  apply eq_true
  rw [areg_14]
  exact ⟨in16 (by decide) (by decide), catI 114 (by decide) (by decide), fun h => ⟨catJ 114 100 (by decide) (by decide), fun ν => by rw [not_t h]; exact st_d rfl ν⟩, fun h ν => by rw [not_f h]; exact st_d rfl ν⟩
theorem aregB_15 (w : Bool) : sxFunc P GI (fun _ => .plain 40) Tryd.f17 [.int .i64 (.lit 15), .bool (.var w)] hpT (fun v _ => ∀ ν, v.den ν = SV.den nu0 (.strE (regB 15 w))) = True := by
  apply eq_true
  rw [areg_15]
  exact ⟨in16 (by decide) (by decide), catI 114 (by decide) (by decide), fun h => ⟨catJ 114 100 (by decide) (by decide), fun ν => by rw [not_t h]; exact st_d rfl ν⟩, fun h ν => by rw [not_f h]; exact st_d rfl ν⟩
theorem areg_ok : SpecOk P 17 (tabSpec 0 regF) := by
  refine tab_of gTens (func_sound (un := fun _ => .plain 40) GI_ok Tryd.func17) ?_
  intro args p v hF hp
  unfold regF at hF
  split at hF
  · rename_i r w
    simp only [Option.some.injEq, Prod.mk.injEq] at hF
    obtain ⟨rfl, rfl⟩ := hF
    rcases reg_cases hp.1 hp.2 with h | h | h | h | h | h | h | h | h | h | h | h | h | h | h | h
    · refine ⟨[.int .i64 (.lit 0), .bool (.var w.den)], by simp [SV.denL, SV.den, IE.den, BE.den, h], ⟨trivial, trivial, trivial⟩, trivial, ?_⟩
      rw [h, aregB_0]; trivial
    · refine ⟨[.int .i64 (.lit 1), .bool (.var w.den)], by simp [SV.denL, SV.den, IE.den, BE.den, h], ⟨trivial, trivial, trivial⟩, trivial, ?_⟩
      rw [h, aregB_1]; trivial
    · refine ⟨[.int .i64 (.lit 2), .bool (.var w.den)], by simp [SV.denL, SV.den, IE.den, BE.den, h], ⟨trivial, trivial, trivial⟩, trivial, ?_⟩
      rw [h, aregB_2]; trivial
    · refine ⟨[.int .i64 (.lit 3), .bool (.var w.den)], by simp [SV.denL, SV.den, IE.den, BE.den, h], ⟨trivial, trivial, trivial⟩, trivial, ?_⟩
      rw [h, aregB_3]; trivial
    · refine ⟨[.int .i64 (.lit 4), .bool (.var w.den)], by simp [SV.denL, SV.den, IE.den, BE.den, h], ⟨trivial, trivial, trivial⟩, trivial, ?_⟩
      rw [h, aregB_4]; trivial
    · refine ⟨[.int .i64 (.lit 5), .bool (.var w.den)], by simp [SV.denL, SV.den, IE.den, BE.den, h], ⟨trivial, trivial, trivial⟩, trivial, ?_⟩
      rw [h, aregB_5]; trivial
    · refine ⟨[.int .i64 (.lit 6), .bool (.var w.den)], by simp [SV.denL, SV.den, IE.den, BE.den, h], ⟨trivial, trivial, trivial⟩, trivial, ?_⟩
      rw [h, aregB_6]; trivial
    · refine ⟨[.int .i64 (.lit 7), .bool (.var w.den)], by simp [SV.denL, SV.den, IE.den, BE.den, h], ⟨trivial, trivial, trivial⟩, trivial, ?_⟩
      rw [h, aregB_7]; trivial
    · refine ⟨[.int .i64 (.lit 8), .bool (.var w.den)], by simp [SV.denL, SV.den, IE.den, BE.den, h], ⟨trivial, trivial, trivial⟩, trivial, ?_⟩
      rw [h, aregB_8]; trivial
    · refine ⟨[.int .i64 (.lit 9), .bool (.var w.den)], by simp [SV.denL, SV.den, IE.den, BE.den, h], ⟨trivial, trivial, trivial⟩, trivial, ?_⟩
      rw [h, aregB_9]; trivial
    · refine ⟨[.int .i64 (.lit 10), .bool (.var w.den)], by simp [SV.denL, SV.den, IE.den, BE.den, h], ⟨trivial, trivial, trivial⟩, trivial, ?_⟩
      rw [h, aregB_10]; trivial
    · refine ⟨[.int .i64 (.lit 11), .bool (.var w.den)], by simp [SV.denL, SV.den, IE.den, BE.den, h], ⟨trivial, trivial, trivial⟩, trivial, ?_⟩
      rw [h, aregB_11]; trivial
    · refine ⟨[.int .i64 (.lit 12), .bool (.var w.den)], by simp [SV.denL, SV.den, IE.den, BE.den, h], ⟨trivial, trivial, trivial⟩, trivial, ?_⟩
      rw [h, aregB_12]; trivial
    · refine ⟨[.int .i64 (.lit 13), .bool (.var w.den)], by simp [SV.denL, SV.den, IE.den, BE.den, h], ⟨trivial, trivial, trivial⟩, trivial, ?_⟩
      rw [h, aregB_13]; trivial
    · refine ⟨[.int .i64 (.lit 14), .bool (.var w.den)], by simp [SV.denL, SV.den, IE.den, BE.den, h], ⟨trivial, trivial, trivial⟩, trivial, ?_⟩
      rw [h, aregB_14]; trivial
    · refine ⟨[.int .i64 (.lit 15), .bool (.var w.den)], by simp [SV.denL, SV.den, IE.den, BE.den, h], ⟨trivial, trivial, trivial⟩, trivial, ?_⟩
      rw [h, aregB_15]; trivial
  · simp at hF
theorem rregB_0 (w : Bool) : sxFunc P GI (fun _ => .plain 40) Tryd.f29 [.int .i64 (.lit 0), .bool (.var w)] hpT (fun v _ => ∀ ν, v.den ν = SV.den nu0 (.strE (regB 0 w))) = True := by
  apply eq_true
  rw [rreg_0]
  exact ⟨fun h ν => by subst h; rfl, fun h ν => by subst h; rfl⟩
theorem rregB_1 (w : Bool) : sxFunc P GI (fun _ => .plain 40) Tryd.f29 [.int .i64 (.lit 1), .bool (.var w)] hpT (fun v _ => ∀ ν, v.den ν = SV.den nu0 (.strE (regB 1 w))) = True := by
  apply eq_true
  rw [rreg_1]
  exact ⟨fun h ν => by subst h; rfl, fun h ν => by subst h; rfl⟩
theorem rregB_2 (w : Bool) : sxFunc P GI (fun _ => .plain 40) Tryd.f29 [.int .i64 (.lit 2), .bool (.var w)] hpT (fun v _ => ∀ ν, v.den ν = SV.den nu0 (.strE (regB 2 w))) = True := by
  apply eq_true
  rw [rreg_2]
  exact ⟨fun h ν => by subst h; rfl, fun h ν => by subst h; rfl⟩
theorem rregB_3 (w : Bool) : sxFunc P GI (fun _ => .plain 40) Tryd.f29 [.int .i64 (.lit 3), .bool (.var w)] hpT (fun v _ => ∀ ν, v.den ν = SV.den nu0 (.strE (regB 3 w))) = True := by
  apply eq_true
  rw [rreg_3]
  exact ⟨fun h ν => by subst h; rfl, fun h ν => by subst h; rfl⟩
theorem rregB_4 (w : Bool) : sxFunc P GI (fun _ => .plain 40) Tryd.f29 [.int .i64 (.lit 4), .bool (.var w)] hpT (fun v _ => ∀ ν, v.den ν = SV.den nu0 (.strE (regB 4 w))) = True := by
  apply eq_true
  rw [rreg_4]
  exact ⟨fun h ν => by subst h; rfl, fun h ν => by subst h; rfl⟩
theorem rregB_5 (w : Bool) : sxFunc P GI (fun _ => .plain 40) Tryd.f29 [.int .i64 (.lit 5), .bool (.var w)] hpT (fun v _ => ∀ ν, v.den ν = SV.den nu0 (.strE (regB 5 w))) = True := by
  apply eq_true
  rw [rreg_5]
  exact ⟨fun h ν => by subst h; rfl, fun h ν => by subst h; rfl⟩
theorem rregB_6 (w : Bool) : sxFunc P GI (fun _ => .plain 40) Tryd.f29 [.int .i64 (.lit 6), .bool (.var w)] hpT (fun v _ => ∀ ν, v.den ν = SV.den nu0 (.strE (regB 6 w))) = True := by
  apply eq_true
  rw [rreg_6]
  exact ⟨fun h ν => by subst h; rfl, fun h ν => by subst h; rfl⟩
theorem rregB_7 (w : Bool) : sxFunc P GI (fun _ => .plain 40) Tryd.f29 [.int .i64 (.lit 7), .bool (.var w)] hpT (fun v _ => ∀ ν, v.den ν = SV.den nu0 (.strE (regB 7 w))) = True := by
  apply eq_true
  rw [rreg_7]
  exact ⟨fun h ν => by subst h; rfl, fun h ν => by subst h; rfl⟩
theorem rregB_8 (w : Bool) : sxFunc P GI (fun _ => .plain 40) Tryd.f29 [.int .i64 (.lit 8), .bool (.var w)] hpT (fun v _ => ∀ ν, v.den ν = SV.den nu0 (.strE (regB 8 w))) = True := by
  apply eq_true
  rw [rreg_8]
  exact ⟨fun h => ⟨in16 (by decide) (by decide), catI 114 (by decide) (by decide), fun ν => by rw [h]; exact st_d rfl ν⟩, fun h => ⟨in16 (by decide) (by decide), catI 114 (by decide) (by decide), catJ 114 100 (by decide) (by decide), fun ν => by rw [h]; exact st_d rfl ν⟩⟩
theorem rregB_9 (w : Bool) : sxFunc P GI (fun _ => .plain 40) Tryd.f29 [.int .i64 (.lit 9), .bool (.var w)] hpT (fun v _ => ∀ ν, v.den ν = SV.den nu0 (.strE (regB 9 w))) = True := by
  apply eq_true
  rw [rreg_9]
  exact ⟨fun h => ⟨in16 (by decide) (by decide), catI 114 (by decide) (by decide), fun ν => by rw [h]; exact st_d rfl ν⟩, fun h => ⟨in16 (by decide) (by decide), catI 114 (by decide) (by decide), catJ 114 100 (by decide) (by decide), fun ν => by rw [h]; exact st_d rfl ν⟩⟩
theorem rregB_10 (w : Bool) : sxFunc P GI (fun _ => .plain 40) Tryd.f29 [.int .i64 (.lit 10), .bool (.var w)] hpT (fun v _ => ∀ ν, v.den ν = SV.den nu0 (.strE (regB 10 w))) = True := by
  apply eq_true
  rw [rreg_10]
  exact ⟨fun h => ⟨in16 (by decide) (by decide), catI 114 (by decide) (by decide), fun ν => by rw [h]; exact st_d rfl ν⟩, fun h => ⟨in16 (by decide) (by decide), catI 114 (by decide) (by decide), catJ 114 100 (by decide) (by decide), fun ν => by rw [h]; exact st_d rfl ν⟩⟩
theorem rregB_11 (w : Bool) : sxFunc P GI (fun _ => .plain 40) Tryd.f29 [.int .i64 (.lit 11), .bool (.var w)] hpT (fun v _ => ∀ ν, v.den ν = SV.den nu0 (.strE (regB 11 w))) = True := by
  apply eq_true
  rw [rreg_11]
  exact ⟨fun h => ⟨in16 (by decide) (by decide), catI 114 (by decide) (by decide), fun ν => by rw [h]; exact st_d rfl ν⟩, fun h => ⟨in16 (by decide) (by decide), catI 114 (by decide) (by decide), catJ 114 100 (by decide) (by decide), fun ν => by rw [h]; exact st_d rfl ν⟩⟩
theorem rregB_12 (w : Bool) : sxFunc P GI (fun _ => .plain 40) Tryd.f29 [.int .i64 (.lit 12), .bool (.var w)] hpT (fun v _ => ∀ ν, v.den ν = SV.den nu0 (.strE (regB 12 w))) = True := by
  apply eq_true
  rw [rreg_12]
  exact ⟨fun h => ⟨in16 (by decide) (by decide), catI 114 (by decide) (by decide), fun ν => by rw [h]; exact st_d rfl ν⟩, fun h => ⟨in16 (by decide) (by decide), catI 114 (by decide) (by decide), catJ 114 100 (by decide) (by decide), fun ν => by rw [h]; exact st_d rfl ν⟩⟩
theorem rregB_13 (w : Bool) : sxFunc P GI (fun _ => .plain 40) Tryd.f29 [.int .i64 (.lit 13), .bool (.var w)] hpT (fun v _ => ∀ ν, v.den ν = SV.den nu0 (.strE (regB 13 w))) = True := by
  apply eq_true
  rw [rreg_13]
  exact ⟨fun h => ⟨in16 (by decide) (by decide), catI 114 (by decide) (by decide), fun ν => by rw [h]; exact st_d rfl ν⟩, fun h => ⟨in16 (by decide) (by decide), catI 114 (by decide) (by decide), catJ 114 100 (by decide) (by decide), fun ν => by rw [h]; exact st_d rfl ν⟩⟩
theorem rregB_14 (w : Bool) : sxFunc P GI (fun _ => .plain 40) Tryd.f29 [.int .i64 (.lit 14), .bool (.var w)] hpT (fun v _ => ∀ ν, v.den ν = SV.den nu0 (.strE (regB 14 w))) = True := by
  apply eq_true
  rw [rreg_14]
  exact ⟨fun h => ⟨in16 (by decide) (by decide), catI 114 (by decide) (by decide), fun ν => by rw [h]; exact st_d rfl ν⟩, fun h => ⟨in16 (by decide) (by decide), catI 114 (by decide) (by decide), catJ 114 100 (by decide) (by decide), fun ν => by rw [h]; exact st_d rfl ν⟩⟩
theorem rregB_15 (w : Bool) : sxFunc P GI (fun _ => .plain 40) Tryd.f29 [.int .i64 (.lit 15), .bool (.var w)] hpT (fun v _ => ∀ ν, v.den ν = SV.den nu0 (.strE (regB 15 w))) = True := by
  apply eq_true
  rw [rreg_15]
  exact ⟨fun h => ⟨in16 (by decide) (by decide), catI 114 (by decide) (by decide), fun ν => by rw [h]; exact st_d rfl ν⟩, fun h => ⟨in16 (by decide) (by decide), catI 114 (by decide) (by decide), catJ 114 100 (by decide) (by decide), fun ν => by rw [h]; exact st_d rfl ν⟩⟩
theorem rname_ok : SpecOk P 29 (tabSpec 0 regF) := by
  refine tab_of gTens (func_sound (un := fun _ => .plain 40) GI_ok Tryd.func29) ?_
  intro args p v hF hp
  unfold regF at hF
  split at hF
  · rename_i r w
    simp only [Option.some.injEq, Prod.mk.injEq] at hF
    obtain ⟨rfl, rfl⟩ := hF
    rcases reg_cases hp.1 hp.2 with h | h | h | h | h | h | h | h | h | h | h | h | h | h | h | h
    · refine ⟨[.int .i64 (.lit 0), .bool (.var w.den)], by simp [SV.denL, SV.den, IE.den, BE.den, h], ⟨trivial, trivial, trivial⟩, trivial, ?_⟩
      rw [h, rregB_0]; trivial
    · refine ⟨[.int .i64 (.lit 1), .bool (.var w.den)], by simp [SV.denL, SV.den, IE.den, BE.den, h], ⟨trivial, trivial, trivial⟩, trivial, ?_⟩
      rw [h, rregB_1]; trivial
    · refine ⟨[.int .i64 (.lit 2), .bool (.var w.den)], by simp [SV.denL, SV.den, IE.den, BE.den, h], ⟨trivial, trivial, trivial⟩, trivial, ?_⟩
      rw [h, rregB_2]; trivial
    · refine ⟨[.int .i64 (.lit 3), .bool (.var w.den)], by simp [SV.denL, SV.den, IE.den, BE.den, h], ⟨trivial, trivial, trivial⟩, trivial, ?_⟩
      rw [h, rregB_3]; trivial
    · refine ⟨[.int .i64 (.lit 4), .bool (.var w.den)], by simp [SV.denL, SV.den, IE.den, BE.den, h], ⟨trivial, trivial, trivial⟩, trivial, ?_⟩
      rw [h, rregB_4]; trivial
    · refine ⟨[.int .i64 (.lit 5), .bool (.var w.den)], by simp [SV.denL, SV.den, IE.den, BE.den, h], ⟨trivial, trivial, trivial⟩, trivial, ?_⟩
      rw [h, rregB_5]; trivial
    · refine ⟨[.int .i64 (.lit 6), .bool (.var w.den)], by simp [SV.denL, SV.den, IE.den, BE.den, h], ⟨trivial, trivial, trivial⟩, trivial, ?_⟩
      rw [h, rregB_6]; trivial
    · refine ⟨[.int .i64 (.lit 7), .bool (.var w.den)], by simp [SV.denL, SV.den, IE.den, BE.den, h], ⟨trivial, trivial, trivial⟩, trivial, ?_⟩
      rw [h, rregB_7]; trivial
    · refine ⟨[.int .i64 (.lit 8), .bool (.var w.den)], by simp [SV.denL, SV.den, IE.den, BE.den, h], ⟨trivial, trivial, trivial⟩, trivial, ?_⟩
      rw [h, rregB_8]; trivial
    · refine ⟨[.int .i64 (.lit 9), .bool (.var w.den)], by simp [SV.denL, SV.den, IE.den, BE.den, h], ⟨trivial, trivial, trivial⟩, trivial, ?_⟩
      rw [h, rregB_9]; trivial
    · refine ⟨[.int .i64 (.lit 10), .bool (.var w.den)], by simp [SV.denL, SV.den, IE.den, BE.den, h], ⟨trivial, trivial, trivial⟩, trivial, ?_⟩
      rw [h, rregB_10]; trivial
    · refine ⟨[.int .i64 (.lit 11), .bool (.var w.den)], by simp [SV.denL, SV.den, IE.den, BE.den, h], ⟨trivial, trivial, trivial⟩, trivial, ?_⟩
      rw [h, rregB_11]; trivial
    · refine ⟨[.int .i64 (.lit 12), .bool (.var w.den)], by simp [SV.denL, SV.den, IE.den, BE.den, h], ⟨trivial, trivial, trivial⟩, trivial, ?_⟩
      rw [h, rregB_12]; trivial
    · refine ⟨[.int .i64 (.lit 13), .bool (.var w.den)], by simp [SV.denL, SV.den, IE.den, BE.den, h], ⟨trivial, trivial, trivial⟩, trivial, ?_⟩
      rw [h, rregB_13]; trivial
    · refine ⟨[.int .i64 (.lit 14), .bool (.var w.den)], by simp [SV.denL, SV.den, IE.den, BE.den, h], ⟨trivial, trivial, trivial⟩, trivial, ?_⟩
      rw [h, rregB_14]; trivial
    · refine ⟨[.int .i64 (.lit 15), .bool (.var w.den)], by simp [SV.denL, SV.den, IE.den, BE.den, h], ⟨trivial, trivial, trivial⟩, trivial, ?_⟩
      rw [h, rregB_15]; trivial
  · simp at hF
theorem asgn_ok : SpecOk P 20 (tabSpec 0 sgnF) := by
  refine tab_of gTens (func_sound (un := fun _ => .plain 40) GI_ok Tryd.func20) ?_
  intro args p v hF hp
  unfold sgnF at hF
  split at hF
  · rename_i x
    simp only [Option.some.injEq, Prod.mk.injEq] at hF
    obtain ⟨rfl, rfl⟩ := hF
    have hs := itoaB_size hp
    have hI : Int.NonNeg (x.den - -9223372036854775808) /\ Int.NonNeg (9223372036854775807 - x.den) := ⟨show (-9223372036854775808 : Int) <= x.den from hp.1, show x.den <= 9223372036854775807 from hp.2⟩
    refine ⟨[.int .i64 (.var x.den)], fun _ => rfl, ⟨trivial, trivial⟩, trivial, ?_⟩
    rw [asgn_nf]
    refine ⟨fun h => ⟨hI, fun ν => st_d ?_ ν⟩, fun h => ⟨hI, ?_, fun ν => st_d ?_ ν⟩⟩
    · rw [d_lss] at h; unfold sgnB; rw [if_pos (of_decide_eq_true h)]
    · rw [b1_size]; exact decide_eq_true (by omega)
    · rw [d_lss] at h; unfold sgnB; rw [if_neg (of_decide_eq_false h)]
  · simp at hF
theorem rsgn_ok : SpecOk P 30 (tabSpec 0 sgnF) := by
  refine tab_of gTens (func_sound (un := fun _ => .plain 40) GI_ok Tryd.func30) ?_
  intro args p v hF hp
  unfold sgnF at hF
  split at hF
  · rename_i x
    simp only [Option.some.injEq, Prod.mk.injEq] at hF
    obtain ⟨rfl, rfl⟩ := hF
    have hs := itoaB_size hp
    have hI : Int.NonNeg (x.den - -9223372036854775808) /\ Int.NonNeg (9223372036854775807 - x.den) := ⟨show (-9223372036854775808 : Int) <= x.den from hp.1, show x.den <= 9223372036854775807 from hp.2⟩
    refine ⟨[.int .i64 (.var x.den)], fun _ => rfl, ⟨trivial, trivial⟩, trivial, ?_⟩
    rw [rsgn_nf]
    refine ⟨fun h => ⟨hI, fun ν => st_d ?_ ν⟩, fun h => ⟨hI, ?_, fun ν => st_d ?_ ν⟩⟩
    · rw [d_lss] at h; unfold sgnB; rw [if_pos (of_decide_eq_true h)]
    · rw [b1_size]; exact decide_eq_true (by omega)
    · rw [d_lss] at h; unfold sgnB; rw [if_neg (of_decide_eq_false h)]
  · simp at hF
end Go.Proofs.YtajcmjjgnbaahaaDoor.Amd
