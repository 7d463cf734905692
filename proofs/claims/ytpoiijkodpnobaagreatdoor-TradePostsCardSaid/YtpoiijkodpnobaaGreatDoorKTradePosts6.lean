/- Which postings may be, their entries and texts, and the posting of any text, is as the document says; texts are parsed as they were. -/
import Derived.Test.YtpoiijkodpnobaaGreatDoorRows
import Derived.Test.YtpoiijkodpnobaaGreatDoorCards
import Derived.Test.YtpoiijkodpnobaaGreatDoorTie
import Derived.SevenTiedAt
import Derived.ProofKit
import Derived.LaidMore
import Derived.Lay
import Derived.MakeChecks
import Derived.Test.YtpoiijkodpnobaaGreatDoorKTradePosts5
section
set_option linter.unusedVariables false
set_option maxRecDepth 100000
namespace Go.Proofs.YtpoiijkodpnobaaGreatDoor
open Go Go.Fw
abbrev trade_any.As : Shs := (.cons (.x .s) .nil)
abbrev trade_any.m : Back := [(false, .b)]
noncomputable abbrev trade_any.H : HK := hk P G0 E0 J0 [] noLoops 4
theorem trade_any.rows : TabOK P G0 (tabF []) := rows_ok (ws := []) trivial
theorem trade_any.hok : HKOK P trade_any.H := hk_ok e0_ok j0_ok trade_any.rows (fun g n => noLoops_ok g n) 4
noncomputable def trade_any.f (a : ByteArray) : Option Bool := (some true)
theorem trade_any.ok : ∀ a : Vals trade_any.As.tys, fnK P trade_any.H (lp []) 66 trade_any.As trade_any.m a some = trade_any.f a := fun a => by kernel_rfl
noncomputable abbrev trade_any.row : Row := fnRow 66 trade_any.As trade_any.m trade_any.f
theorem trade_any.row_ok : RowOK P G0 trade_any.row := row_told trade_any.hok (lp_of (l := []) trivial) (fun _ => rfl) trade_any.ok
abbrev trade_Read.As : Shs := (.cons (.x T_api_Message) .nil)
abbrev trade_Read.m : Back := [(false, T_api_Trade), (false, (.i .i64))]
noncomputable abbrev trade_Read.H : HK := hk P G1 E0 J0 [iso_Check.row, mti_Parse.row, mti_Text.row, trade_pan.row, trade_acq.row, trade_any.row, iso_Get.row, hold_Ref.row, trade_original.row, digit_All.row, strconv_ParseInt.row] noLoops 4
theorem trade_Read.rows : TabOK P G1 (tabF [iso_Check.row, mti_Parse.row, mti_Text.row, trade_pan.row, trade_acq.row, trade_any.row, iso_Get.row, hold_Ref.row, trade_original.row, digit_All.row, strconv_ParseInt.row]) := rows_ok (ws := [iso_Check.row, mti_Parse.row, mti_Text.row, trade_pan.row, trade_acq.row, trade_any.row, iso_Get.row, hold_Ref.row, trade_original.row, digit_All.row, strconv_ParseInt.row]) ⟨iso_Check.row_ok, ⟨(mti_Parse.row_ok.more g01), ⟨(mti_Text.row_ok.more g01), ⟨(trade_pan.row_ok.more g01), ⟨(trade_acq.row_ok.more g01), ⟨(trade_any.row_ok.more g01), ⟨(iso_Get.row_ok.more g01), ⟨(hold_Ref.row_ok.more g01), ⟨(trade_original.row_ok.more g01), ⟨(digit_All.row_ok.more g01), ⟨strconv_ParseInt.row_ok, trivial⟩⟩⟩⟩⟩⟩⟩⟩⟩⟩⟩
theorem trade_Read.hok : HKOK P trade_Read.H := hk_ok e0_ok j0_ok trade_Read.rows (fun g n => noLoops_ok g n) 4
noncomputable def trade_Read.f (a : (ByteArray × (List (Int × ByteArray)))) : Option ((ByteArray × (ByteArray × (ByteArray × (Int × (ByteArray × (ByteArray × (ByteArray × (ByteArray × (ByteArray × (Int × (Int × ByteArray))))))))))) × Int) := (((iso_Check.f a)).bind fun x1 => (bif (x1 != (0 : Int)) then (some (((bs []), ((bs []), ((bs []), ((0 : Int), ((bs []), ((bs []), ((bs []), ((bs []), ((bs []), ((0 : Int), ((0 : Int), (bs [])))))))))))), (1 : Int))) else (((mti_Parse.f a.1)).bind fun x2 => (bif x2.1.2.2.1 then (some (((bs []), ((bs []), ((bs []), ((0 : Int), ((bs []), ((bs []), ((bs []), ((bs []), ((bs []), ((0 : Int), ((0 : Int), (bs [])))))))))))), (17 : Int))) else (((mti_Text.f (x2.1.1, (x2.1.2.1, (x2.1.2.2.1, false))))).bind fun x3 => (((iso_Get.f (a, (7 : Int)))).bind fun x4 => (bif (!x4.2) then (((iso_Get.f (a, (11 : Int)))).bind fun x5 => (bif (x2.1.1 == (1 : Int)) then (bif (x2.1.1 == (1 : Int)) then (((iso_Get.f (a, (2 : Int)))).bind fun x6 => (((iso_Get.f (a, (3 : Int)))).bind fun x7 => (((iso_Get.f (a, (4 : Int)))).bind fun x8 => (((strconv_ParseInt.f (x8.1, ((10 : Int), (64 : Int))))).bind fun x9 => (((iso_Get.f (a, (32 : Int)))).bind fun x10 => (((iso_Get.f (a, (37 : Int)))).bind fun x11 => (some (((bs []), ((bs []), ((bs []), ((0 : Int), ((bs []), ((bs []), ((bs []), ((bs []), ((bs []), ((0 : Int), ((0 : Int), (bs [])))))))))))), (16 : Int))))))))) else (bif (x2.1.1 == (4 : Int)) then (((iso_Get.f (a, (4 : Int)))).bind fun x6 => (((strconv_ParseInt.f (x6.1, ((10 : Int), (64 : Int))))).bind fun x7 => (((iso_Get.f (a, (32 : Int)))).bind fun x8 => (((iso_Get.f (a, (37 : Int)))).bind fun x9 => (((iso_Get.f (a, (90 : Int)))).bind fun x10 => (some (((bs []), ((bs []), ((bs []), ((0 : Int), ((bs []), ((bs []), ((bs []), ((bs []), ((bs []), ((0 : Int), ((0 : Int), (bs [])))))))))))), (16 : Int)))))))) else (bif (x2.1.1 == (5 : Int)) then (((iso_Get.f (a, (32 : Int)))).bind fun x6 => (((iso_Get.f (a, (74 : Int)))).bind fun x7 => (((strconv_ParseInt.f (x7.1, ((10 : Int), (64 : Int))))).bind fun x8 => (((iso_Get.f (a, (86 : Int)))).bind fun x9 => (((strconv_ParseInt.f (x9.1, ((10 : Int), (64 : Int))))).bind fun x10 => (some (((bs []), ((bs []), ((bs []), ((0 : Int), ((bs []), ((bs []), ((bs []), ((bs []), ((bs []), ((0 : Int), ((0 : Int), (bs [])))))))))))), (16 : Int)))))))) else (bif (x2.1.1 == (6 : Int)) then (((iso_Get.f (a, (3 : Int)))).bind fun x6 => (((iso_Get.f (a, (4 : Int)))).bind fun x7 => (((strconv_ParseInt.f (x7.1, ((10 : Int), (64 : Int))))).bind fun x8 => (((iso_Get.f (a, (32 : Int)))).bind fun x9 => (((iso_Get.f (a, (37 : Int)))).bind fun x10 => (some (((bs []), ((bs []), ((bs []), ((0 : Int), ((bs []), ((bs []), ((bs []), ((bs []), ((bs []), ((0 : Int), ((0 : Int), (bs [])))))))))))), (16 : Int)))))))) else (bif (x2.1.1 == (8 : Int)) then (((iso_Get.f (a, (70 : Int)))).bind fun x6 => (some (((bs []), ((bs []), ((bs []), ((0 : Int), ((bs []), ((bs []), ((bs []), ((bs []), ((bs []), ((0 : Int), ((0 : Int), (bs [])))))))))))), (16 : Int)))) else (some (((bs []), ((bs []), ((bs []), ((0 : Int), ((bs []), ((bs []), ((bs []), ((bs []), ((bs []), ((0 : Int), ((0 : Int), (bs [])))))))))))), (16 : Int)))))))) else (bif (x2.1.1 == (2 : Int)) then (((iso_Get.f (a, (2 : Int)))).bind fun x6 => (((iso_Get.f (a, (3 : Int)))).bind fun x7 => (((iso_Get.f (a, (4 : Int)))).bind fun x8 => (((strconv_ParseInt.f (x8.1, ((10 : Int), (64 : Int))))).bind fun x9 => (((iso_Get.f (a, (32 : Int)))).bind fun x10 => (((iso_Get.f (a, (37 : Int)))).bind fun x11 => (some (((bs []), ((bs []), ((bs []), ((0 : Int), ((bs []), ((bs []), ((bs []), ((bs []), ((bs []), ((0 : Int), ((0 : Int), (bs [])))))))))))), (16 : Int))))))))) else (bif (x2.1.1 == (4 : Int)) then (((iso_Get.f (a, (4 : Int)))).bind fun x6 => (((strconv_ParseInt.f (x6.1, ((10 : Int), (64 : Int))))).bind fun x7 => (((iso_Get.f (a, (32 : Int)))).bind fun x8 => (((iso_Get.f (a, (37 : Int)))).bind fun x9 => (((iso_Get.f (a, (90 : Int)))).bind fun x10 => (some (((bs []), ((bs []), ((bs []), ((0 : Int), ((bs []), ((bs []), ((bs []), ((bs []), ((bs []), ((0 : Int), ((0 : Int), (bs [])))))))))))), (16 : Int)))))))) else (bif (x2.1.1 == (5 : Int)) then (((iso_Get.f (a, (32 : Int)))).bind fun x6 => (((iso_Get.f (a, (74 : Int)))).bind fun x7 => (((strconv_ParseInt.f (x7.1, ((10 : Int), (64 : Int))))).bind fun x8 => (((iso_Get.f (a, (86 : Int)))).bind fun x9 => (((strconv_ParseInt.f (x9.1, ((10 : Int), (64 : Int))))).bind fun x10 => (some (((bs []), ((bs []), ((bs []), ((0 : Int), ((bs []), ((bs []), ((bs []), ((bs []), ((bs []), ((0 : Int), ((0 : Int), (bs [])))))))))))), (16 : Int)))))))) else (bif (x2.1.1 == (6 : Int)) then (((iso_Get.f (a, (3 : Int)))).bind fun x6 => (((iso_Get.f (a, (4 : Int)))).bind fun x7 => (((strconv_ParseInt.f (x7.1, ((10 : Int), (64 : Int))))).bind fun x8 => (((iso_Get.f (a, (32 : Int)))).bind fun x9 => (((iso_Get.f (a, (37 : Int)))).bind fun x10 => (some (((bs []), ((bs []), ((bs []), ((0 : Int), ((bs []), ((bs []), ((bs []), ((bs []), ((bs []), ((0 : Int), ((0 : Int), (bs [])))))))))))), (16 : Int)))))))) else (bif (x2.1.1 == (8 : Int)) then (((iso_Get.f (a, (70 : Int)))).bind fun x6 => (some (((bs []), ((bs []), ((bs []), ((0 : Int), ((bs []), ((bs []), ((bs []), ((bs []), ((bs []), ((0 : Int), ((0 : Int), (bs [])))))))))))), (16 : Int)))) else (some (((bs []), ((bs []), ((bs []), ((0 : Int), ((bs []), ((bs []), ((bs []), ((bs []), ((bs []), ((0 : Int), ((0 : Int), (bs [])))))))))))), (16 : Int)))))))))) else (((iso_Get.f (a, (11 : Int)))).bind fun x5 => (bif (!x5.2) then (bif (x2.1.1 == (1 : Int)) then (bif (x2.1.1 == (1 : Int)) then (((iso_Get.f (a, (2 : Int)))).bind fun x6 => (((iso_Get.f (a, (3 : Int)))).bind fun x7 => (((iso_Get.f (a, (4 : Int)))).bind fun x8 => (((strconv_ParseInt.f (x8.1, ((10 : Int), (64 : Int))))).bind fun x9 => (((iso_Get.f (a, (32 : Int)))).bind fun x10 => (((iso_Get.f (a, (37 : Int)))).bind fun x11 => (some (((bs []), ((bs []), ((bs []), ((0 : Int), ((bs []), ((bs []), ((bs []), ((bs []), ((bs []), ((0 : Int), ((0 : Int), (bs [])))))))))))), (16 : Int))))))))) else (bif (x2.1.1 == (4 : Int)) then (((iso_Get.f (a, (4 : Int)))).bind fun x6 => (((strconv_ParseInt.f (x6.1, ((10 : Int), (64 : Int))))).bind fun x7 => (((iso_Get.f (a, (32 : Int)))).bind fun x8 => (((iso_Get.f (a, (37 : Int)))).bind fun x9 => (((iso_Get.f (a, (90 : Int)))).bind fun x10 => (some (((bs []), ((bs []), ((bs []), ((0 : Int), ((bs []), ((bs []), ((bs []), ((bs []), ((bs []), ((0 : Int), ((0 : Int), (bs [])))))))))))), (16 : Int)))))))) else (bif (x2.1.1 == (5 : Int)) then (((iso_Get.f (a, (32 : Int)))).bind fun x6 => (((iso_Get.f (a, (74 : Int)))).bind fun x7 => (((strconv_ParseInt.f (x7.1, ((10 : Int), (64 : Int))))).bind fun x8 => (((iso_Get.f (a, (86 : Int)))).bind fun x9 => (((strconv_ParseInt.f (x9.1, ((10 : Int), (64 : Int))))).bind fun x10 => (some (((bs []), ((bs []), ((bs []), ((0 : Int), ((bs []), ((bs []), ((bs []), ((bs []), ((bs []), ((0 : Int), ((0 : Int), (bs [])))))))))))), (16 : Int)))))))) else (bif (x2.1.1 == (6 : Int)) then (((iso_Get.f (a, (3 : Int)))).bind fun x6 => (((iso_Get.f (a, (4 : Int)))).bind fun x7 => (((strconv_ParseInt.f (x7.1, ((10 : Int), (64 : Int))))).bind fun x8 => (((iso_Get.f (a, (32 : Int)))).bind fun x9 => (((iso_Get.f (a, (37 : Int)))).bind fun x10 => (some (((bs []), ((bs []), ((bs []), ((0 : Int), ((bs []), ((bs []), ((bs []), ((bs []), ((bs []), ((0 : Int), ((0 : Int), (bs [])))))))))))), (16 : Int)))))))) else (bif (x2.1.1 == (8 : Int)) then (((iso_Get.f (a, (70 : Int)))).bind fun x6 => (some (((bs []), ((bs []), ((bs []), ((0 : Int), ((bs []), ((bs []), ((bs []), ((bs []), ((bs []), ((0 : Int), ((0 : Int), (bs [])))))))))))), (16 : Int)))) else (some (((bs []), ((bs []), ((bs []), ((0 : Int), ((bs []), ((bs []), ((bs []), ((bs []), ((bs []), ((0 : Int), ((0 : Int), (bs [])))))))))))), (16 : Int)))))))) else (bif (x2.1.1 == (2 : Int)) then (((iso_Get.f (a, (2 : Int)))).bind fun x6 => (((iso_Get.f (a, (3 : Int)))).bind fun x7 => (((iso_Get.f (a, (4 : Int)))).bind fun x8 => (((strconv_ParseInt.f (x8.1, ((10 : Int), (64 : Int))))).bind fun x9 => (((iso_Get.f (a, (32 : Int)))).bind fun x10 => (((iso_Get.f (a, (37 : Int)))).bind fun x11 => (some (((bs []), ((bs []), ((bs []), ((0 : Int), ((bs []), ((bs []), ((bs []), ((bs []), ((bs []), ((0 : Int), ((0 : Int), (bs [])))))))))))), (16 : Int))))))))) else (bif (x2.1.1 == (4 : Int)) then (((iso_Get.f (a, (4 : Int)))).bind fun x6 => (((strconv_ParseInt.f (x6.1, ((10 : Int), (64 : Int))))).bind fun x7 => (((iso_Get.f (a, (32 : Int)))).bind fun x8 => (((iso_Get.f (a, (37 : Int)))).bind fun x9 => (((iso_Get.f (a, (90 : Int)))).bind fun x10 => (some (((bs []), ((bs []), ((bs []), ((0 : Int), ((bs []), ((bs []), ((bs []), ((bs []), ((bs []), ((0 : Int), ((0 : Int), (bs [])))))))))))), (16 : Int)))))))) else (bif (x2.1.1 == (5 : Int)) then (((iso_Get.f (a, (32 : Int)))).bind fun x6 => (((iso_Get.f (a, (74 : Int)))).bind fun x7 => (((strconv_ParseInt.f (x7.1, ((10 : Int), (64 : Int))))).bind fun x8 => (((iso_Get.f (a, (86 : Int)))).bind fun x9 => (((strconv_ParseInt.f (x9.1, ((10 : Int), (64 : Int))))).bind fun x10 => (some (((bs []), ((bs []), ((bs []), ((0 : Int), ((bs []), ((bs []), ((bs []), ((bs []), ((bs []), ((0 : Int), ((0 : Int), (bs [])))))))))))), (16 : Int)))))))) else (bif (x2.1.1 == (6 : Int)) then (((iso_Get.f (a, (3 : Int)))).bind fun x6 => (((iso_Get.f (a, (4 : Int)))).bind fun x7 => (((strconv_ParseInt.f (x7.1, ((10 : Int), (64 : Int))))).bind fun x8 => (((iso_Get.f (a, (32 : Int)))).bind fun x9 => (((iso_Get.f (a, (37 : Int)))).bind fun x10 => (some (((bs []), ((bs []), ((bs []), ((0 : Int), ((bs []), ((bs []), ((bs []), ((bs []), ((bs []), ((0 : Int), ((0 : Int), (bs [])))))))))))), (16 : Int)))))))) else (bif (x2.1.1 == (8 : Int)) then (((iso_Get.f (a, (70 : Int)))).bind fun x6 => (some (((bs []), ((bs []), ((bs []), ((0 : Int), ((bs []), ((bs []), ((bs []), ((bs []), ((bs []), ((0 : Int), ((0 : Int), (bs [])))))))))))), (16 : Int)))) else (some (((bs []), ((bs []), ((bs []), ((0 : Int), ((bs []), ((bs []), ((bs []), ((bs []), ((bs []), ((0 : Int), ((0 : Int), (bs [])))))))))))), (16 : Int))))))))) else (bif (x2.1.1 == (1 : Int)) then (bif (x2.1.1 == (1 : Int)) then (((iso_Get.f (a, (2 : Int)))).bind fun x6 => (bif (!x6.2) then (((iso_Get.f (a, (3 : Int)))).bind fun x7 => (((iso_Get.f (a, (4 : Int)))).bind fun x8 => (((strconv_ParseInt.f (x8.1, ((10 : Int), (64 : Int))))).bind fun x9 => (((iso_Get.f (a, (32 : Int)))).bind fun x10 => (((iso_Get.f (a, (37 : Int)))).bind fun x11 => (some (((bs []), ((bs []), ((bs []), ((0 : Int), ((bs []), ((bs []), ((bs []), ((bs []), ((bs []), ((0 : Int), ((0 : Int), (bs [])))))))))))), (16 : Int)))))))) else (((trade_pan.f x6.1)).bind fun x7 => (((iso_Get.f (a, (3 : Int)))).bind fun x8 => (bif (!x7) then (((iso_Get.f (a, (4 : Int)))).bind fun x9 => (((strconv_ParseInt.f (x9.1, ((10 : Int), (64 : Int))))).bind fun x10 => (((iso_Get.f (a, (32 : Int)))).bind fun x11 => (((iso_Get.f (a, (37 : Int)))).bind fun x12 => (some (((bs []), ((bs []), ((bs []), ((0 : Int), ((bs []), ((bs []), ((bs []), ((bs []), ((bs []), ((0 : Int), ((0 : Int), (bs [])))))))))))), (16 : Int))))))) else (bif (!x8.2) then (((iso_Get.f (a, (4 : Int)))).bind fun x9 => (((strconv_ParseInt.f (x9.1, ((10 : Int), (64 : Int))))).bind fun x10 => (((iso_Get.f (a, (32 : Int)))).bind fun x11 => (((iso_Get.f (a, (37 : Int)))).bind fun x12 => (some (((bs []), ((bs []), ((bs []), ((0 : Int), ((bs []), ((bs []), ((bs []), ((bs []), ((bs []), ((0 : Int), ((0 : Int), (bs [])))))))))))), (16 : Int))))))) else (((iso_Get.f (a, (4 : Int)))).bind fun x9 => (bif (!x9.2) then (((strconv_ParseInt.f (x9.1, ((10 : Int), (64 : Int))))).bind fun x10 => (((iso_Get.f (a, (32 : Int)))).bind fun x11 => (((iso_Get.f (a, (37 : Int)))).bind fun x12 => (some (((bs []), ((bs []), ((bs []), ((0 : Int), ((bs []), ((bs []), ((bs []), ((bs []), ((bs []), ((0 : Int), ((0 : Int), (bs [])))))))))))), (16 : Int)))))) else (((digit_All.f x9.1)).bind fun x10 => (((strconv_ParseInt.f (x9.1, ((10 : Int), (64 : Int))))).bind fun x11 => (bif (!x10) then (((iso_Get.f (a, (32 : Int)))).bind fun x12 => (((iso_Get.f (a, (37 : Int)))).bind fun x13 => (some (((bs []), ((bs []), ((bs []), ((0 : Int), ((bs []), ((bs []), ((bs []), ((bs []), ((bs []), ((0 : Int), ((0 : Int), (bs [])))))))))))), (16 : Int))))) else (bif (!(!x11.2)) then (((iso_Get.f (a, (32 : Int)))).bind fun x12 => (((iso_Get.f (a, (37 : Int)))).bind fun x13 => (some (((bs []), ((bs []), ((bs []), ((0 : Int), ((bs []), ((bs []), ((bs []), ((bs []), ((bs []), ((0 : Int), ((0 : Int), (bs [])))))))))))), (16 : Int))))) else (((iso_Get.f (a, (32 : Int)))).bind fun x12 => (bif (decide ((x11.1 < (1 : Int)))) then (((iso_Get.f (a, (37 : Int)))).bind fun x13 => (some (((bs []), ((bs []), ((bs []), ((0 : Int), ((bs []), ((bs []), ((bs []), ((bs []), ((bs []), ((0 : Int), ((0 : Int), (bs [])))))))))))), (16 : Int)))) else (bif (!x12.2) then (((iso_Get.f (a, (37 : Int)))).bind fun x13 => (some (((bs []), ((bs []), ((bs []), ((0 : Int), ((bs []), ((bs []), ((bs []), ((bs []), ((bs []), ((0 : Int), ((0 : Int), (bs [])))))))))))), (16 : Int)))) else (((trade_acq.f x12.1)).bind fun x13 => (((iso_Get.f (a, (37 : Int)))).bind fun x14 => (bif (!x13) then (some (((bs []), ((bs []), ((bs []), ((0 : Int), ((bs []), ((bs []), ((bs []), ((bs []), ((bs []), ((0 : Int), ((0 : Int), (bs [])))))))))))), (16 : Int))) else (bif (!x14.2) then (some (((bs []), ((bs []), ((bs []), ((0 : Int), ((bs []), ((bs []), ((bs []), ((bs []), ((bs []), ((0 : Int), ((0 : Int), (bs [])))))))))))), (16 : Int))) else (((hold_Ref.f x14.1)).bind fun x15 => (bif (!x15) then (some (((bs []), ((bs []), ((bs []), ((0 : Int), ((bs []), ((bs []), ((bs []), ((bs []), ((bs []), ((0 : Int), ((0 : Int), (bs [])))))))))))), (16 : Int))) else (some ((x3.1, (x6.1, (x8.1, (x11.1, (x4.1, (x5.1, (x12.1, (x14.1, ((bs []), ((0 : Int), ((0 : Int), (bs [])))))))))))), (0 : Int)))))))))))))))))))))))) else (bif (x2.1.1 == (4 : Int)) then (((iso_Get.f (a, (4 : Int)))).bind fun x6 => (bif (!x6.2) then (((strconv_ParseInt.f (x6.1, ((10 : Int), (64 : Int))))).bind fun x7 => (((iso_Get.f (a, (32 : Int)))).bind fun x8 => (((iso_Get.f (a, (37 : Int)))).bind fun x9 => (((iso_Get.f (a, (90 : Int)))).bind fun x10 => (some (((bs []), ((bs []), ((bs []), ((0 : Int), ((bs []), ((bs []), ((bs []), ((bs []), ((bs []), ((0 : Int), ((0 : Int), (bs [])))))))))))), (16 : Int))))))) else (((digit_All.f x6.1)).bind fun x7 => (((strconv_ParseInt.f (x6.1, ((10 : Int), (64 : Int))))).bind fun x8 => (bif (!x7) then (((iso_Get.f (a, (32 : Int)))).bind fun x9 => (((iso_Get.f (a, (37 : Int)))).bind fun x10 => (((iso_Get.f (a, (90 : Int)))).bind fun x11 => (some (((bs []), ((bs []), ((bs []), ((0 : Int), ((bs []), ((bs []), ((bs []), ((bs []), ((bs []), ((0 : Int), ((0 : Int), (bs [])))))))))))), (16 : Int)))))) else (bif (!(!x8.2)) then (((iso_Get.f (a, (32 : Int)))).bind fun x9 => (((iso_Get.f (a, (37 : Int)))).bind fun x10 => (((iso_Get.f (a, (90 : Int)))).bind fun x11 => (some (((bs []), ((bs []), ((bs []), ((0 : Int), ((bs []), ((bs []), ((bs []), ((bs []), ((bs []), ((0 : Int), ((0 : Int), (bs [])))))))))))), (16 : Int)))))) else (((iso_Get.f (a, (32 : Int)))).bind fun x9 => (bif (decide ((x8.1 < (0 : Int)))) then (((iso_Get.f (a, (37 : Int)))).bind fun x10 => (((iso_Get.f (a, (90 : Int)))).bind fun x11 => (some (((bs []), ((bs []), ((bs []), ((0 : Int), ((bs []), ((bs []), ((bs []), ((bs []), ((bs []), ((0 : Int), ((0 : Int), (bs [])))))))))))), (16 : Int))))) else (bif (!x9.2) then (((iso_Get.f (a, (37 : Int)))).bind fun x10 => (((iso_Get.f (a, (90 : Int)))).bind fun x11 => (some (((bs []), ((bs []), ((bs []), ((0 : Int), ((bs []), ((bs []), ((bs []), ((bs []), ((bs []), ((0 : Int), ((0 : Int), (bs [])))))))))))), (16 : Int))))) else (((trade_acq.f x9.1)).bind fun x10 => (((iso_Get.f (a, (37 : Int)))).bind fun x11 => (bif (!x10) then (((iso_Get.f (a, (90 : Int)))).bind fun x12 => (some (((bs []), ((bs []), ((bs []), ((0 : Int), ((bs []), ((bs []), ((bs []), ((bs []), ((bs []), ((0 : Int), ((0 : Int), (bs [])))))))))))), (16 : Int)))) else (bif (!x11.2) then (((iso_Get.f (a, (90 : Int)))).bind fun x12 => (some (((bs []), ((bs []), ((bs []), ((0 : Int), ((bs []), ((bs []), ((bs []), ((bs []), ((bs []), ((0 : Int), ((0 : Int), (bs [])))))))))))), (16 : Int)))) else (((hold_Ref.f x11.1)).bind fun x12 => (((iso_Get.f (a, (90 : Int)))).bind fun x13 => (bif (!x12) then (some (((bs []), ((bs []), ((bs []), ((0 : Int), ((bs []), ((bs []), ((bs []), ((bs []), ((bs []), ((0 : Int), ((0 : Int), (bs [])))))))))))), (16 : Int))) else (bif (!x13.2) then (some (((bs []), ((bs []), ((bs []), ((0 : Int), ((bs []), ((bs []), ((bs []), ((bs []), ((bs []), ((0 : Int), ((0 : Int), (bs [])))))))))))), (16 : Int))) else (bif (!((ByteArray.toList x13.1) == [])) then (((trade_original.f x13.1)).bind fun x14 => (bif (!(!x14)) then (bif (true && (decide (((2 : Int) ≤ (x13.1.size : Int))))) then (bif (true && (decide (((10 : Int) ≤ (x13.1.size : Int))))) then (bif (Nat.ble ((ByteArray.extract x13.1 1 2).size + (ByteArray.extract x13.1 4 10).size) 9223372036854775807) then (bif (Nat.ble (((ByteArray.extract x13.1 1 2) ++ (ByteArray.extract x13.1 4 10)).size + x11.1.size) 9223372036854775807) then (bif (Nat.ble ((((ByteArray.extract x13.1 1 2) ++ (ByteArray.extract x13.1 4 10)) ++ x11.1).size + x9.1.size) 9223372036854775807) then (bif (true && (decide (((20 : Int) ≤ (x13.1.size : Int))))) then (bif (Nat.ble (((((ByteArray.extract x13.1 1 2) ++ (ByteArray.extract x13.1 4 10)) ++ x11.1) ++ x9.1).size + (ByteArray.extract x13.1 10 20).size) 9223372036854775807) then (bif (!x14) then (some (((bs []), ((bs []), ((bs []), ((0 : Int), ((bs []), ((bs []), ((bs []), ((bs []), ((bs []), ((0 : Int), ((0 : Int), (bs [])))))))))))), (16 : Int))) else (some ((x3.1, ((bs []), ((bs []), (x8.1, (x4.1, (x5.1, (x9.1, (x11.1, ((((((ByteArray.extract x13.1 1 2) ++ (ByteArray.extract x13.1 4 10)) ++ x11.1) ++ x9.1) ++ (ByteArray.extract x13.1 10 20)), ((0 : Int), ((0 : Int), (bs [])))))))))))), (0 : Int)))) else none) else none) else none) else none) else none) else none) else none) else (bif (!x14) then (some (((bs []), ((bs []), ((bs []), ((0 : Int), ((bs []), ((bs []), ((bs []), ((bs []), ((bs []), ((0 : Int), ((0 : Int), (bs [])))))))))))), (16 : Int))) else (some ((x3.1, ((bs []), ((bs []), (x8.1, (x4.1, (x5.1, (x9.1, (x11.1, ((bs []), ((0 : Int), ((0 : Int), (bs [])))))))))))), (0 : Int)))))) else (some (((bs []), ((bs []), ((bs []), ((0 : Int), ((bs []), ((bs []), ((bs []), ((bs []), ((bs []), ((0 : Int), ((0 : Int), (bs [])))))))))))), (16 : Int))))))))))))))))))))) else (bif (x2.1.1 == (5 : Int)) then (((iso_Get.f (a, (32 : Int)))).bind fun x6 => (bif (!x6.2) then (((iso_Get.f (a, (74 : Int)))).bind fun x7 => (((strconv_ParseInt.f (x7.1, ((10 : Int), (64 : Int))))).bind fun x8 => (((iso_Get.f (a, (86 : Int)))).bind fun x9 => (((strconv_ParseInt.f (x9.1, ((10 : Int), (64 : Int))))).bind fun x10 => (some (((bs []), ((bs []), ((bs []), ((0 : Int), ((bs []), ((bs []), ((bs []), ((bs []), ((bs []), ((0 : Int), ((0 : Int), (bs [])))))))))))), (16 : Int))))))) else (((trade_acq.f x6.1)).bind fun x7 => (((iso_Get.f (a, (74 : Int)))).bind fun x8 => (bif (!x7) then (((strconv_ParseInt.f (x8.1, ((10 : Int), (64 : Int))))).bind fun x9 => (((iso_Get.f (a, (86 : Int)))).bind fun x10 => (((strconv_ParseInt.f (x10.1, ((10 : Int), (64 : Int))))).bind fun x11 => (some (((bs []), ((bs []), ((bs []), ((0 : Int), ((bs []), ((bs []), ((bs []), ((bs []), ((bs []), ((0 : Int), ((0 : Int), (bs [])))))))))))), (16 : Int)))))) else (bif (!x8.2) then (((strconv_ParseInt.f (x8.1, ((10 : Int), (64 : Int))))).bind fun x9 => (((iso_Get.f (a, (86 : Int)))).bind fun x10 => (((strconv_ParseInt.f (x10.1, ((10 : Int), (64 : Int))))).bind fun x11 => (some (((bs []), ((bs []), ((bs []), ((0 : Int), ((bs []), ((bs []), ((bs []), ((bs []), ((bs []), ((0 : Int), ((0 : Int), (bs [])))))))))))), (16 : Int)))))) else (((digit_All.f x8.1)).bind fun x9 => (((strconv_ParseInt.f (x8.1, ((10 : Int), (64 : Int))))).bind fun x10 => (bif (!x9) then (((iso_Get.f (a, (86 : Int)))).bind fun x11 => (((strconv_ParseInt.f (x11.1, ((10 : Int), (64 : Int))))).bind fun x12 => (some (((bs []), ((bs []), ((bs []), ((0 : Int), ((bs []), ((bs []), ((bs []), ((bs []), ((bs []), ((0 : Int), ((0 : Int), (bs [])))))))))))), (16 : Int))))) else (bif (!(!x10.2)) then (((iso_Get.f (a, (86 : Int)))).bind fun x11 => (((strconv_ParseInt.f (x11.1, ((10 : Int), (64 : Int))))).bind fun x12 => (some (((bs []), ((bs []), ((bs []), ((0 : Int), ((bs []), ((bs []), ((bs []), ((bs []), ((bs []), ((0 : Int), ((0 : Int), (bs [])))))))))))), (16 : Int))))) else (((iso_Get.f (a, (86 : Int)))).bind fun x11 => (bif (decide ((x10.1 < (0 : Int)))) then (((strconv_ParseInt.f (x11.1, ((10 : Int), (64 : Int))))).bind fun x12 => (some (((bs []), ((bs []), ((bs []), ((0 : Int), ((bs []), ((bs []), ((bs []), ((bs []), ((bs []), ((0 : Int), ((0 : Int), (bs [])))))))))))), (16 : Int)))) else (bif (!x11.2) then (((strconv_ParseInt.f (x11.1, ((10 : Int), (64 : Int))))).bind fun x12 => (some (((bs []), ((bs []), ((bs []), ((0 : Int), ((bs []), ((bs []), ((bs []), ((bs []), ((bs []), ((0 : Int), ((0 : Int), (bs [])))))))))))), (16 : Int)))) else (((digit_All.f x11.1)).bind fun x12 => (((strconv_ParseInt.f (x11.1, ((10 : Int), (64 : Int))))).bind fun x13 => (bif (!x12) then (some (((bs []), ((bs []), ((bs []), ((0 : Int), ((bs []), ((bs []), ((bs []), ((bs []), ((bs []), ((0 : Int), ((0 : Int), (bs [])))))))))))), (16 : Int))) else (bif (!(!x13.2)) then (some (((bs []), ((bs []), ((bs []), ((0 : Int), ((bs []), ((bs []), ((bs []), ((bs []), ((bs []), ((0 : Int), ((0 : Int), (bs [])))))))))))), (16 : Int))) else (bif (decide ((x13.1 < (0 : Int)))) then (some (((bs []), ((bs []), ((bs []), ((0 : Int), ((bs []), ((bs []), ((bs []), ((bs []), ((bs []), ((0 : Int), ((0 : Int), (bs [])))))))))))), (16 : Int))) else (some ((x3.1, ((bs []), ((bs []), ((0 : Int), (x4.1, (x5.1, (x6.1, ((bs []), ((bs []), (x10.1, (x13.1, (bs [])))))))))))), (0 : Int))))))))))))))))))))) else (bif (x2.1.1 == (6 : Int)) then (((iso_Get.f (a, (3 : Int)))).bind fun x6 => (bif (!x6.2) then (((iso_Get.f (a, (4 : Int)))).bind fun x7 => (((strconv_ParseInt.f (x7.1, ((10 : Int), (64 : Int))))).bind fun x8 => (((iso_Get.f (a, (32 : Int)))).bind fun x9 => (((iso_Get.f (a, (37 : Int)))).bind fun x10 => (some (((bs []), ((bs []), ((bs []), ((0 : Int), ((bs []), ((bs []), ((bs []), ((bs []), ((bs []), ((0 : Int), ((0 : Int), (bs [])))))))))))), (16 : Int))))))) else (((iso_Get.f (a, (4 : Int)))).bind fun x7 => (bif (!x7.2) then (((strconv_ParseInt.f (x7.1, ((10 : Int), (64 : Int))))).bind fun x8 => (((iso_Get.f (a, (32 : Int)))).bind fun x9 => (((iso_Get.f (a, (37 : Int)))).bind fun x10 => (some (((bs []), ((bs []), ((bs []), ((0 : Int), ((bs []), ((bs []), ((bs []), ((bs []), ((bs []), ((0 : Int), ((0 : Int), (bs [])))))))))))), (16 : Int)))))) else (((digit_All.f x7.1)).bind fun x8 => (((strconv_ParseInt.f (x7.1, ((10 : Int), (64 : Int))))).bind fun x9 => (bif (!x8) then (((iso_Get.f (a, (32 : Int)))).bind fun x10 => (((iso_Get.f (a, (37 : Int)))).bind fun x11 => (some (((bs []), ((bs []), ((bs []), ((0 : Int), ((bs []), ((bs []), ((bs []), ((bs []), ((bs []), ((0 : Int), ((0 : Int), (bs [])))))))))))), (16 : Int))))) else (bif (!(!x9.2)) then (((iso_Get.f (a, (32 : Int)))).bind fun x10 => (((iso_Get.f (a, (37 : Int)))).bind fun x11 => (some (((bs []), ((bs []), ((bs []), ((0 : Int), ((bs []), ((bs []), ((bs []), ((bs []), ((bs []), ((0 : Int), ((0 : Int), (bs [])))))))))))), (16 : Int))))) else (((iso_Get.f (a, (32 : Int)))).bind fun x10 => (bif (decide ((x9.1 < (1 : Int)))) then (((iso_Get.f (a, (37 : Int)))).bind fun x11 => (some (((bs []), ((bs []), ((bs []), ((0 : Int), ((bs []), ((bs []), ((bs []), ((bs []), ((bs []), ((0 : Int), ((0 : Int), (bs [])))))))))))), (16 : Int)))) else (bif (!x10.2) then (((iso_Get.f (a, (37 : Int)))).bind fun x11 => (some (((bs []), ((bs []), ((bs []), ((0 : Int), ((bs []), ((bs []), ((bs []), ((bs []), ((bs []), ((0 : Int), ((0 : Int), (bs [])))))))))))), (16 : Int)))) else (((trade_acq.f x10.1)).bind fun x11 => (((iso_Get.f (a, (37 : Int)))).bind fun x12 => (bif (!x11) then (some (((bs []), ((bs []), ((bs []), ((0 : Int), ((bs []), ((bs []), ((bs []), ((bs []), ((bs []), ((0 : Int), ((0 : Int), (bs [])))))))))))), (16 : Int))) else (bif (!x12.2) then (some (((bs []), ((bs []), ((bs []), ((0 : Int), ((bs []), ((bs []), ((bs []), ((bs []), ((bs []), ((0 : Int), ((0 : Int), (bs [])))))))))))), (16 : Int))) else (((hold_Ref.f x12.1)).bind fun x13 => (bif (!x13) then (some (((bs []), ((bs []), ((bs []), ((0 : Int), ((bs []), ((bs []), ((bs []), ((bs []), ((bs []), ((0 : Int), ((0 : Int), (bs [])))))))))))), (16 : Int))) else (some ((x3.1, ((bs []), (x6.1, (x9.1, (x4.1, (x5.1, (x10.1, (x12.1, ((bs []), ((0 : Int), ((0 : Int), (bs [])))))))))))), (0 : Int)))))))))))))))))))) else (bif (x2.1.1 == (8 : Int)) then (((iso_Get.f (a, (70 : Int)))).bind fun x6 => (bif (!x6.2) then (some (((bs []), ((bs []), ((bs []), ((0 : Int), ((bs []), ((bs []), ((bs []), ((bs []), ((bs []), ((0 : Int), ((0 : Int), (bs [])))))))))))), (16 : Int))) else (some ((x3.1, ((bs []), ((bs []), ((0 : Int), (x4.1, (x5.1, ((bs []), ((bs []), ((bs []), ((0 : Int), ((0 : Int), x6.1))))))))))), (0 : Int))))) else (some ((x3.1, ((bs []), ((bs []), ((0 : Int), (x4.1, (x5.1, ((bs []), ((bs []), ((bs []), ((0 : Int), ((0 : Int), (bs [])))))))))))), (0 : Int)))))))) else (bif (x2.1.1 == (2 : Int)) then (((iso_Get.f (a, (2 : Int)))).bind fun x6 => (bif (!x6.2) then (((iso_Get.f (a, (3 : Int)))).bind fun x7 => (((iso_Get.f (a, (4 : Int)))).bind fun x8 => (((strconv_ParseInt.f (x8.1, ((10 : Int), (64 : Int))))).bind fun x9 => (((iso_Get.f (a, (32 : Int)))).bind fun x10 => (((iso_Get.f (a, (37 : Int)))).bind fun x11 => (some (((bs []), ((bs []), ((bs []), ((0 : Int), ((bs []), ((bs []), ((bs []), ((bs []), ((bs []), ((0 : Int), ((0 : Int), (bs [])))))))))))), (16 : Int)))))))) else (((trade_pan.f x6.1)).bind fun x7 => (((iso_Get.f (a, (3 : Int)))).bind fun x8 => (bif (!x7) then (((iso_Get.f (a, (4 : Int)))).bind fun x9 => (((strconv_ParseInt.f (x9.1, ((10 : Int), (64 : Int))))).bind fun x10 => (((iso_Get.f (a, (32 : Int)))).bind fun x11 => (((iso_Get.f (a, (37 : Int)))).bind fun x12 => (some (((bs []), ((bs []), ((bs []), ((0 : Int), ((bs []), ((bs []), ((bs []), ((bs []), ((bs []), ((0 : Int), ((0 : Int), (bs [])))))))))))), (16 : Int))))))) else (bif (!x8.2) then (((iso_Get.f (a, (4 : Int)))).bind fun x9 => (((strconv_ParseInt.f (x9.1, ((10 : Int), (64 : Int))))).bind fun x10 => (((iso_Get.f (a, (32 : Int)))).bind fun x11 => (((iso_Get.f (a, (37 : Int)))).bind fun x12 => (some (((bs []), ((bs []), ((bs []), ((0 : Int), ((bs []), ((bs []), ((bs []), ((bs []), ((bs []), ((0 : Int), ((0 : Int), (bs [])))))))))))), (16 : Int))))))) else (((iso_Get.f (a, (4 : Int)))).bind fun x9 => (bif (!x9.2) then (((strconv_ParseInt.f (x9.1, ((10 : Int), (64 : Int))))).bind fun x10 => (((iso_Get.f (a, (32 : Int)))).bind fun x11 => (((iso_Get.f (a, (37 : Int)))).bind fun x12 => (some (((bs []), ((bs []), ((bs []), ((0 : Int), ((bs []), ((bs []), ((bs []), ((bs []), ((bs []), ((0 : Int), ((0 : Int), (bs [])))))))))))), (16 : Int)))))) else (((digit_All.f x9.1)).bind fun x10 => (((strconv_ParseInt.f (x9.1, ((10 : Int), (64 : Int))))).bind fun x11 => (bif (!x10) then (((iso_Get.f (a, (32 : Int)))).bind fun x12 => (((iso_Get.f (a, (37 : Int)))).bind fun x13 => (some (((bs []), ((bs []), ((bs []), ((0 : Int), ((bs []), ((bs []), ((bs []), ((bs []), ((bs []), ((0 : Int), ((0 : Int), (bs [])))))))))))), (16 : Int))))) else (bif (!(!x11.2)) then (((iso_Get.f (a, (32 : Int)))).bind fun x12 => (((iso_Get.f (a, (37 : Int)))).bind fun x13 => (some (((bs []), ((bs []), ((bs []), ((0 : Int), ((bs []), ((bs []), ((bs []), ((bs []), ((bs []), ((0 : Int), ((0 : Int), (bs [])))))))))))), (16 : Int))))) else (((iso_Get.f (a, (32 : Int)))).bind fun x12 => (bif (decide ((x11.1 < (1 : Int)))) then (((iso_Get.f (a, (37 : Int)))).bind fun x13 => (some (((bs []), ((bs []), ((bs []), ((0 : Int), ((bs []), ((bs []), ((bs []), ((bs []), ((bs []), ((0 : Int), ((0 : Int), (bs [])))))))))))), (16 : Int)))) else (bif (!x12.2) then (((iso_Get.f (a, (37 : Int)))).bind fun x13 => (some (((bs []), ((bs []), ((bs []), ((0 : Int), ((bs []), ((bs []), ((bs []), ((bs []), ((bs []), ((0 : Int), ((0 : Int), (bs [])))))))))))), (16 : Int)))) else (((trade_acq.f x12.1)).bind fun x13 => (((iso_Get.f (a, (37 : Int)))).bind fun x14 => (bif (!x13) then (some (((bs []), ((bs []), ((bs []), ((0 : Int), ((bs []), ((bs []), ((bs []), ((bs []), ((bs []), ((0 : Int), ((0 : Int), (bs [])))))))))))), (16 : Int))) else (bif (!x14.2) then (some (((bs []), ((bs []), ((bs []), ((0 : Int), ((bs []), ((bs []), ((bs []), ((bs []), ((bs []), ((0 : Int), ((0 : Int), (bs [])))))))))))), (16 : Int))) else (((hold_Ref.f x14.1)).bind fun x15 => (bif (!x15) then (some (((bs []), ((bs []), ((bs []), ((0 : Int), ((bs []), ((bs []), ((bs []), ((bs []), ((bs []), ((0 : Int), ((0 : Int), (bs [])))))))))))), (16 : Int))) else (some ((x3.1, (x6.1, (x8.1, (x11.1, (x4.1, (x5.1, (x12.1, (x14.1, ((bs []), ((0 : Int), ((0 : Int), (bs [])))))))))))), (0 : Int)))))))))))))))))))))))) else (bif (x2.1.1 == (4 : Int)) then (((iso_Get.f (a, (4 : Int)))).bind fun x6 => (bif (!x6.2) then (((strconv_ParseInt.f (x6.1, ((10 : Int), (64 : Int))))).bind fun x7 => (((iso_Get.f (a, (32 : Int)))).bind fun x8 => (((iso_Get.f (a, (37 : Int)))).bind fun x9 => (((iso_Get.f (a, (90 : Int)))).bind fun x10 => (some (((bs []), ((bs []), ((bs []), ((0 : Int), ((bs []), ((bs []), ((bs []), ((bs []), ((bs []), ((0 : Int), ((0 : Int), (bs [])))))))))))), (16 : Int))))))) else (((digit_All.f x6.1)).bind fun x7 => (((strconv_ParseInt.f (x6.1, ((10 : Int), (64 : Int))))).bind fun x8 => (bif (!x7) then (((iso_Get.f (a, (32 : Int)))).bind fun x9 => (((iso_Get.f (a, (37 : Int)))).bind fun x10 => (((iso_Get.f (a, (90 : Int)))).bind fun x11 => (some (((bs []), ((bs []), ((bs []), ((0 : Int), ((bs []), ((bs []), ((bs []), ((bs []), ((bs []), ((0 : Int), ((0 : Int), (bs [])))))))))))), (16 : Int)))))) else (bif (!(!x8.2)) then (((iso_Get.f (a, (32 : Int)))).bind fun x9 => (((iso_Get.f (a, (37 : Int)))).bind fun x10 => (((iso_Get.f (a, (90 : Int)))).bind fun x11 => (some (((bs []), ((bs []), ((bs []), ((0 : Int), ((bs []), ((bs []), ((bs []), ((bs []), ((bs []), ((0 : Int), ((0 : Int), (bs [])))))))))))), (16 : Int)))))) else (((iso_Get.f (a, (32 : Int)))).bind fun x9 => (bif (decide ((x8.1 < (0 : Int)))) then (((iso_Get.f (a, (37 : Int)))).bind fun x10 => (((iso_Get.f (a, (90 : Int)))).bind fun x11 => (some (((bs []), ((bs []), ((bs []), ((0 : Int), ((bs []), ((bs []), ((bs []), ((bs []), ((bs []), ((0 : Int), ((0 : Int), (bs [])))))))))))), (16 : Int))))) else (bif (!x9.2) then (((iso_Get.f (a, (37 : Int)))).bind fun x10 => (((iso_Get.f (a, (90 : Int)))).bind fun x11 => (some (((bs []), ((bs []), ((bs []), ((0 : Int), ((bs []), ((bs []), ((bs []), ((bs []), ((bs []), ((0 : Int), ((0 : Int), (bs [])))))))))))), (16 : Int))))) else (((trade_acq.f x9.1)).bind fun x10 => (((iso_Get.f (a, (37 : Int)))).bind fun x11 => (bif (!x10) then (((iso_Get.f (a, (90 : Int)))).bind fun x12 => (some (((bs []), ((bs []), ((bs []), ((0 : Int), ((bs []), ((bs []), ((bs []), ((bs []), ((bs []), ((0 : Int), ((0 : Int), (bs [])))))))))))), (16 : Int)))) else (bif (!x11.2) then (((iso_Get.f (a, (90 : Int)))).bind fun x12 => (some (((bs []), ((bs []), ((bs []), ((0 : Int), ((bs []), ((bs []), ((bs []), ((bs []), ((bs []), ((0 : Int), ((0 : Int), (bs [])))))))))))), (16 : Int)))) else (((hold_Ref.f x11.1)).bind fun x12 => (((iso_Get.f (a, (90 : Int)))).bind fun x13 => (bif (!x12) then (some (((bs []), ((bs []), ((bs []), ((0 : Int), ((bs []), ((bs []), ((bs []), ((bs []), ((bs []), ((0 : Int), ((0 : Int), (bs [])))))))))))), (16 : Int))) else (bif (!x13.2) then (some (((bs []), ((bs []), ((bs []), ((0 : Int), ((bs []), ((bs []), ((bs []), ((bs []), ((bs []), ((0 : Int), ((0 : Int), (bs [])))))))))))), (16 : Int))) else (bif (!((ByteArray.toList x13.1) == [])) then (((trade_original.f x13.1)).bind fun x14 => (bif (!(!x14)) then (bif (true && (decide (((2 : Int) ≤ (x13.1.size : Int))))) then (bif (true && (decide (((10 : Int) ≤ (x13.1.size : Int))))) then (bif (Nat.ble ((ByteArray.extract x13.1 1 2).size + (ByteArray.extract x13.1 4 10).size) 9223372036854775807) then (bif (Nat.ble (((ByteArray.extract x13.1 1 2) ++ (ByteArray.extract x13.1 4 10)).size + x11.1.size) 9223372036854775807) then (bif (Nat.ble ((((ByteArray.extract x13.1 1 2) ++ (ByteArray.extract x13.1 4 10)) ++ x11.1).size + x9.1.size) 9223372036854775807) then (bif (true && (decide (((20 : Int) ≤ (x13.1.size : Int))))) then (bif (Nat.ble (((((ByteArray.extract x13.1 1 2) ++ (ByteArray.extract x13.1 4 10)) ++ x11.1) ++ x9.1).size + (ByteArray.extract x13.1 10 20).size) 9223372036854775807) then (bif (!x14) then (some (((bs []), ((bs []), ((bs []), ((0 : Int), ((bs []), ((bs []), ((bs []), ((bs []), ((bs []), ((0 : Int), ((0 : Int), (bs [])))))))))))), (16 : Int))) else (some ((x3.1, ((bs []), ((bs []), (x8.1, (x4.1, (x5.1, (x9.1, (x11.1, ((((((ByteArray.extract x13.1 1 2) ++ (ByteArray.extract x13.1 4 10)) ++ x11.1) ++ x9.1) ++ (ByteArray.extract x13.1 10 20)), ((0 : Int), ((0 : Int), (bs [])))))))))))), (0 : Int)))) else none) else none) else none) else none) else none) else none) else none) else (bif (!x14) then (some (((bs []), ((bs []), ((bs []), ((0 : Int), ((bs []), ((bs []), ((bs []), ((bs []), ((bs []), ((0 : Int), ((0 : Int), (bs [])))))))))))), (16 : Int))) else (some ((x3.1, ((bs []), ((bs []), (x8.1, (x4.1, (x5.1, (x9.1, (x11.1, ((bs []), ((0 : Int), ((0 : Int), (bs [])))))))))))), (0 : Int)))))) else (some (((bs []), ((bs []), ((bs []), ((0 : Int), ((bs []), ((bs []), ((bs []), ((bs []), ((bs []), ((0 : Int), ((0 : Int), (bs [])))))))))))), (16 : Int))))))))))))))))))))) else (bif (x2.1.1 == (5 : Int)) then (((iso_Get.f (a, (32 : Int)))).bind fun x6 => (bif (!x6.2) then (((iso_Get.f (a, (74 : Int)))).bind fun x7 => (((strconv_ParseInt.f (x7.1, ((10 : Int), (64 : Int))))).bind fun x8 => (((iso_Get.f (a, (86 : Int)))).bind fun x9 => (((strconv_ParseInt.f (x9.1, ((10 : Int), (64 : Int))))).bind fun x10 => (some (((bs []), ((bs []), ((bs []), ((0 : Int), ((bs []), ((bs []), ((bs []), ((bs []), ((bs []), ((0 : Int), ((0 : Int), (bs [])))))))))))), (16 : Int))))))) else (((trade_acq.f x6.1)).bind fun x7 => (((iso_Get.f (a, (74 : Int)))).bind fun x8 => (bif (!x7) then (((strconv_ParseInt.f (x8.1, ((10 : Int), (64 : Int))))).bind fun x9 => (((iso_Get.f (a, (86 : Int)))).bind fun x10 => (((strconv_ParseInt.f (x10.1, ((10 : Int), (64 : Int))))).bind fun x11 => (some (((bs []), ((bs []), ((bs []), ((0 : Int), ((bs []), ((bs []), ((bs []), ((bs []), ((bs []), ((0 : Int), ((0 : Int), (bs [])))))))))))), (16 : Int)))))) else (bif (!x8.2) then (((strconv_ParseInt.f (x8.1, ((10 : Int), (64 : Int))))).bind fun x9 => (((iso_Get.f (a, (86 : Int)))).bind fun x10 => (((strconv_ParseInt.f (x10.1, ((10 : Int), (64 : Int))))).bind fun x11 => (some (((bs []), ((bs []), ((bs []), ((0 : Int), ((bs []), ((bs []), ((bs []), ((bs []), ((bs []), ((0 : Int), ((0 : Int), (bs [])))))))))))), (16 : Int)))))) else (((digit_All.f x8.1)).bind fun x9 => (((strconv_ParseInt.f (x8.1, ((10 : Int), (64 : Int))))).bind fun x10 => (bif (!x9) then (((iso_Get.f (a, (86 : Int)))).bind fun x11 => (((strconv_ParseInt.f (x11.1, ((10 : Int), (64 : Int))))).bind fun x12 => (some (((bs []), ((bs []), ((bs []), ((0 : Int), ((bs []), ((bs []), ((bs []), ((bs []), ((bs []), ((0 : Int), ((0 : Int), (bs [])))))))))))), (16 : Int))))) else (bif (!(!x10.2)) then (((iso_Get.f (a, (86 : Int)))).bind fun x11 => (((strconv_ParseInt.f (x11.1, ((10 : Int), (64 : Int))))).bind fun x12 => (some (((bs []), ((bs []), ((bs []), ((0 : Int), ((bs []), ((bs []), ((bs []), ((bs []), ((bs []), ((0 : Int), ((0 : Int), (bs [])))))))))))), (16 : Int))))) else (((iso_Get.f (a, (86 : Int)))).bind fun x11 => (bif (decide ((x10.1 < (0 : Int)))) then (((strconv_ParseInt.f (x11.1, ((10 : Int), (64 : Int))))).bind fun x12 => (some (((bs []), ((bs []), ((bs []), ((0 : Int), ((bs []), ((bs []), ((bs []), ((bs []), ((bs []), ((0 : Int), ((0 : Int), (bs [])))))))))))), (16 : Int)))) else (bif (!x11.2) then (((strconv_ParseInt.f (x11.1, ((10 : Int), (64 : Int))))).bind fun x12 => (some (((bs []), ((bs []), ((bs []), ((0 : Int), ((bs []), ((bs []), ((bs []), ((bs []), ((bs []), ((0 : Int), ((0 : Int), (bs [])))))))))))), (16 : Int)))) else (((digit_All.f x11.1)).bind fun x12 => (((strconv_ParseInt.f (x11.1, ((10 : Int), (64 : Int))))).bind fun x13 => (bif (!x12) then (some (((bs []), ((bs []), ((bs []), ((0 : Int), ((bs []), ((bs []), ((bs []), ((bs []), ((bs []), ((0 : Int), ((0 : Int), (bs [])))))))))))), (16 : Int))) else (bif (!(!x13.2)) then (some (((bs []), ((bs []), ((bs []), ((0 : Int), ((bs []), ((bs []), ((bs []), ((bs []), ((bs []), ((0 : Int), ((0 : Int), (bs [])))))))))))), (16 : Int))) else (bif (decide ((x13.1 < (0 : Int)))) then (some (((bs []), ((bs []), ((bs []), ((0 : Int), ((bs []), ((bs []), ((bs []), ((bs []), ((bs []), ((0 : Int), ((0 : Int), (bs [])))))))))))), (16 : Int))) else (some ((x3.1, ((bs []), ((bs []), ((0 : Int), (x4.1, (x5.1, (x6.1, ((bs []), ((bs []), (x10.1, (x13.1, (bs [])))))))))))), (0 : Int))))))))))))))))))))) else (bif (x2.1.1 == (6 : Int)) then (((iso_Get.f (a, (3 : Int)))).bind fun x6 => (bif (!x6.2) then (((iso_Get.f (a, (4 : Int)))).bind fun x7 => (((strconv_ParseInt.f (x7.1, ((10 : Int), (64 : Int))))).bind fun x8 => (((iso_Get.f (a, (32 : Int)))).bind fun x9 => (((iso_Get.f (a, (37 : Int)))).bind fun x10 => (some (((bs []), ((bs []), ((bs []), ((0 : Int), ((bs []), ((bs []), ((bs []), ((bs []), ((bs []), ((0 : Int), ((0 : Int), (bs [])))))))))))), (16 : Int))))))) else (((iso_Get.f (a, (4 : Int)))).bind fun x7 => (bif (!x7.2) then (((strconv_ParseInt.f (x7.1, ((10 : Int), (64 : Int))))).bind fun x8 => (((iso_Get.f (a, (32 : Int)))).bind fun x9 => (((iso_Get.f (a, (37 : Int)))).bind fun x10 => (some (((bs []), ((bs []), ((bs []), ((0 : Int), ((bs []), ((bs []), ((bs []), ((bs []), ((bs []), ((0 : Int), ((0 : Int), (bs [])))))))))))), (16 : Int)))))) else (((digit_All.f x7.1)).bind fun x8 => (((strconv_ParseInt.f (x7.1, ((10 : Int), (64 : Int))))).bind fun x9 => (bif (!x8) then (((iso_Get.f (a, (32 : Int)))).bind fun x10 => (((iso_Get.f (a, (37 : Int)))).bind fun x11 => (some (((bs []), ((bs []), ((bs []), ((0 : Int), ((bs []), ((bs []), ((bs []), ((bs []), ((bs []), ((0 : Int), ((0 : Int), (bs [])))))))))))), (16 : Int))))) else (bif (!(!x9.2)) then (((iso_Get.f (a, (32 : Int)))).bind fun x10 => (((iso_Get.f (a, (37 : Int)))).bind fun x11 => (some (((bs []), ((bs []), ((bs []), ((0 : Int), ((bs []), ((bs []), ((bs []), ((bs []), ((bs []), ((0 : Int), ((0 : Int), (bs [])))))))))))), (16 : Int))))) else (((iso_Get.f (a, (32 : Int)))).bind fun x10 => (bif (decide ((x9.1 < (1 : Int)))) then (((iso_Get.f (a, (37 : Int)))).bind fun x11 => (some (((bs []), ((bs []), ((bs []), ((0 : Int), ((bs []), ((bs []), ((bs []), ((bs []), ((bs []), ((0 : Int), ((0 : Int), (bs [])))))))))))), (16 : Int)))) else (bif (!x10.2) then (((iso_Get.f (a, (37 : Int)))).bind fun x11 => (some (((bs []), ((bs []), ((bs []), ((0 : Int), ((bs []), ((bs []), ((bs []), ((bs []), ((bs []), ((0 : Int), ((0 : Int), (bs [])))))))))))), (16 : Int)))) else (((trade_acq.f x10.1)).bind fun x11 => (((iso_Get.f (a, (37 : Int)))).bind fun x12 => (bif (!x11) then (some (((bs []), ((bs []), ((bs []), ((0 : Int), ((bs []), ((bs []), ((bs []), ((bs []), ((bs []), ((0 : Int), ((0 : Int), (bs [])))))))))))), (16 : Int))) else (bif (!x12.2) then (some (((bs []), ((bs []), ((bs []), ((0 : Int), ((bs []), ((bs []), ((bs []), ((bs []), ((bs []), ((0 : Int), ((0 : Int), (bs [])))))))))))), (16 : Int))) else (((hold_Ref.f x12.1)).bind fun x13 => (bif (!x13) then (some (((bs []), ((bs []), ((bs []), ((0 : Int), ((bs []), ((bs []), ((bs []), ((bs []), ((bs []), ((0 : Int), ((0 : Int), (bs [])))))))))))), (16 : Int))) else (some ((x3.1, ((bs []), (x6.1, (x9.1, (x4.1, (x5.1, (x10.1, (x12.1, ((bs []), ((0 : Int), ((0 : Int), (bs [])))))))))))), (0 : Int)))))))))))))))))))) else (bif (x2.1.1 == (8 : Int)) then (((iso_Get.f (a, (70 : Int)))).bind fun x6 => (bif (!x6.2) then (some (((bs []), ((bs []), ((bs []), ((0 : Int), ((bs []), ((bs []), ((bs []), ((bs []), ((bs []), ((0 : Int), ((0 : Int), (bs [])))))))))))), (16 : Int))) else (some ((x3.1, ((bs []), ((bs []), ((0 : Int), (x4.1, (x5.1, ((bs []), ((bs []), ((bs []), ((0 : Int), ((0 : Int), x6.1))))))))))), (0 : Int))))) else (some ((x3.1, ((bs []), ((bs []), ((0 : Int), (x4.1, (x5.1, ((bs []), ((bs []), ((bs []), ((0 : Int), ((0 : Int), (bs [])))))))))))), (0 : Int))))))))))))))))))
theorem trade_Read.ok : ∀ a : Vals trade_Read.As.tys, fnK P trade_Read.H (lp []) 8 trade_Read.As trade_Read.m a some = trade_Read.f a := fun a => by kernel_rfl
noncomputable abbrev trade_Read.row : Row := fnRow 8 trade_Read.As trade_Read.m trade_Read.f
theorem trade_Read.row_ok : RowOK P G1 trade_Read.row := row_told trade_Read.hok (lp_of (l := []) trivial) (fun _ => rfl) trade_Read.ok
end Go.Proofs.YtpoiijkodpnobaaGreatDoor
end
section
set_option linter.unusedVariables false
set_option linter.unusedSimpArgs false
set_option maxHeartbeats 4000000
set_option maxRecDepth 10000
namespace Go.Proofs.YtpoiijkodpnobaaGreatDoor
open Go Go.Fw
abbrev Tr := ByteArray × (ByteArray × (ByteArray × (Int × (ByteArray × (ByteArray × (ByteArray × (ByteArray × (ByteArray × (Int × (Int × ByteArray))))))))))
def zT : Tr := (bs [], bs [], bs [], 0, bs [], bs [], bs [], bs [], bs [], 0, 0, bs [])
def origT (s rrn acq : ByteArray) : ByteArray := s.extract 1 2 ++ s.extract 4 10 ++ rrn ++ acq ++ s.extract 10 20
noncomputable def okT (m : Msg) (k : Int) : Bool :=
  bif k == 1 || k == 2 then hasM m 7 && (hasM m 11 && (hasM m 2 && (cardB (fldM m 2) && (hasM m 3 && (hasM m 4 && (!decide (numM m 4 < 1) && (hasM m 32 && (acqB (fldM m 32) && (hasM m 37 && refB (fldM m 37))))))))))
  else bif k == 4 then hasM m 7 && (hasM m 11 && (hasM m 4 && (hasM m 32 && (acqB (fldM m 32) && (hasM m 37 && (refB (fldM m 37) && (hasM m 90 && origB (fldM m 90))))))))
  else bif k == 5 then hasM m 7 && (hasM m 11 && (hasM m 32 && (acqB (fldM m 32) && (hasM m 74 && hasM m 86))))
  else bif k == 6 then hasM m 7 && (hasM m 11 && (hasM m 3 && (hasM m 4 && (!decide (numM m 4 < 1) && (hasM m 32 && (acqB (fldM m 32) && (hasM m 37 && refB (fldM m 37))))))))
  else hasM m 7 && (hasM m 11 && hasM m 70)
noncomputable def trT (m : Msg) (t : ByteArray) (k : Int) : Tr :=
  bif k == 1 || k == 2 then (t, fldM m 2, fldM m 3, numM m 4, fldM m 7, fldM m 11, fldM m 32, fldM m 37, bs [], 0, 0, bs [])
  else bif k == 4 then (t, bs [], bs [], numM m 4, fldM m 7, fldM m 11, fldM m 32, fldM m 37, origT (fldM m 90) (fldM m 37) (fldM m 32), 0, 0, bs [])
  else bif k == 5 then (t, bs [], bs [], 0, fldM m 7, fldM m 11, fldM m 32, bs [], bs [], numM m 74, numM m 86, bs [])
  else bif k == 6 then (t, bs [], fldM m 3, numM m 4, fldM m 7, fldM m 11, fldM m 32, fldM m 37, bs [], 0, 0, bs [])
  else (t, bs [], bs [], 0, fldM m 7, fldM m 11, bs [], bs [], bs [], 0, 0, fldM m 70)
theorem first_of {m : Msg} {i : Nat} (hw : whose m.1 = some i) (ha : (mAt i).2.2.1 = false) : ∃ e, mti_Text.f ((mAt i).1, (mAt i).2.1, false, false) = some (m.1.extract 0 3 ++ bs [48], e) := by
  obtain ⟨hi, ht⟩ := whose_lt hw
  have := first_text i hi ha
  rw [ha, ht] at this
  rw [mtiText_is]
  exact ⟨_, by rw [← this]⟩
theorem orig_ble {s rrn acq : ByteArray} (h1 : s.size = 42) (h2 : rrn.size ≤ 1001) (h3 : acq.size ≤ 1001) :
    Nat.ble ((s.extract 1 2).size + (s.extract 4 10).size) 9223372036854775807 = true ∧ Nat.ble ((s.extract 1 2 ++ s.extract 4 10).size + rrn.size) 9223372036854775807 = true ∧
    Nat.ble ((s.extract 1 2 ++ s.extract 4 10 ++ rrn).size + acq.size) 9223372036854775807 = true ∧ Nat.ble ((s.extract 1 2 ++ s.extract 4 10 ++ rrn ++ acq).size + (s.extract 10 20).size) 9223372036854775807 = true := by
  simp only [ByteArray.size_append, ByteArray.size_extract]
  exact ⟨Nat.ble_eq_true_of_le (by omega), Nat.ble_eq_true_of_le (by omega), Nat.ble_eq_true_of_le (by omega), Nat.ble_eq_true_of_le (by omega)⟩
theorem read_class1 {m : Msg} {i : Nat} (hg : goodM m) (hp : (packF m).2 = 0) (hw : whose m.1 = some i) (ha : (mAt i).2.2.1 = false) (hk : (mAt i).1 = 1) :
    trade_Read.f m = some (bif okT m 1 then (trT m (m.1.extract 0 3 ++ bs [48]) 1, 0) else (zT, 16)) := by
  obtain ⟨_, _, _, hok, _⟩ := packF_zero hp
  obtain ⟨e, hmt⟩ := first_of hw ha
  obtain ⟨q4, hq4⟩ := parseI_some (fld_small hg 4)
  obtain ⟨q74, hq74⟩ := parseI_some (fld_small hg 74)
  obtain ⟨q86, hq86⟩ := parseI_some (fld_small hg 86)
  have hR : ∀ n, hold_Ref.f (fldM m n) = some (refB (fldM m n)) := fun n => hold_Ref_is _ (by have := fld_small hg n; omega)
  have hA : ∀ n, digit_All.f (fldM m n) = some (digitsB (fldM m n)) := fun n => digit_All_is _ (by have := fld_small hg n; omega)
  have ok : okT m 1 = (hasM m 7 && (hasM m 11 && (hasM m 2 && (cardB (fldM m 2) && (hasM m 3 && (hasM m 4 && (!decide (numM m 4 < 1) && (hasM m 32 && (acqB (fldM m 32) && (hasM m 37 && refB (fldM m 37))))))))))) := rfl
  rw [ok]
  unfold trade_Read.f
  simp only [check_pack hg, hp, Option.bind_some, bne_self_eq_false, cond_false, mtiParse_is, hw, ha, hmt, get_fld hg]
  rw [hk] at hmt
  simp only [hk, show ((1 : Int) == 1) = true from rfl, show ((1 : Int) == 2) = false from rfl, show ((1 : Int) == 4) = false from rfl, show ((1 : Int) == 5) = false from rfl, show ((1 : Int) == 6) = false from rfl, show ((1 : Int) == 8) = false from rfl, cond_true, cond_false]
  cases h7 : hasM m 7
  · simp only [bT, hq4, hq74, hq86, tpan_is, tacq_is, hR, hA]
    rfl
  simp only [bT, hq4, hq74, hq86, tpan_is, tacq_is, hR, hA]
  cases h11 : hasM m 11
  · simp only [bT, hq4, hq74, hq86, tpan_is, tacq_is, hR, hA]
    rfl
  simp only [bT, hq4, hq74, hq86, tpan_is, tacq_is, hR, hA]
  cases h2 : hasM m 2
  · simp only [bT, hq4, hq74, hq86, tpan_is, tacq_is, hR, hA]
    rfl
  simp only [bT, hq4, hq74, hq86, tpan_is, tacq_is, hR, hA]
  cases hc2 : cardB (fldM m 2)
  · simp only [bT, hq4, hq74, hq86, tpan_is, tacq_is, hR, hA]
    rfl
  simp only [bT, hq4, hq74, hq86, tpan_is, tacq_is, hR, hA]
  cases h3 : hasM m 3
  · simp only [bT, hq4, hq74, hq86, tpan_is, tacq_is, hR, hA]
    rfl
  simp only [bT, hq4, hq74, hq86, tpan_is, tacq_is, hR, hA]
  cases h4 : hasM m 4
  · simp only [bT, hq4, hq74, hq86, tpan_is, tacq_is, hR, hA]
    rfl
  simp only [bT, hq4, hq74, hq86, tpan_is, tacq_is, hR, hA]
  obtain ⟨hd4, hp4, _⟩ := fnum hg hok h4 of4 (by omega)
  rw [hq4] at hp4
  injection hp4 with hp4
  subst hp4
  simp only [hd4, bT, hq4, hq74, hq86, tpan_is, tacq_is, hR, hA]
  cases hl4 : decide (numM m 4 < 1)
  rotate_left
  · simp only [bT, hq4, hq74, hq86, tpan_is, tacq_is, hR, hA]
    rfl
  simp only [bT, hq4, hq74, hq86, tpan_is, tacq_is, hR, hA]
  cases h32 : hasM m 32
  · simp only [bT, hq4, hq74, hq86, tpan_is, tacq_is, hR, hA]
    rfl
  simp only [bT, hq4, hq74, hq86, tpan_is, tacq_is, hR, hA]
  cases hc32 : acqB (fldM m 32)
  · simp only [bT, hq4, hq74, hq86, tpan_is, tacq_is, hR, hA]
    rfl
  simp only [bT, hq4, hq74, hq86, tpan_is, tacq_is, hR, hA]
  cases h37 : hasM m 37
  · simp only [bT, hq4, hq74, hq86, tpan_is, tacq_is, hR, hA]
    rfl
  simp only [bT, hq4, hq74, hq86, tpan_is, tacq_is, hR, hA]
  cases hc37 : refB (fldM m 37)
  · simp only [bT, hq4, hq74, hq86, tpan_is, tacq_is, hR, hA]
    rfl
  simp only [bT, hq4, hq74, hq86, tpan_is, tacq_is, hR, hA]
  rfl
theorem read_class2 {m : Msg} {i : Nat} (hg : goodM m) (hp : (packF m).2 = 0) (hw : whose m.1 = some i) (ha : (mAt i).2.2.1 = false) (hk : (mAt i).1 = 2) :
    trade_Read.f m = some (bif okT m 2 then (trT m (m.1.extract 0 3 ++ bs [48]) 2, 0) else (zT, 16)) := by
  obtain ⟨_, _, _, hok, _⟩ := packF_zero hp
  obtain ⟨e, hmt⟩ := first_of hw ha
  obtain ⟨q4, hq4⟩ := parseI_some (fld_small hg 4)
  obtain ⟨q74, hq74⟩ := parseI_some (fld_small hg 74)
  obtain ⟨q86, hq86⟩ := parseI_some (fld_small hg 86)
  have hR : ∀ n, hold_Ref.f (fldM m n) = some (refB (fldM m n)) := fun n => hold_Ref_is _ (by have := fld_small hg n; omega)
  have hA : ∀ n, digit_All.f (fldM m n) = some (digitsB (fldM m n)) := fun n => digit_All_is _ (by have := fld_small hg n; omega)
  have ok : okT m 2 = (hasM m 7 && (hasM m 11 && (hasM m 2 && (cardB (fldM m 2) && (hasM m 3 && (hasM m 4 && (!decide (numM m 4 < 1) && (hasM m 32 && (acqB (fldM m 32) && (hasM m 37 && refB (fldM m 37))))))))))) := rfl
  rw [ok]
  unfold trade_Read.f
  simp only [check_pack hg, hp, Option.bind_some, bne_self_eq_false, cond_false, mtiParse_is, hw, ha, hmt, get_fld hg]
  rw [hk] at hmt
  simp only [hk, show ((2 : Int) == 1) = false from rfl, show ((2 : Int) == 2) = true from rfl, show ((2 : Int) == 4) = false from rfl, show ((2 : Int) == 5) = false from rfl, show ((2 : Int) == 6) = false from rfl, show ((2 : Int) == 8) = false from rfl, cond_true, cond_false]
  cases h7 : hasM m 7
  · simp only [bT, hq4, hq74, hq86, tpan_is, tacq_is, hR, hA]
    rfl
  simp only [bT, hq4, hq74, hq86, tpan_is, tacq_is, hR, hA]
  cases h11 : hasM m 11
  · simp only [bT, hq4, hq74, hq86, tpan_is, tacq_is, hR, hA]
    rfl
  simp only [bT, hq4, hq74, hq86, tpan_is, tacq_is, hR, hA]
  cases h2 : hasM m 2
  · simp only [bT, hq4, hq74, hq86, tpan_is, tacq_is, hR, hA]
    rfl
  simp only [bT, hq4, hq74, hq86, tpan_is, tacq_is, hR, hA]
  cases hc2 : cardB (fldM m 2)
  · simp only [bT, hq4, hq74, hq86, tpan_is, tacq_is, hR, hA]
    rfl
  simp only [bT, hq4, hq74, hq86, tpan_is, tacq_is, hR, hA]
  cases h3 : hasM m 3
  · simp only [bT, hq4, hq74, hq86, tpan_is, tacq_is, hR, hA]
    rfl
  simp only [bT, hq4, hq74, hq86, tpan_is, tacq_is, hR, hA]
  cases h4 : hasM m 4
  · simp only [bT, hq4, hq74, hq86, tpan_is, tacq_is, hR, hA]
    rfl
  simp only [bT, hq4, hq74, hq86, tpan_is, tacq_is, hR, hA]
  obtain ⟨hd4, hp4, _⟩ := fnum hg hok h4 of4 (by omega)
  rw [hq4] at hp4
  injection hp4 with hp4
  subst hp4
  simp only [hd4, bT, hq4, hq74, hq86, tpan_is, tacq_is, hR, hA]
  cases hl4 : decide (numM m 4 < 1)
  rotate_left
  · simp only [bT, hq4, hq74, hq86, tpan_is, tacq_is, hR, hA]
    rfl
  simp only [bT, hq4, hq74, hq86, tpan_is, tacq_is, hR, hA]
  cases h32 : hasM m 32
  · simp only [bT, hq4, hq74, hq86, tpan_is, tacq_is, hR, hA]
    rfl
  simp only [bT, hq4, hq74, hq86, tpan_is, tacq_is, hR, hA]
  cases hc32 : acqB (fldM m 32)
  · simp only [bT, hq4, hq74, hq86, tpan_is, tacq_is, hR, hA]
    rfl
  simp only [bT, hq4, hq74, hq86, tpan_is, tacq_is, hR, hA]
  cases h37 : hasM m 37
  · simp only [bT, hq4, hq74, hq86, tpan_is, tacq_is, hR, hA]
    rfl
  simp only [bT, hq4, hq74, hq86, tpan_is, tacq_is, hR, hA]
  cases hc37 : refB (fldM m 37)
  · simp only [bT, hq4, hq74, hq86, tpan_is, tacq_is, hR, hA]
    rfl
  simp only [bT, hq4, hq74, hq86, tpan_is, tacq_is, hR, hA]
  rfl
theorem read_class4 {m : Msg} {i : Nat} (hg : goodM m) (hp : (packF m).2 = 0) (hw : whose m.1 = some i) (ha : (mAt i).2.2.1 = false) (hk : (mAt i).1 = 4) :
    trade_Read.f m = some (bif okT m 4 then (trT m (m.1.extract 0 3 ++ bs [48]) 4, 0) else (zT, 16)) := by
  obtain ⟨_, _, _, hok, _⟩ := packF_zero hp
  obtain ⟨e, hmt⟩ := first_of hw ha
  obtain ⟨q4, hq4⟩ := parseI_some (fld_small hg 4)
  obtain ⟨q74, hq74⟩ := parseI_some (fld_small hg 74)
  obtain ⟨q86, hq86⟩ := parseI_some (fld_small hg 86)
  have hR : ∀ n, hold_Ref.f (fldM m n) = some (refB (fldM m n)) := fun n => hold_Ref_is _ (by have := fld_small hg n; omega)
  have hA : ∀ n, digit_All.f (fldM m n) = some (digitsB (fldM m n)) := fun n => digit_All_is _ (by have := fld_small hg n; omega)
  have ok : okT m 4 = (hasM m 7 && (hasM m 11 && (hasM m 4 && (hasM m 32 && (acqB (fldM m 32) && (hasM m 37 && (refB (fldM m 37) && (hasM m 90 && origB (fldM m 90))))))))) := rfl
  rw [ok]
  unfold trade_Read.f
  simp only [check_pack hg, hp, Option.bind_some, bne_self_eq_false, cond_false, mtiParse_is, hw, ha, hmt, get_fld hg]
  rw [hk] at hmt
  simp only [hk, show ((4 : Int) == 1) = false from rfl, show ((4 : Int) == 2) = false from rfl, show ((4 : Int) == 4) = true from rfl, show ((4 : Int) == 5) = false from rfl, show ((4 : Int) == 6) = false from rfl, show ((4 : Int) == 8) = false from rfl, cond_true, cond_false]
  cases h7 : hasM m 7
  · simp only [bT, hq4, hq74, hq86, tpan_is, tacq_is, hR, hA]
    rfl
  simp only [bT, hq4, hq74, hq86, tpan_is, tacq_is, hR, hA]
  cases h11 : hasM m 11
  · simp only [bT, hq4, hq74, hq86, tpan_is, tacq_is, hR, hA]
    rfl
  simp only [bT, hq4, hq74, hq86, tpan_is, tacq_is, hR, hA]
  cases h4 : hasM m 4
  · simp only [bT, hq4, hq74, hq86, tpan_is, tacq_is, hR, hA]
    rfl
  simp only [bT, hq4, hq74, hq86, tpan_is, tacq_is, hR, hA]
  obtain ⟨hd4, hp4, _⟩ := fnum hg hok h4 of4 (by omega)
  rw [hq4] at hp4
  injection hp4 with hp4
  subst hp4
  simp only [hd4, bT, hq4, hq74, hq86, tpan_is, tacq_is, hR, hA]
  simp only [decide_eq_false (show ¬ numM m 4 < 0 by have := numM_nn m 4; omega), bT, hq4, hq74, hq86, tpan_is, tacq_is, hR, hA]
  cases h32 : hasM m 32
  · simp only [bT, hq4, hq74, hq86, tpan_is, tacq_is, hR, hA]
    rfl
  simp only [bT, hq4, hq74, hq86, tpan_is, tacq_is, hR, hA]
  cases hc32 : acqB (fldM m 32)
  · simp only [bT, hq4, hq74, hq86, tpan_is, tacq_is, hR, hA]
    rfl
  simp only [bT, hq4, hq74, hq86, tpan_is, tacq_is, hR, hA]
  cases h37 : hasM m 37
  · simp only [bT, hq4, hq74, hq86, tpan_is, tacq_is, hR, hA]
    rfl
  simp only [bT, hq4, hq74, hq86, tpan_is, tacq_is, hR, hA]
  cases hc37 : refB (fldM m 37)
  · simp only [bT, hq4, hq74, hq86, tpan_is, tacq_is, hR, hA]
    rfl
  simp only [bT, hq4, hq74, hq86, tpan_is, tacq_is, hR, hA]
  cases h90 : hasM m 90
  · simp only [bT, hq4, hq74, hq86, tpan_is, tacq_is, hR, hA]
    rfl
  simp only [bT, hq4, hq74, hq86, tpan_is, tacq_is, hR, hA]
  have h42 := fsize hg hok h90 of90
  have h42n : (fldM m 90).size = 42 := by omega
  have hne : (ByteArray.toList (fldM m 90) == []) = false := by
    rw [texts_nil]
    exact decide_eq_false fun e => by rw [e] at h42n; simp [bs_size] at h42n
  obtain ⟨b1, b2, b3, b4⟩ := orig_ble (s := fldM m 90) (rrn := fldM m 37) (acq := fldM m 32) h42n (fld_small hg 37) (fld_small hg 32)
  have d2 : decide ((2 : Int) ≤ ((fldM m 90).size : Int)) = true := decide_eq_true (by omega)
  have d10 : decide ((10 : Int) ≤ ((fldM m 90).size : Int)) = true := decide_eq_true (by omega)
  have d20 : decide ((20 : Int) ≤ ((fldM m 90).size : Int)) = true := decide_eq_true (by omega)
  simp only [hne, original_is (s := fldM m 90) (by omega), d2, d10, d20, b1, b2, b3, b4, Bool.and_self, bT, hq4, hq74, hq86, tpan_is, tacq_is, hR, hA]
  cases ho : origB (fldM m 90)
  · simp only [bT, hq4, hq74, hq86, tpan_is, tacq_is, hR, hA]
    rfl
  simp only [bT, hq4, hq74, hq86, tpan_is, tacq_is, hR, hA]
  rfl
theorem read_class5 {m : Msg} {i : Nat} (hg : goodM m) (hp : (packF m).2 = 0) (hw : whose m.1 = some i) (ha : (mAt i).2.2.1 = false) (hk : (mAt i).1 = 5) :
    trade_Read.f m = some (bif okT m 5 then (trT m (m.1.extract 0 3 ++ bs [48]) 5, 0) else (zT, 16)) := by
  obtain ⟨_, _, _, hok, _⟩ := packF_zero hp
  obtain ⟨e, hmt⟩ := first_of hw ha
  obtain ⟨q4, hq4⟩ := parseI_some (fld_small hg 4)
  obtain ⟨q74, hq74⟩ := parseI_some (fld_small hg 74)
  obtain ⟨q86, hq86⟩ := parseI_some (fld_small hg 86)
  have hR : ∀ n, hold_Ref.f (fldM m n) = some (refB (fldM m n)) := fun n => hold_Ref_is _ (by have := fld_small hg n; omega)
  have hA : ∀ n, digit_All.f (fldM m n) = some (digitsB (fldM m n)) := fun n => digit_All_is _ (by have := fld_small hg n; omega)
  have ok : okT m 5 = (hasM m 7 && (hasM m 11 && (hasM m 32 && (acqB (fldM m 32) && (hasM m 74 && hasM m 86))))) := rfl
  rw [ok]
  unfold trade_Read.f
  simp only [check_pack hg, hp, Option.bind_some, bne_self_eq_false, cond_false, mtiParse_is, hw, ha, hmt, get_fld hg]
  rw [hk] at hmt
  simp only [hk, show ((5 : Int) == 1) = false from rfl, show ((5 : Int) == 2) = false from rfl, show ((5 : Int) == 4) = false from rfl, show ((5 : Int) == 5) = true from rfl, show ((5 : Int) == 6) = false from rfl, show ((5 : Int) == 8) = false from rfl, cond_true, cond_false]
  cases h7 : hasM m 7
  · simp only [bT, hq4, hq74, hq86, tpan_is, tacq_is, hR, hA]
    rfl
  simp only [bT, hq4, hq74, hq86, tpan_is, tacq_is, hR, hA]
  cases h11 : hasM m 11
  · simp only [bT, hq4, hq74, hq86, tpan_is, tacq_is, hR, hA]
    rfl
  simp only [bT, hq4, hq74, hq86, tpan_is, tacq_is, hR, hA]
  cases h32 : hasM m 32
  · simp only [bT, hq4, hq74, hq86, tpan_is, tacq_is, hR, hA]
    rfl
  simp only [bT, hq4, hq74, hq86, tpan_is, tacq_is, hR, hA]
  cases hc32 : acqB (fldM m 32)
  · simp only [bT, hq4, hq74, hq86, tpan_is, tacq_is, hR, hA]
    rfl
  simp only [bT, hq4, hq74, hq86, tpan_is, tacq_is, hR, hA]
  cases h74 : hasM m 74
  · simp only [bT, hq4, hq74, hq86, tpan_is, tacq_is, hR, hA]
    rfl
  simp only [bT, hq4, hq74, hq86, tpan_is, tacq_is, hR, hA]
  obtain ⟨hd74, hp74, _⟩ := fnum hg hok h74 of74 (by omega)
  rw [hq74] at hp74
  injection hp74 with hp74
  subst hp74
  simp only [hd74, bT, hq4, hq74, hq86, tpan_is, tacq_is, hR, hA]
  simp only [decide_eq_false (show ¬ numM m 74 < 0 by have := numM_nn m 74; omega), bT, hq4, hq74, hq86, tpan_is, tacq_is, hR, hA]
  cases h86 : hasM m 86
  · simp only [bT, hq4, hq74, hq86, tpan_is, tacq_is, hR, hA]
    rfl
  simp only [bT, hq4, hq74, hq86, tpan_is, tacq_is, hR, hA]
  obtain ⟨hd86, hp86, _⟩ := fnum hg hok h86 of86 (by omega)
  rw [hq86] at hp86
  injection hp86 with hp86
  subst hp86
  simp only [hd86, bT, hq4, hq74, hq86, tpan_is, tacq_is, hR, hA]
  simp only [decide_eq_false (show ¬ numM m 86 < 0 by have := numM_nn m 86; omega), bT, hq4, hq74, hq86, tpan_is, tacq_is, hR, hA]
  rfl
theorem read_class6 {m : Msg} {i : Nat} (hg : goodM m) (hp : (packF m).2 = 0) (hw : whose m.1 = some i) (ha : (mAt i).2.2.1 = false) (hk : (mAt i).1 = 6) :
    trade_Read.f m = some (bif okT m 6 then (trT m (m.1.extract 0 3 ++ bs [48]) 6, 0) else (zT, 16)) := by
  obtain ⟨_, _, _, hok, _⟩ := packF_zero hp
  obtain ⟨e, hmt⟩ := first_of hw ha
  obtain ⟨q4, hq4⟩ := parseI_some (fld_small hg 4)
  obtain ⟨q74, hq74⟩ := parseI_some (fld_small hg 74)
  obtain ⟨q86, hq86⟩ := parseI_some (fld_small hg 86)
  have hR : ∀ n, hold_Ref.f (fldM m n) = some (refB (fldM m n)) := fun n => hold_Ref_is _ (by have := fld_small hg n; omega)
  have hA : ∀ n, digit_All.f (fldM m n) = some (digitsB (fldM m n)) := fun n => digit_All_is _ (by have := fld_small hg n; omega)
  have ok : okT m 6 = (hasM m 7 && (hasM m 11 && (hasM m 3 && (hasM m 4 && (!decide (numM m 4 < 1) && (hasM m 32 && (acqB (fldM m 32) && (hasM m 37 && refB (fldM m 37))))))))) := rfl
  rw [ok]
  unfold trade_Read.f
  simp only [check_pack hg, hp, Option.bind_some, bne_self_eq_false, cond_false, mtiParse_is, hw, ha, hmt, get_fld hg]
  rw [hk] at hmt
  simp only [hk, show ((6 : Int) == 1) = false from rfl, show ((6 : Int) == 2) = false from rfl, show ((6 : Int) == 4) = false from rfl, show ((6 : Int) == 5) = false from rfl, show ((6 : Int) == 6) = true from rfl, show ((6 : Int) == 8) = false from rfl, cond_true, cond_false]
  cases h7 : hasM m 7
  · simp only [bT, hq4, hq74, hq86, tpan_is, tacq_is, hR, hA]
    rfl
  simp only [bT, hq4, hq74, hq86, tpan_is, tacq_is, hR, hA]
  cases h11 : hasM m 11
  · simp only [bT, hq4, hq74, hq86, tpan_is, tacq_is, hR, hA]
    rfl
  simp only [bT, hq4, hq74, hq86, tpan_is, tacq_is, hR, hA]
  cases h3 : hasM m 3
  · simp only [bT, hq4, hq74, hq86, tpan_is, tacq_is, hR, hA]
    rfl
  simp only [bT, hq4, hq74, hq86, tpan_is, tacq_is, hR, hA]
  cases h4 : hasM m 4
  · simp only [bT, hq4, hq74, hq86, tpan_is, tacq_is, hR, hA]
    rfl
  simp only [bT, hq4, hq74, hq86, tpan_is, tacq_is, hR, hA]
  obtain ⟨hd4, hp4, _⟩ := fnum hg hok h4 of4 (by omega)
  rw [hq4] at hp4
  injection hp4 with hp4
  subst hp4
  simp only [hd4, bT, hq4, hq74, hq86, tpan_is, tacq_is, hR, hA]
  cases hl4 : decide (numM m 4 < 1)
  rotate_left
  · simp only [bT, hq4, hq74, hq86, tpan_is, tacq_is, hR, hA]
    rfl
  simp only [bT, hq4, hq74, hq86, tpan_is, tacq_is, hR, hA]
  cases h32 : hasM m 32
  · simp only [bT, hq4, hq74, hq86, tpan_is, tacq_is, hR, hA]
    rfl
  simp only [bT, hq4, hq74, hq86, tpan_is, tacq_is, hR, hA]
  cases hc32 : acqB (fldM m 32)
  · simp only [bT, hq4, hq74, hq86, tpan_is, tacq_is, hR, hA]
    rfl
  simp only [bT, hq4, hq74, hq86, tpan_is, tacq_is, hR, hA]
  cases h37 : hasM m 37
  · simp only [bT, hq4, hq74, hq86, tpan_is, tacq_is, hR, hA]
    rfl
  simp only [bT, hq4, hq74, hq86, tpan_is, tacq_is, hR, hA]
  cases hc37 : refB (fldM m 37)
  · simp only [bT, hq4, hq74, hq86, tpan_is, tacq_is, hR, hA]
    rfl
  simp only [bT, hq4, hq74, hq86, tpan_is, tacq_is, hR, hA]
  rfl
theorem read_class8 {m : Msg} {i : Nat} (hg : goodM m) (hp : (packF m).2 = 0) (hw : whose m.1 = some i) (ha : (mAt i).2.2.1 = false) (hk : (mAt i).1 = 8) :
    trade_Read.f m = some (bif okT m 8 then (trT m (m.1.extract 0 3 ++ bs [48]) 8, 0) else (zT, 16)) := by
  obtain ⟨_, _, _, hok, _⟩ := packF_zero hp
  obtain ⟨e, hmt⟩ := first_of hw ha
  obtain ⟨q4, hq4⟩ := parseI_some (fld_small hg 4)
  obtain ⟨q74, hq74⟩ := parseI_some (fld_small hg 74)
  obtain ⟨q86, hq86⟩ := parseI_some (fld_small hg 86)
  have hR : ∀ n, hold_Ref.f (fldM m n) = some (refB (fldM m n)) := fun n => hold_Ref_is _ (by have := fld_small hg n; omega)
  have hA : ∀ n, digit_All.f (fldM m n) = some (digitsB (fldM m n)) := fun n => digit_All_is _ (by have := fld_small hg n; omega)
  have ok : okT m 8 = (hasM m 7 && (hasM m 11 && hasM m 70)) := rfl
  rw [ok]
  unfold trade_Read.f
  simp only [check_pack hg, hp, Option.bind_some, bne_self_eq_false, cond_false, mtiParse_is, hw, ha, hmt, get_fld hg]
  rw [hk] at hmt
  simp only [hk, show ((8 : Int) == 1) = false from rfl, show ((8 : Int) == 2) = false from rfl, show ((8 : Int) == 4) = false from rfl, show ((8 : Int) == 5) = false from rfl, show ((8 : Int) == 6) = false from rfl, show ((8 : Int) == 8) = true from rfl, cond_true, cond_false]
  cases h7 : hasM m 7
  · simp only [bT, hq4, hq74, hq86, tpan_is, tacq_is, hR, hA]
    rfl
  simp only [bT, hq4, hq74, hq86, tpan_is, tacq_is, hR, hA]
  cases h11 : hasM m 11
  · simp only [bT, hq4, hq74, hq86, tpan_is, tacq_is, hR, hA]
    rfl
  simp only [bT, hq4, hq74, hq86, tpan_is, tacq_is, hR, hA]
  cases h70 : hasM m 70
  · simp only [bT, hq4, hq74, hq86, tpan_is, tacq_is, hR, hA]
    rfl
  simp only [bT, hq4, hq74, hq86, tpan_is, tacq_is, hR, hA]
  rfl
theorem tradeRead_is {m : Msg} {i : Nat} (hg : goodM m) (hp : (packF m).2 = 0) (hw : whose m.1 = some i) (ha : (mAt i).2.2.1 = false) :
    trade_Read.f m = some (bif okT m (mAt i).1 then (trT m (m.1.extract 0 3 ++ bs [48]) (mAt i).1, 0) else (zT, 16)) := by
  rcases class_at i (whose_lt hw).1 with h | h | h | h | h | h <;> rw [h]
  · exact read_class1 hg hp hw ha h
  · exact read_class2 hg hp hw ha h
  · exact read_class4 hg hp hw ha h
  · exact read_class5 hg hp hw ha h
  · exact read_class6 hg hp hw ha h
  · exact read_class8 hg hp hw ha h
theorem tradeRead_answer {m : Msg} {i : Nat} (hg : goodM m) (hp : (packF m).2 = 0) (hw : whose m.1 = some i) (ha : (mAt i).2.2.1 = true) : trade_Read.f m = some (zT, 17) := by
  unfold trade_Read.f
  simp only [check_pack hg, hp, Option.bind_some, bne_self_eq_false, cond_false, mtiParse_is, hw, ha, cond_true]
  rfl
end Go.Proofs.YtpoiijkodpnobaaGreatDoor
end
section
set_option linter.unusedVariables false
set_option maxRecDepth 100000
namespace Go.Proofs.YtpoiijkodpnobaaGreatDoor
open Go Go.Fw
abbrev trade_Key.As : Shs := (.cons (.x T_api_Trade) .nil)
abbrev trade_Key.m : Back := [(false, .s)]
noncomputable abbrev trade_Key.H : HK := hk P G0 E0 J0 [trade_or.row] noLoops 4
theorem trade_Key.rows : TabOK P G0 (tabF [trade_or.row]) := rows_ok (ws := [trade_or.row]) ⟨trade_or.row_ok, trivial⟩
theorem trade_Key.hok : HKOK P trade_Key.H := hk_ok e0_ok j0_ok trade_Key.rows (fun g n => noLoops_ok g n) 4
noncomputable def trade_Key.f (a : (ByteArray × (ByteArray × (ByteArray × (Int × (ByteArray × (ByteArray × (ByteArray × (ByteArray × (ByteArray × (Int × (Int × ByteArray)))))))))))) : Option ByteArray := (bif (decide (((a.1.size : Int) < (2 : Int)))) then (some (bs [])) else (bif (true && (decide (((2 : Int) ≤ (a.1.size : Int))))) then (bif (Nat.ble ((ByteArray.extract a.1 1 2).size + a.2.2.2.2.2.1.size) 9223372036854775807) then (((trade_or.f (a.2.2.2.2.2.2.2.1, (12 : Int)))).bind fun x1 => (bif (Nat.ble (((ByteArray.extract a.1 1 2) ++ a.2.2.2.2.2.1).size + x1.size) 9223372036854775807) then (((trade_or.f (a.2.2.2.2.2.2.1, (6 : Int)))).bind fun x2 => (bif (Nat.ble ((((ByteArray.extract a.1 1 2) ++ a.2.2.2.2.2.1) ++ x1).size + x2.size) 9223372036854775807) then (bif (Nat.ble (((((ByteArray.extract a.1 1 2) ++ a.2.2.2.2.2.1) ++ x1) ++ x2).size + a.2.2.2.2.1.size) 9223372036854775807) then (some (((((ByteArray.extract a.1 1 2) ++ a.2.2.2.2.2.1) ++ x1) ++ x2) ++ a.2.2.2.2.1)) else none) else none)) else none)) else none) else none))
theorem trade_Key.ok : ∀ a : Vals trade_Key.As.tys, fnK P trade_Key.H (lp []) 11 trade_Key.As trade_Key.m a some = trade_Key.f a := fun a => by kernel_rfl
noncomputable abbrev trade_Key.row : Row := fnRow 11 trade_Key.As trade_Key.m trade_Key.f
theorem trade_Key.row_ok : RowOK P G0 trade_Key.row := row_told trade_Key.hok (lp_of (l := []) trivial) (fun _ => rfl) trade_Key.ok
abbrev bursarlaw20_awake.As : Shs := .nil
abbrev bursarlaw20_awake.m : Back := [(false, .b)]
noncomputable abbrev bursarlaw20_awake.H : HK := hk P G1 E0 J0 [trade_Read.row, trade_Key.row, trade_Text.row] noLoops 4
theorem bursarlaw20_awake.rows : TabOK P G1 (tabF [trade_Read.row, trade_Key.row, trade_Text.row]) := rows_ok (ws := [trade_Read.row, trade_Key.row, trade_Text.row]) ⟨trade_Read.row_ok, ⟨(trade_Key.row_ok.more g01), ⟨(trade_Text.row_ok.more g01), trivial⟩⟩⟩
theorem bursarlaw20_awake.hok : HKOK P bursarlaw20_awake.H := hk_ok e0_ok j0_ok bursarlaw20_awake.rows (fun g n => noLoops_ok g n) 4
noncomputable def bursarlaw20_awake.f (a : Unit) : Option Bool := (((trade_Read.f ((bs [48, 56, 48, 48]), [((7 : Int), (bs [48, 49, 48, 50, 48, 51, 48, 52, 48, 53])), ((11 : Int), (bs [48, 48, 48, 48, 48, 55])), ((70 : Int), (bs [51, 48, 49]))]))).bind fun x0 => (((trade_Read.f ((bs [48, 56, 49, 48]), [((7 : Int), (bs [48, 49, 48, 50, 48, 51, 48, 52, 48, 53])), ((11 : Int), (bs [48, 48, 48, 48, 48, 55])), ((70 : Int), (bs [51, 48, 49]))]))).bind fun x1 => (((trade_Text.f ((1 : Int), ((0 : Int), ((bs [52, 49, 49, 49, 49, 49, 49, 49, 49, 49, 49, 49, 49, 49, 49, 49]), ((bs []), ((bs []), (5 : Int)))))))).bind fun x2 => (((trade_Key.f x0.1)).bind fun x3 => (bif ((ByteArray.toList x3) == [(56 : UInt8), (48 : UInt8), (48 : UInt8), (48 : UInt8), (48 : UInt8), (48 : UInt8), (55 : UInt8), (48 : UInt8), (48 : UInt8), (48 : UInt8), (48 : UInt8), (48 : UInt8), (48 : UInt8), (48 : UInt8), (48 : UInt8), (48 : UInt8), (48 : UInt8), (48 : UInt8), (48 : UInt8), (48 : UInt8), (48 : UInt8), (48 : UInt8), (48 : UInt8), (48 : UInt8), (48 : UInt8), (48 : UInt8), (49 : UInt8), (48 : UInt8), (50 : UInt8), (48 : UInt8), (51 : UInt8), (48 : UInt8), (52 : UInt8), (48 : UInt8), (53 : UInt8)]) then (bif ((ByteArray.toList x0.1.2.2.2.2.2.2.2.2.2.2.2) == [(51 : UInt8), (48 : UInt8), (49 : UInt8)]) then (bif (x0.2 == (0 : Int)) then (bif (x1.2 == (17 : Int)) then (bif ((ByteArray.toList x2.1) == [(49 : UInt8), (48 : UInt8), (48 : UInt8), (48 : UInt8), (48 : UInt8), (48 : UInt8), (48 : UInt8), (48 : UInt8), (48 : UInt8), (48 : UInt8), (48 : UInt8), (52 : UInt8), (49 : UInt8), (49 : UInt8), (49 : UInt8), (49 : UInt8), (49 : UInt8), (49 : UInt8), (49 : UInt8), (49 : UInt8), (49 : UInt8), (49 : UInt8), (49 : UInt8), (49 : UInt8), (49 : UInt8), (49 : UInt8), (49 : UInt8), (48 : UInt8), (48 : UInt8), (48 : UInt8), (48 : UInt8), (48 : UInt8), (48 : UInt8), (48 : UInt8), (48 : UInt8), (48 : UInt8), (48 : UInt8), (48 : UInt8), (48 : UInt8), (48 : UInt8), (48 : UInt8), (48 : UInt8), (48 : UInt8), (48 : UInt8), (48 : UInt8), (48 : UInt8), (48 : UInt8), (48 : UInt8), (48 : UInt8), (48 : UInt8), (48 : UInt8), (48 : UInt8), (48 : UInt8), (48 : UInt8), (48 : UInt8), (48 : UInt8), (48 : UInt8), (48 : UInt8), (53 : UInt8)]) then (bif (x2.2 == (0 : Int)) then (some true) else (some false)) else (some false)) else (some false)) else (some false)) else (some false)) else (some false))))))
theorem bursarlaw20_awake.ok : ∀ a : Vals bursarlaw20_awake.As.tys, fnK P bursarlaw20_awake.H (lp []) 10 bursarlaw20_awake.As bursarlaw20_awake.m a some = bursarlaw20_awake.f a := fun a => by kernel_rfl
noncomputable abbrev bursarlaw20_awake.row : Row := fnRow 10 bursarlaw20_awake.As bursarlaw20_awake.m bursarlaw20_awake.f
theorem bursarlaw20_awake.row_ok : RowOK P G1 bursarlaw20_awake.row := row_told bursarlaw20_awake.hok (lp_of (l := []) trivial) (fun _ => rfl) bursarlaw20_awake.ok
end Go.Proofs.YtpoiijkodpnobaaGreatDoor
end
section
set_option linter.unusedVariables false
set_option linter.unusedSimpArgs false
set_option maxHeartbeats 1000000
set_option maxRecDepth 10000
namespace Go.Proofs.YtpoiijkodpnobaaGreatDoor
open Go Go.Fw
def keyL (t : Tr) : List UInt8 := (t.1.extract 1 2).data.toList ++ t.2.2.2.2.2.1.data.toList ++ orL t.2.2.2.2.2.2.2.1 12 ++ orL t.2.2.2.2.2.2.1 6 ++ t.2.2.2.2.1.data.toList
def keyT (t : Tr) : Prop := 2 ≤ t.1.size ∧ t.2.2.2.2.2.1.size ≤ 1001 ∧ t.2.2.2.2.2.2.2.1.size ≤ 1001 ∧ t.2.2.2.2.2.2.1.size ≤ 1001 ∧ t.2.2.2.2.1.size ≤ 1001
theorem orL_1001 {s : ByteArray} {w : Nat} (hs : s.size ≤ 1001) (hw : w ≤ 1001) : (orL s w).length ≤ 1001 := by
  unfold orL
  by_cases h : s = bs []
  · rw [decide_eq_true h, cond_true, List.length_replicate]; exact hw
  · rw [decide_eq_false h, cond_false]; exact hs
theorem ble_big {n : Nat} (h : n ≤ 100000) : Nat.ble n 9223372036854775807 = true := Nat.ble_eq_true_of_le (by omega)
theorem tradeKey_is {t : Tr} (h : keyT t) : trade_Key.f t = some (bs (keyL t)) := by
  obtain ⟨a, p, c, n, sent, stan, acq, rrn, rest⟩ := t
  obtain ⟨h1, h2, h3, h4, h5⟩ := h
  have h1 : 2 ≤ a.size := h1
  have h2 : stan.size ≤ 1001 := h2
  have h3 : rrn.size ≤ 1001 := h3
  have h4 : acq.size ≤ 1001 := h4
  have h5 : sent.size ≤ 1001 := h5
  have o1 : trade_or.f (rrn, (12 : Int)) = some (bs (orL rrn 12)) := or_is (s := rrn) (w := 12) (by omega)
  have o2 : trade_or.f (acq, (6 : Int)) = some (bs (orL acq 6)) := or_is (s := acq) (w := 6) (by omega)
  have l1 := orL_1001 (w := 12) h3 (by omega)
  have l2 := orL_1001 (w := 6) h4 (by omega)
  have lx : (a.extract 1 2).size ≤ 1 := by rw [ByteArray.size_extract]; omega
  obtain ⟨X, hX⟩ : ∃ X, a.extract 1 2 = bs X := ⟨_, eq_bs _⟩
  obtain ⟨S, rfl⟩ : ∃ S, stan = bs S := ⟨_, eq_bs _⟩
  obtain ⟨E, rfl⟩ : ∃ E, sent = bs E := ⟨_, eq_bs _⟩
  unfold trade_Key.f keyL
  rw [bs_size] at h2 h5
  rw [hX, bs_size] at lx
  simp only [decide_eq_false (show ¬ (a.size : Int) < 2 by omega), decide_eq_true (show (2 : Int) ≤ (a.size : Int) by omega), Bool.and_self, cond_true, cond_false, o1, o2, Option.bind_some, hX, bs_append, bs_size, bs_list, List.length_append]
  rw [ble_big (by omega), cond_true, ble_big (by omega), cond_true, ble_big (by omega), cond_true, ble_big (by omega), cond_true]
theorem pk_ok {n k v l : Int} {s : List UInt8} (hR : bursarref16_Of.f n = some (k, v, l)) (hm : mayF k v l s = true) (hs : s.length ≤ 999) : (pkE (n, bs s)).2 = 0 := by
  obtain ⟨k', v', l', hR', hO, hk⟩ := of_is n
  have e := hR'.symm.trans hR
  injection e with e
  injection e with e1 e
  injection e with e2 e3
  subst e1 e2 e3
  unfold pkE
  rw [pack_is hO hk (by omega), hm]
  have h0 : ¬ k' = 0 := fun h => by rw [h] at hm; simp [mayF] at hm
  rw [decide_eq_false h0]
  rfl
theorem packF_ok {m : Msg} {i : Nat} (hg : goodM m) (hw : whose m.1 = some i) (hm : mayL (m.2.map (·.1)) = true) (ho : okP m.2 = true) (hl : m.2.length ≤ 3) : (packF m).2 = 0 := by
  have h1 : (headM m.2).length ≤ 16 := by rw [headM_len]; cases wide (m.2.map (·.1)) <;> simp
  have h2 := bodyM_len hg.2
  have h3 : ¬ 4000 < 4 + (headM m.2).length + (bodyM m.2).length := by omega
  unfold packF
  rw [hw]
  simp only [hm, ho, Bool.and_self, cond_true, decide_eq_false h3, cond_false]
def awL : List Fld := [((7 : Int), bs [48, 49, 48, 50, 48, 51, 48, 52, 48, 53]), ((11 : Int), bs [48, 48, 48, 48, 48, 55]), ((70 : Int), bs [51, 48, 49])]
theorem awL_good (t : ByteArray) : goodM (t, awL) := ⟨(by decide : awL.length ≤ 130), fun f hf => by
  rcases List.mem_cons.1 hf with rfl | hf
  · simp [bs_size]
  · rcases List.mem_cons.1 hf with rfl | hf
    · simp [bs_size]
    · rcases List.mem_cons.1 hf with rfl | hf
      · simp [bs_size]
      · cases hf⟩
theorem awL_ok : okP awL = true := by
  have h1 := pk_ok (s := [48, 49, 48, 50, 48, 51, 48, 52, 48, 53]) of7 (by decide +kernel) (by decide)
  have h2 := pk_ok (s := [48, 48, 48, 48, 48, 55]) of11 (by decide +kernel) (by decide)
  have h3 := pk_ok (n := 70) (s := [51, 48, 49]) aw19c (by decide +kernel) (by decide)
  show ((pkE (7, bs [48, 49, 48, 50, 48, 51, 48, 52, 48, 53])).2 == 0 && ((pkE (11, bs [48, 48, 48, 48, 48, 55])).2 == 0 && ((pkE (70, bs [51, 48, 49])).2 == 0 && true))) = true
  rw [h1, h2, h3]; rfl
theorem awL_may : mayL (awL.map (·.1)) = true := by kernel_rfl
theorem awW1 : whose (bs [48, 56, 48, 48]) = some 27 := by decide +kernel
theorem awW2 : whose (bs [48, 56, 49, 48]) = some 29 := by decide +kernel
theorem awRead1 : trade_Read.f (bs [48, 56, 48, 48], awL) = some ((bs [48, 56, 48, 48], bs [], bs [], 0, bs [48, 49, 48, 50, 48, 51, 48, 52, 48, 53], bs [48, 48, 48, 48, 48, 55], bs [], bs [], bs [], 0, 0, bs [51, 48, 49]), 0) := by
  have hg := awL_good (bs [48, 56, 48, 48])
  have hp := packF_ok hg awW1 awL_may awL_ok (by decide)
  have := tradeRead_is hg hp awW1 (by decide)
  rw [this]
  have hk : (mAt 27).1 = 8 := by decide
  have ho : okT (bs [48, 56, 48, 48], awL) 8 = true := by kernel_rfl
  have ht : trT (bs [48, 56, 48, 48], awL) ((bs [48, 56, 48, 48]).extract 0 3 ++ bs [48]) 8 = (bs [48, 56, 48, 48], bs [], bs [], 0, bs [48, 49, 48, 50, 48, 51, 48, 52, 48, 53], bs [48, 48, 48, 48, 48, 55], bs [], bs [], bs [], 0, 0, bs [51, 48, 49]) := by
    rw [bs_extract, bs_append]
    kernel_rfl
  rw [hk, ho, ht]
  rfl
theorem awRead2 : trade_Read.f (bs [48, 56, 49, 48], awL) = some (zT, 17) := by
  have hg := awL_good (bs [48, 56, 49, 48])
  have hp := packF_ok hg awW2 awL_may awL_ok (by decide)
  exact tradeRead_answer hg hp awW2 (by decide)
def awP1 : Po := (1, 0, bs [52, 49, 49, 49, 49, 49, 49, 49, 49, 49, 49, 49, 49, 49, 49, 49], bs [], bs [], 5)
theorem awP1_may : mayP awP1 = true := by decide +kernel
theorem awP1_txt : txtP awP1 = [49, 48, 48, 48, 48, 48, 48, 48, 48, 48, 48, 52, 49, 49, 49, 49, 49, 49, 49, 49, 49, 49, 49, 49, 49, 49, 49, 48, 48, 48, 48, 48, 48, 48, 48, 48, 48, 48, 48, 48, 48, 48, 48, 48, 48, 48, 48, 48, 48, 48, 48, 48, 48, 48, 48, 48, 48, 48, 53] := by decide +kernel
theorem awake20 : bursarlaw20_awake.f () = some true := by
  have h1 := awRead1
  have h2 := awRead2
  have h3 := tradeText_is (mayP_small awP1_may)
  rw [awP1_may, awP1_txt] at h3
  unfold awL at h1 h2
  unfold awP1 at h3
  have h4 := tradeKey_is (t := (bs [48, 56, 48, 48], bs [], bs [], 0, bs [48, 49, 48, 50, 48, 51, 48, 52, 48, 53], bs [48, 48, 48, 48, 48, 55], bs [], bs [], bs [], 0, 0, bs [51, 48, 49])) ⟨by decide, by decide, by decide, by decide, by decide⟩
  have h5 : keyL (bs [48, 56, 48, 48], bs [], bs [], 0, bs [48, 49, 48, 50, 48, 51, 48, 52, 48, 53], bs [48, 48, 48, 48, 48, 55], bs [], bs [], bs [], 0, 0, bs [51, 48, 49]) = [56, 48, 48, 48, 48, 48, 55, 48, 48, 48, 48, 48, 48, 48, 48, 48, 48, 48, 48, 48, 48, 48, 48, 48, 48, 48, 49, 48, 50, 48, 51, 48, 52, 48, 53] := by
    unfold keyL
    simp only [bs_extract, bs_list, orL_nil]
    rfl
  rw [h5] at h4
  unfold bursarlaw20_awake.f
  simp only [h1, h2, h3, h4, Option.bind_some, texts_list, decide_true, cond_true, BEq.rfl]
end Go.Proofs.YtpoiijkodpnobaaGreatDoor
end
section
set_option linter.unusedVariables false
set_option maxRecDepth 100000
namespace Go.Proofs.YtpoiijkodpnobaaGreatDoor
open Go Go.Fw
abbrev bursarlaw20_TradePosts.As : Shs := (.cons (.x T_api_Post) (.cons (.x .s) .nil))
abbrev bursarlaw20_TradePosts.m : Back := [(false, .b)]
noncomputable abbrev bursarlaw20_TradePosts.H : HK := hk P G1 E0 J0 [bursarlaw20_awake.row, bursarlaw20_few.row, trade_Parse.row, bursarref20_Parse.row, trade_May.row, bursarref20_May.row, trade_Entry.row, trade_Text.row, bursarref12_Same.row, bursarref20_Entry.row, bursarref12_Check.row, bursarref20_Text.row] noLoops 4
theorem bursarlaw20_TradePosts.rows : TabOK P G1 (tabF [bursarlaw20_awake.row, bursarlaw20_few.row, trade_Parse.row, bursarref20_Parse.row, trade_May.row, bursarref20_May.row, trade_Entry.row, trade_Text.row, bursarref12_Same.row, bursarref20_Entry.row, bursarref12_Check.row, bursarref20_Text.row]) := rows_ok (ws := [bursarlaw20_awake.row, bursarlaw20_few.row, trade_Parse.row, bursarref20_Parse.row, trade_May.row, bursarref20_May.row, trade_Entry.row, trade_Text.row, bursarref12_Same.row, bursarref20_Entry.row, bursarref12_Check.row, bursarref20_Text.row]) ⟨bursarlaw20_awake.row_ok, ⟨(bursarlaw20_few.row_ok.more g01), ⟨trade_Parse.row_ok, ⟨(bursarref20_Parse.row_ok.more g01), ⟨(trade_May.row_ok.more g01), ⟨(bursarref20_May.row_ok.more g01), ⟨(trade_Entry.row_ok.more g01), ⟨(trade_Text.row_ok.more g01), ⟨(bursarref12_Same.row_ok.more g01), ⟨(bursarref20_Entry.row_ok.more g01), ⟨(bursarref12_Check.row_ok.more g01), ⟨(bursarref20_Text.row_ok.more g01), trivial⟩⟩⟩⟩⟩⟩⟩⟩⟩⟩⟩⟩
theorem bursarlaw20_TradePosts.hok : HKOK P bursarlaw20_TradePosts.H := hk_ok e0_ok j0_ok bursarlaw20_TradePosts.rows (fun g n => noLoops_ok g n) 4
noncomputable def bursarlaw20_TradePosts.f (a : ((Int × (Int × (ByteArray × (ByteArray × (ByteArray × Int))))) × ByteArray)) : Option Bool := (((bursarlaw20_few.f a.1)).bind fun x2 => (bif (decide (((a.2.size : Int) > (70 : Int)))) then (bif (true && (decide (((70 : Int) ≤ (a.2.size : Int))))) then (((trade_Parse.f (ByteArray.extract a.2 0 70))).bind fun x3 => (((bursarref20_Parse.f (ByteArray.extract a.2 0 70))).bind fun x4 => (bif (!((x3.1.1 == x4.1.1) && ((x3.1.2.1 == x4.1.2.1) && (((ByteArray.toList x3.1.2.2.1) == (ByteArray.toList x4.1.2.2.1)) && (((ByteArray.toList x3.1.2.2.2.1) == (ByteArray.toList x4.1.2.2.2.1)) && (((ByteArray.toList x3.1.2.2.2.2.1) == (ByteArray.toList x4.1.2.2.2.2.1)) && ((x3.1.2.2.2.2.2 == x4.1.2.2.2.2.2) && true))))))) then (some false) else (bif (!((x3.2 == (0 : Int)) == x4.2)) then (some false) else (bif (!x4.2) then (bif (x3.2 != (4 : Int)) then (some false) else (((trade_May.f x2)).bind fun x5 => (((bursarref20_May.f x2)).bind fun x6 => (bif (!(x5 == x6)) then (some false) else (((trade_Entry.f x2)).bind fun x7 => (((trade_Text.f x2)).bind fun x8 => (((bursarref20_May.f x2)).bind fun x9 => (bif (!x9) then (bif (((List.length x7.1.2.2) : Int) == (0 : Int)) then (bif (x7.2 == (1 : Int)) then (bif ((ByteArray.toList x8.1) == []) then (bif (x8.2 == (1 : Int)) then (((bursarlaw20_awake.f ())).bind fun x10 => (some x10)) else (some false)) else (some false)) else (some false)) else (some false)) else (((trade_Parse.f x8.1)).bind fun x10 => (((bursarref20_Entry.f x2)).bind fun x11 => (((bursarref12_Same.f (x7.1, x11))).bind fun x12 => (bif x12 then (((bursarref12_Check.f x7.1)).bind fun x13 => (bif (x13 == (0 : Int)) then (bif (x7.2 == (0 : Int)) then (((bursarref20_Text.f x2)).bind fun x14 => (bif ((ByteArray.toList x8.1) == (ByteArray.toList x14)) then (bif (x8.2 == (0 : Int)) then (bif ((x10.1.1 == x2.1) && ((x10.1.2.1 == x2.2.1) && (((ByteArray.toList x10.1.2.2.1) == (ByteArray.toList x2.2.2.1)) && (((ByteArray.toList x10.1.2.2.2.1) == (ByteArray.toList x2.2.2.2.1)) && (((ByteArray.toList x10.1.2.2.2.2.1) == (ByteArray.toList x2.2.2.2.2.1)) && ((x10.1.2.2.2.2.2 == x2.2.2.2.2.2) && true)))))) then (bif (x10.2 == (0 : Int)) then (((bursarlaw20_awake.f ())).bind fun x15 => (some x15)) else (some false)) else (some false)) else (some false)) else (some false))) else (some false)) else (some false))) else (some false))))))))))))) else (((trade_May.f x2)).bind fun x5 => (((bursarref20_May.f x2)).bind fun x6 => (bif (!(x5 == x6)) then (some false) else (((trade_Entry.f x2)).bind fun x7 => (((trade_Text.f x2)).bind fun x8 => (((bursarref20_May.f x2)).bind fun x9 => (bif (!x9) then (bif (((List.length x7.1.2.2) : Int) == (0 : Int)) then (bif (x7.2 == (1 : Int)) then (bif ((ByteArray.toList x8.1) == []) then (bif (x8.2 == (1 : Int)) then (((bursarlaw20_awake.f ())).bind fun x10 => (some x10)) else (some false)) else (some false)) else (some false)) else (some false)) else (((trade_Parse.f x8.1)).bind fun x10 => (((bursarref20_Entry.f x2)).bind fun x11 => (((bursarref12_Same.f (x7.1, x11))).bind fun x12 => (bif x12 then (((bursarref12_Check.f x7.1)).bind fun x13 => (bif (x13 == (0 : Int)) then (bif (x7.2 == (0 : Int)) then (((bursarref20_Text.f x2)).bind fun x14 => (bif ((ByteArray.toList x8.1) == (ByteArray.toList x14)) then (bif (x8.2 == (0 : Int)) then (bif ((x10.1.1 == x2.1) && ((x10.1.2.1 == x2.2.1) && (((ByteArray.toList x10.1.2.2.1) == (ByteArray.toList x2.2.2.1)) && (((ByteArray.toList x10.1.2.2.2.1) == (ByteArray.toList x2.2.2.2.1)) && (((ByteArray.toList x10.1.2.2.2.2.1) == (ByteArray.toList x2.2.2.2.2.1)) && ((x10.1.2.2.2.2.2 == x2.2.2.2.2.2) && true)))))) then (bif (x10.2 == (0 : Int)) then (((bursarlaw20_awake.f ())).bind fun x15 => (some x15)) else (some false)) else (some false)) else (some false)) else (some false))) else (some false)) else (some false))) else (some false))))))))))))))))) else none) else (((trade_Parse.f a.2)).bind fun x3 => (((bursarref20_Parse.f a.2)).bind fun x4 => (bif (!((x3.1.1 == x4.1.1) && ((x3.1.2.1 == x4.1.2.1) && (((ByteArray.toList x3.1.2.2.1) == (ByteArray.toList x4.1.2.2.1)) && (((ByteArray.toList x3.1.2.2.2.1) == (ByteArray.toList x4.1.2.2.2.1)) && (((ByteArray.toList x3.1.2.2.2.2.1) == (ByteArray.toList x4.1.2.2.2.2.1)) && ((x3.1.2.2.2.2.2 == x4.1.2.2.2.2.2) && true))))))) then (some false) else (bif (!((x3.2 == (0 : Int)) == x4.2)) then (some false) else (bif (!x4.2) then (bif (x3.2 != (4 : Int)) then (some false) else (((trade_May.f x2)).bind fun x5 => (((bursarref20_May.f x2)).bind fun x6 => (bif (!(x5 == x6)) then (some false) else (((trade_Entry.f x2)).bind fun x7 => (((trade_Text.f x2)).bind fun x8 => (((bursarref20_May.f x2)).bind fun x9 => (bif (!x9) then (bif (((List.length x7.1.2.2) : Int) == (0 : Int)) then (bif (x7.2 == (1 : Int)) then (bif ((ByteArray.toList x8.1) == []) then (bif (x8.2 == (1 : Int)) then (((bursarlaw20_awake.f ())).bind fun x10 => (some x10)) else (some false)) else (some false)) else (some false)) else (some false)) else (((trade_Parse.f x8.1)).bind fun x10 => (((bursarref20_Entry.f x2)).bind fun x11 => (((bursarref12_Same.f (x7.1, x11))).bind fun x12 => (bif x12 then (((bursarref12_Check.f x7.1)).bind fun x13 => (bif (x13 == (0 : Int)) then (bif (x7.2 == (0 : Int)) then (((bursarref20_Text.f x2)).bind fun x14 => (bif ((ByteArray.toList x8.1) == (ByteArray.toList x14)) then (bif (x8.2 == (0 : Int)) then (bif ((x10.1.1 == x2.1) && ((x10.1.2.1 == x2.2.1) && (((ByteArray.toList x10.1.2.2.1) == (ByteArray.toList x2.2.2.1)) && (((ByteArray.toList x10.1.2.2.2.1) == (ByteArray.toList x2.2.2.2.1)) && (((ByteArray.toList x10.1.2.2.2.2.1) == (ByteArray.toList x2.2.2.2.2.1)) && ((x10.1.2.2.2.2.2 == x2.2.2.2.2.2) && true)))))) then (bif (x10.2 == (0 : Int)) then (((bursarlaw20_awake.f ())).bind fun x15 => (some x15)) else (some false)) else (some false)) else (some false)) else (some false))) else (some false)) else (some false))) else (some false))))))))))))) else (((trade_May.f x2)).bind fun x5 => (((bursarref20_May.f x2)).bind fun x6 => (bif (!(x5 == x6)) then (some false) else (((trade_Entry.f x2)).bind fun x7 => (((trade_Text.f x2)).bind fun x8 => (((bursarref20_May.f x2)).bind fun x9 => (bif (!x9) then (bif (((List.length x7.1.2.2) : Int) == (0 : Int)) then (bif (x7.2 == (1 : Int)) then (bif ((ByteArray.toList x8.1) == []) then (bif (x8.2 == (1 : Int)) then (((bursarlaw20_awake.f ())).bind fun x10 => (some x10)) else (some false)) else (some false)) else (some false)) else (some false)) else (((trade_Parse.f x8.1)).bind fun x10 => (((bursarref20_Entry.f x2)).bind fun x11 => (((bursarref12_Same.f (x7.1, x11))).bind fun x12 => (bif x12 then (((bursarref12_Check.f x7.1)).bind fun x13 => (bif (x13 == (0 : Int)) then (bif (x7.2 == (0 : Int)) then (((bursarref20_Text.f x2)).bind fun x14 => (bif ((ByteArray.toList x8.1) == (ByteArray.toList x14)) then (bif (x8.2 == (0 : Int)) then (bif ((x10.1.1 == x2.1) && ((x10.1.2.1 == x2.2.1) && (((ByteArray.toList x10.1.2.2.1) == (ByteArray.toList x2.2.2.1)) && (((ByteArray.toList x10.1.2.2.2.1) == (ByteArray.toList x2.2.2.2.1)) && (((ByteArray.toList x10.1.2.2.2.2.1) == (ByteArray.toList x2.2.2.2.2.1)) && ((x10.1.2.2.2.2.2 == x2.2.2.2.2.2) && true)))))) then (bif (x10.2 == (0 : Int)) then (((bursarlaw20_awake.f ())).bind fun x15 => (some x15)) else (some false)) else (some false)) else (some false)) else (some false))) else (some false)) else (some false))) else (some false)))))))))))))))))))
theorem bursarlaw20_TradePosts.ok : ∀ a : Vals bursarlaw20_TradePosts.As.tys, fnK P bursarlaw20_TradePosts.H (lp []) 5 bursarlaw20_TradePosts.As bursarlaw20_TradePosts.m a some = bursarlaw20_TradePosts.f a := fun a => by kernel_rfl
noncomputable abbrev bursarlaw20_TradePosts.row : Row := fnRow 5 bursarlaw20_TradePosts.As bursarlaw20_TradePosts.m bursarlaw20_TradePosts.f
theorem bursarlaw20_TradePosts.row_ok : RowOK P G1 bursarlaw20_TradePosts.row := row_told bursarlaw20_TradePosts.hok (lp_of (l := []) trivial) (fun _ => rfl) bursarlaw20_TradePosts.ok
end Go.Proofs.YtpoiijkodpnobaaGreatDoor
end
section
set_option linter.unusedVariables false
set_option linter.unusedSimpArgs false
set_option maxHeartbeats 1000000
set_option maxRecDepth 10000
namespace Go.Proofs.YtpoiijkodpnobaaGreatDoor
open Go Go.Fw
theorem few20_is (p : Po) : ∃ q, bursarlaw20_few.f p = some q ∧ smallP q := by
  obtain ⟨k, b, x, y, z, n⟩ := p
  unfold bursarlaw20_few.f
  have cx := cut_small (s := x) (n := 20)
  have cy := cut_small (s := y) (n := 20)
  have cz := cut_small (s := z) (n := 20)
  by_cases hx : (x.size : Int) > 20
  · have ex : decide ((20 : Int) ≤ (x.size : Int)) = true := decide_eq_true (by omega)
    by_cases hy : (y.size : Int) > 20
    · have ey : decide ((20 : Int) ≤ (y.size : Int)) = true := decide_eq_true (by omega)
      by_cases hz : (z.size : Int) > 20
      · have ez : decide ((20 : Int) ≤ (z.size : Int)) = true := decide_eq_true (by omega)
        simp only [decide_eq_true hx, decide_eq_true hy, decide_eq_true hz, ex, ey, ez, Bool.and_self, cond_true]
        exact ⟨_, rfl, cx, cy, cz⟩
      · simp only [decide_eq_true hx, decide_eq_true hy, decide_eq_false hz, ex, ey, Bool.and_self, cond_true, cond_false]
        exact ⟨_, rfl, cx, cy, by show z.size ≤ 20; omega⟩
    · by_cases hz : (z.size : Int) > 20
      · have ez : decide ((20 : Int) ≤ (z.size : Int)) = true := decide_eq_true (by omega)
        simp only [decide_eq_true hx, decide_eq_false hy, decide_eq_true hz, ex, ez, Bool.and_self, cond_true, cond_false]
        exact ⟨_, rfl, cx, by show y.size ≤ 20; omega, cz⟩
      · simp only [decide_eq_true hx, decide_eq_false hy, decide_eq_false hz, ex, Bool.and_self, cond_true, cond_false]
        exact ⟨_, rfl, cx, by show y.size ≤ 20; omega, by show z.size ≤ 20; omega⟩
  · by_cases hy : (y.size : Int) > 20
    · have ey : decide ((20 : Int) ≤ (y.size : Int)) = true := decide_eq_true (by omega)
      by_cases hz : (z.size : Int) > 20
      · have ez : decide ((20 : Int) ≤ (z.size : Int)) = true := decide_eq_true (by omega)
        simp only [decide_eq_false hx, decide_eq_true hy, decide_eq_true hz, ey, ez, Bool.and_self, cond_true, cond_false]
        exact ⟨_, rfl, by show x.size ≤ 20; omega, cy, cz⟩
      · simp only [decide_eq_false hx, decide_eq_true hy, decide_eq_false hz, ey, Bool.and_self, cond_true, cond_false]
        exact ⟨_, rfl, by show x.size ≤ 20; omega, cy, by show z.size ≤ 20; omega⟩
    · by_cases hz : (z.size : Int) > 20
      · have ez : decide ((20 : Int) ≤ (z.size : Int)) = true := decide_eq_true (by omega)
        simp only [decide_eq_false hx, decide_eq_false hy, decide_eq_true hz, ez, Bool.and_self, cond_true, cond_false]
        exact ⟨_, rfl, by show x.size ≤ 20; omega, by show y.size ≤ 20; omega, cz⟩
      · simp only [decide_eq_false hx, decide_eq_false hy, decide_eq_false hz, cond_false]
        exact ⟨_, rfl, by show x.size ≤ 20; omega, by show y.size ≤ 20; omega, by show z.size ≤ 20; omega⟩
theorem entP_good {p : Po} (hs : smallP p) (h : mayP p = true) : goodL (entP p).2.2 := by
  have hn := (mayP_num h).2
  have a1 : Am p.2.2.2.2.2 := by unfold Am; omega
  have a2 : Am (0 - p.2.2.2.2.2) := by unfold Am; omega
  have s0 : (bs []).size ≤ 20 := by decide
  obtain ⟨s1, s2, s3⟩ := hs
  unfold entP sidesP
  rcases mayP_kind h with hk | hk | hk | hk | hk | hk <;> rw [hk]
  · exact goodL_two (k1 := 3) (k2 := 1) (by decide) (by decide) s0 s1 a2 a1
  · exact goodL_two (k1 := 1) (k2 := 2) (by decide) (by decide) s1 s2 a2 a1
  · exact goodL_two (k1 := 2) (k2 := 1) (by decide) (by decide) s2 s1 a2 a1
  · exact goodL_two (k1 := 1) (k2 := 2) (by decide) (by decide) s1 s2 a2 a1
  · exact goodL_two (k1 := 2) (k2 := 3) (by decide) (by decide) s2 s0 a2 a1
  · exact goodL_two (k1 := 3) (k2 := 2) (by decide) (by decide) s0 s2 a2 a1
theorem TradePosts_is (a : Po × ByteArray) : bursarlaw20_TradePosts.f a = some true := by
  obtain ⟨p0, s⟩ := a
  obtain ⟨p, hf, hs⟩ := few20_is p0
  have hmay := tradeMay_is (p := p) (by have := hs.2.2; omega)
  have hrm := refTMay_is (p := p) (by have := hs.2.1; omega)
  have hent := tradeEntry_is hs
  have htxt := tradeText_is hs
  unfold bursarlaw20_TradePosts.f
  simp only [hf, Option.bind_some, hmay, hrm, hent, htxt, awake20]
  cases hm : mayP p
  · have rest : ∀ u : ByteArray, (∃ q, mayP q = true ∧ trade_Parse.f u = some (q, 0) ∧ bursarref20_Parse.f u = some (q, true)) ∨ (trade_Parse.f u = some (zP, 4) ∧ bursarref20_Parse.f u = some (zP, false)) := both_parse
    by_cases h70 : (s.size : Int) > 70
    · simp only [decide_eq_true h70, decide_eq_true (show (70 : Int) ≤ (s.size : Int) by omega), Bool.and_self, cond_true]
      rcases rest (s.extract 0 70) with ⟨q, _, h1, h2⟩ | ⟨h1, h2⟩ <;> simp only [h1, h2, Option.bind_some, BEq.rfl, Bool.and_self, Bool.not_true, Bool.not_false, cond_true, cond_false, texts_nil, decide_true] <;> rfl
    · simp only [decide_eq_false h70, cond_false]
      rcases rest s with ⟨q, _, h1, h2⟩ | ⟨h1, h2⟩ <;> simp only [h1, h2, Option.bind_some, BEq.rfl, Bool.and_self, Bool.not_true, Bool.not_false, cond_true, cond_false, texts_nil, decide_true] <;> rfl
  · have hg := entP_good hs hm
    have hb := back_is hm
    have hre := refTEntry_is hm
    have hrt := refTText_is hs hm
    have hsame := same12_is (entP p) (entP p) (by show (2 : Nat) ≤ 1000; decide)
    rw [decide_eq_true rfl] at hsame
    have hchk := refCheck_is (x := entP p) hg
    rw [check_entP hm] at hchk
    by_cases h70 : (s.size : Int) > 70
    · simp only [decide_eq_true h70, decide_eq_true (show (70 : Int) ≤ (s.size : Int) by omega), Bool.and_self, cond_true]
      rcases both_parse (s.extract 0 70) with ⟨q, _, h1, h2⟩ | ⟨h1, h2⟩ <;> simp only [h1, h2, hb, hre, hrt, hsame, hchk, Option.bind_some, BEq.rfl, Bool.and_self, Bool.not_true, Bool.not_false, cond_true, cond_false] <;> rfl
    · simp only [decide_eq_false h70, cond_false]
      rcases both_parse s with ⟨q, _, h1, h2⟩ | ⟨h1, h2⟩ <;> simp only [h1, h2, hb, hre, hrt, hsame, hchk, Option.bind_some, BEq.rfl, Bool.and_self, Bool.not_true, Bool.not_false, cond_true, cond_false] <;> rfl
end Go.Proofs.YtpoiijkodpnobaaGreatDoor
end
section
set_option linter.unusedVariables false
set_option linter.unusedSimpArgs false
namespace Go.Proofs.YtpoiijkodpnobaaGreatDoor.tradePosts
open Go Go.Fw Go.ChangeShapes Go.WideShapes Go.ChangeAt Go.RowKit
theorem own : ownKnob Tryz.prog.godebug = none := by kernel_rfl
theorem laidOut : laidOutB Tryz.prog = true := by kernel_rfl
set_option maxRecDepth 100000 in
theorem told {W : World} (h : laidMetH Tryz.prog Rows.tradePostsRow.laid W) : Glob ⟨W, fun b => b < W.heap.size, fun _ => False, fun _ => 0, fun _ => 0, G1⟩ := by
  rw [MakeChecks.laidMetH_plain _ _ _ (by kernel_rfl)] at h
  have f4 := globAt_tab (P := Tryz.prog) (g := 4) (k := .u64) (zs := [1, 10, 100, 1000, 10000, 100000, 1000000, 10000000, 100000000, 1000000000, 10000000000, 100000000000, 1000000000000, 10000000000000, 100000000000000, 1000000000000000, 10000000000000000, 100000000000000000, 1000000000000000000, 10000000000000000000]) (by kernel_rfl) (Lib.tabIs_of_head (g := 4) (by kernel_rfl) (by kernel_rfl) Tryz.underlying237 Tryz.underlying95 (by kernel_rfl) (by kernel_rfl) (laidMet.tail (laidMet.tail h)))
  have f3 := globAt_err (P := Tryz.prog) (g := 3) (by kernel_rfl) (laid_err (g := 3) (laidMet.tail (laidMet.tail (laidMet.tail (laidMet.tail h)))) (by kernel_rfl) (by kernel_rfl) Tryz.underlying141)
  have f2 := globAt_err (P := Tryz.prog) (g := 2) (by kernel_rfl) (laid_err (g := 2) (laidMet.tail (laidMet.tail (laidMet.tail (laidMet.tail (laidMet.tail h))))) (by kernel_rfl) (by kernel_rfl) Tryz.underlying141)
  have f8 := globAt_tab (P := Tryz.prog) (g := 8) (k := .u8) (zs := [0, 0, 0, 0, 0, 0, 0, 0, 0, 1, 1, 1, 1, 1, 0, 0, 0, 0, 0, 0, 0, 0, 0, 0, 0, 0, 0, 0, 0, 0, 0, 0, 1, 0, 0, 0, 0, 0, 0, 0, 0, 0, 0, 0, 0, 0, 0, 0, 0, 0, 0, 0, 0, 0, 0, 0, 0, 0, 0, 0, 0, 0, 0, 0, 0, 0, 0, 0, 0, 0, 0, 0, 0, 0, 0, 0, 0, 0, 0, 0, 0, 0, 0, 0, 0, 0, 0, 0, 0, 0, 0, 0, 0, 0, 0, 0, 0, 0, 0, 0, 0, 0, 0, 0, 0, 0, 0, 0, 0, 0, 0, 0, 0, 0, 0, 0, 0, 0, 0, 0, 0, 0, 0, 0, 0, 0, 0, 0, 0, 0, 0, 0, 0, 0, 0, 0, 0, 0, 0, 0, 0, 0, 0, 0, 0, 0, 0, 0, 0, 0, 0, 0, 0, 0, 0, 0, 0, 0, 0, 0, 0, 0, 0, 0, 0, 0, 0, 0, 0, 0, 0, 0, 0, 0, 0, 0, 0, 0, 0, 0, 0, 0, 0, 0, 0, 0, 0, 0, 0, 0, 0, 0, 0, 0, 0, 0, 0, 0, 0, 0, 0, 0, 0, 0, 0, 0, 0, 0, 0, 0, 0, 0, 0, 0, 0, 0, 0, 0, 0, 0, 0, 0, 0, 0, 0, 0, 0, 0, 0, 0, 0, 0, 0, 0, 0, 0, 0, 0, 0, 0, 0, 0, 0, 0, 0, 0, 0, 0, 0, 0, 0, 0, 0, 0, 0, 0]) (by kernel_rfl) (Lib.tabIs_of_head (g := 8) (by kernel_rfl) (by kernel_rfl) Tryz.underlying228 Tryz.underlying5 (by kernel_rfl) (by kernel_rfl) (laidMet.tail (laidMet.tail (laidMet.tail (laidMet.tail (laidMet.tail (laidMet.tail (laidMet.tail h))))))))
  exact (glob_cons f4 (glob_cons f8 (glob_cons f2 (glob_cons f3 glob_none'))))
set_option maxRecDepth 100000 in
theorem lifted (os : Os) (started : os.Started) (H : Type) (enc : TypeId × Value → H) :
    ReturnsInHanded {} Tryz.checked os 5 .any (fun w args => (Rows.tradePostsSpec.pre enc Tryz.prog Tryz.f5 [] false w args ∧ laidMetH Tryz.prog Rows.tradePostsRow.laid w) ∧ sizedMet enc Tryz.prog Tryz.f5 (OpenSpec.ofChange Rows.tradePostsSpec) false w args)
      (Rows.tradePostsSpec.post enc Tryz.prog Tryz.f5 false true false false) := by
  refine returnsInHanded_of_change_and (C := Tryz.checked) (X := fun w _ => laidMetH Tryz.prog Rows.tradePostsRow.laid w) (fun _ _ _ hh h => h.of_heap hh) own started (by kernel_rfl) Tryz.func5
    (ChangeSpec.witness_shaped (enc := enc) (C := Tryz.checked) (os := os) (X := fun w _ => laidMetH Tryz.prog Rows.tradePostsRow.laid w) false (World.laidAll Tryz.prog os Rows.tradePostsRow.laid) #[.agg #[.int .i64 0, .int .i64 0, .string ByteArray.empty, .string ByteArray.empty, .string ByteArray.empty, .int .i64 0], .string ByteArray.empty] 8 (World.laidAll_os _ _ _) (World.shaped_of_ZipB (by kernel_rfl) (by kernel_rfl)) (by kernel_rfl) (by kernel_rfl) (by kernel_rfl) (by rw [MakeChecks.laidMetH_plain _ _ _ (by kernel_rfl)]; exact laidMet_laidAll _ (by kernel_rfl) (by kernel_rfl))) ?_
  intro W base args ds gs before hval hW _ _ hL _
  exact law_call (P := Tryz.prog) (g := 5) (tb := Tryz.f5.resultTypes.getD 0 0) laidOut bursarlaw20_TradePosts.row_ok (told hL) (by kernel_rfl) (fun a => by kernel_rfl) (by kernel_rfl) (by kernel_rfl) rfl
    (fun ds h => match ds, h with | [_, _], _ => ⟨rfl, rfl, rfl⟩) (fun a ha => TradePosts_is a) hval hW
set_option maxRecDepth 100000 in
theorem over : Rows.tradePostsRow.holds Tryz.pinned (OpenSpec.ofChange Rows.tradePostsSpec) :=
  OpenClaim.holds_of_wide 5 Tryz.f5 rfl rfl rfl rfl rfl rfl rfl ⟨rfl, rfl, rfl, rfl, rfl⟩ rfl rfl rfl rfl rfl (by kernel_rfl) Tryz.func5 (by kernel_rfl)
    (of_decide_eq_true (by kernel_rfl)) (by unfold Func.isWrapper; first | (rw [if_pos (by decide +kernel)]; kernel_rfl) | (rw [if_neg (by decide +kernel)]; exact ⟨rfl, rfl⟩))
    (fun os started H enc _ => lifted os started H enc)
theorem plainParams : (Tryz.f5.params.toList.all fun t => !(Tryz.prog.wantsStandIn t)) = true := by kernel_rfl
theorem card : Rows.TradePostsCardSaid :=
  Claim7.holds_tied_plain_at .later [] [.data, .data, .data, .data, .sentinel, .sentinel, .listed, .data, .pinned] true (true, "bf724d4f18b19264e7bd250bb3244673d72c77338245170921484629fefa8bc9") true
    over (fun _ h => by cases h) (by kernel_rfl) (fun _ h => by cases h) tradePosts_row_tie rfl ⟨rfl, rfl⟩ (by kernel_rfl) rfl
    (fun f fn hf hfn => by
      obtain rfl : f = 5 := Option.some.inj ((show Tryz.prog.funcNamed "bursar/bursarlaw20.TradePosts" = some 5 by kernel_rfl).symm.trans hf) |>.symm
      obtain rfl : fn = Tryz.f5 := (Option.some.inj (Tryz.func5.symm.trans hfn)).symm
      exact ⟨by kernel_rfl, fun j t ht => by
        have h := List.all_eq_true.1 plainParams t (by rw [← Array.getElem?_toList] at ht; exact List.mem_of_getElem? ht)
        exact (show Tryz.prog.wantsStandIn t = false by simpa using h)⟩)
    (by kernel_rfl)
end Go.Proofs.YtpoiijkodpnobaaGreatDoor.tradePosts
namespace Go.Proofs.YtpoiijkodpnobaaGreatDoor
theorem tradePosts_holds : Rows.TradePostsCardSaid := tradePosts.card
#print axioms tradePosts_holds
end Go.Proofs.YtpoiijkodpnobaaGreatDoor
end
