/- Part 5 of what the proof of this statement stands on: Which postings may be, their entries and texts, and the posting of any text, is as the document says; texts are parsed as they were. -/
import Derived.Shelf.Strings.Fields
import Derived.Test.YtpoiijkodpnobaaGreatDoorProg
import Derived.Shelf.Strconv.ErrVarAll
import Derived.Laws.Strings
import Derived.Shelf.Strconv.ErrVarParseInt
import Derived.Test.YtpoiijkodpnobaaGreatDoorKTradePosts4
section
set_option linter.unusedVariables false
set_option maxRecDepth 100000
namespace Go.Proofs.YtpoiijkodpnobaaGreatDoor
open Go Go.Fw
abbrev strings_trimRightByte.As : Shs := (.cons (.x .s) (.cons (.x (.i .u8)) .nil))
abbrev strings_trimRightByte.m : Back := [(false, .s)]
noncomputable abbrev strings_trimRightByte.H : HK := hk P G0 E0 J0 [] noLoops 4
theorem strings_trimRightByte.rows : TabOK P G0 (tabF []) := rows_ok (ws := []) trivial
theorem strings_trimRightByte.hok : HKOK P strings_trimRightByte.H := hk_ok e0_ok j0_ok strings_trimRightByte.rows (fun g n => noLoops_ok g n) 4
noncomputable abbrev strings_trimRightByte.sh2 : SSh := ⟨[(0, (.x .s)), (1, (.x (.i .u8)))], []⟩
noncomputable abbrev strings_trimRightByte.os2 : PEnds := [((.exit 0), ⟨[(0, (.x .s))], []⟩)]
noncomputable def strings_trimRightByte.t2 (s : (ByteArray × Int)) : Option ((ByteArray × Int) ⊕ (ByteArray)) := (bif (decide (((s.1.size : Int) > (0 : Int)))) then (bif ((decide (((0 : Int) ≤ (IntKind.wrap .i64 ((s.1.size : Int) - (1 : Int)))))) && (decide (((IntKind.wrap .i64 ((s.1.size : Int) - (1 : Int))) < (s.1.size : Int))))) then (bif ((bt s.1 (Int.toNat (IntKind.wrap .i64 ((s.1.size : Int) - (1 : Int))))) == s.2) then (bif ((decide (((0 : Int) ≤ (IntKind.wrap .i64 ((s.1.size : Int) - (1 : Int)))))) && (decide (((IntKind.wrap .i64 ((s.1.size : Int) - (1 : Int))) ≤ (s.1.size : Int))))) then (some (.inl ((ByteArray.extract s.1 0 (Int.toNat (IntKind.wrap .i64 ((s.1.size : Int) - (1 : Int))))), s.2))) else none) else (some (.inr s.1))) else none) else (some (.inr s.1)))
theorem strings_trimRightByte.t2_ok : ∀ s : Vals strings_trimRightByte.sh2.tys, turnK P strings_trimRightByte.H (lp []) (bodyAt (codeOf P 79) 2) 0 strings_trimRightByte.sh2 strings_trimRightByte.os2 s some = strings_trimRightByte.t2 s := fun s => by kernel_rfl
noncomputable def strings_trimRightByte.l2 : (ByteArray × Int) → Option (ByteArray) := rounds strings_trimRightByte.t2
noncomputable def strings_trimRightByte.f (a : (ByteArray × Int)) : Option ByteArray := (((strings_trimRightByte.l2 a)).bind fun x2 => (some x2))
theorem strings_trimRightByte.ok : ∀ a : Vals strings_trimRightByte.As.tys, fnK P strings_trimRightByte.H (lp [(2, (NodeT.summ ⟨strings_trimRightByte.sh2, strings_trimRightByte.os2, strings_trimRightByte.l2⟩ 0))]) 79 strings_trimRightByte.As strings_trimRightByte.m a some = strings_trimRightByte.f a := fun a => by kernel_rfl
noncomputable abbrev strings_trimRightByte.row : Row := fnRow 79 strings_trimRightByte.As strings_trimRightByte.m strings_trimRightByte.f
theorem strings_trimRightByte.row_ok : RowOK P G0 strings_trimRightByte.row := row_told strings_trimRightByte.hok (lp_of (l := [(2, (NodeT.summ ⟨strings_trimRightByte.sh2, strings_trimRightByte.os2, strings_trimRightByte.l2⟩ 0))]) ⟨(loop_sum strings_trimRightByte.hok (by kernel_rfl) (by kernel_rfl) (l := []) trivial strings_trimRightByte.sh2 strings_trimRightByte.os2 (by kernel_rfl) strings_trimRightByte.t2 strings_trimRightByte.t2_ok), trivial⟩) (fun _ => rfl) strings_trimRightByte.ok
abbrev strings_trimLeftByte.As : Shs := (.cons (.x .s) (.cons (.x (.i .u8)) .nil))
abbrev strings_trimLeftByte.m : Back := [(false, .s)]
noncomputable abbrev strings_trimLeftByte.H : HK := hk P G0 E0 J0 [] noLoops 4
theorem strings_trimLeftByte.rows : TabOK P G0 (tabF []) := rows_ok (ws := []) trivial
theorem strings_trimLeftByte.hok : HKOK P strings_trimLeftByte.H := hk_ok e0_ok j0_ok strings_trimLeftByte.rows (fun g n => noLoops_ok g n) 4
noncomputable abbrev strings_trimLeftByte.sh2 : SSh := ⟨[(0, (.x .s)), (1, (.x (.i .u8)))], []⟩
noncomputable abbrev strings_trimLeftByte.os2 : PEnds := [((.exit 0), ⟨[(0, (.x .s))], []⟩)]
noncomputable def strings_trimLeftByte.t2 (s : (ByteArray × Int)) : Option ((ByteArray × Int) ⊕ (ByteArray)) := (bif (decide (((s.1.size : Int) > (0 : Int)))) then (bif (true && (decide (((0 : Int) < (s.1.size : Int))))) then (bif ((bt s.1 0) == s.2) then (bif (true && (decide (((1 : Int) ≤ (s.1.size : Int))))) then (some (.inl ((ByteArray.extract s.1 1 s.1.size), s.2))) else none) else (some (.inr s.1))) else none) else (some (.inr s.1)))
theorem strings_trimLeftByte.t2_ok : ∀ s : Vals strings_trimLeftByte.sh2.tys, turnK P strings_trimLeftByte.H (lp []) (bodyAt (codeOf P 78) 2) 0 strings_trimLeftByte.sh2 strings_trimLeftByte.os2 s some = strings_trimLeftByte.t2 s := fun s => by kernel_rfl
noncomputable def strings_trimLeftByte.l2 : (ByteArray × Int) → Option (ByteArray) := rounds strings_trimLeftByte.t2
noncomputable def strings_trimLeftByte.f (a : (ByteArray × Int)) : Option ByteArray := (((strings_trimLeftByte.l2 a)).bind fun x2 => (some x2))
theorem strings_trimLeftByte.ok : ∀ a : Vals strings_trimLeftByte.As.tys, fnK P strings_trimLeftByte.H (lp [(2, (NodeT.summ ⟨strings_trimLeftByte.sh2, strings_trimLeftByte.os2, strings_trimLeftByte.l2⟩ 0))]) 78 strings_trimLeftByte.As strings_trimLeftByte.m a some = strings_trimLeftByte.f a := fun a => by kernel_rfl
noncomputable abbrev strings_trimLeftByte.row : Row := fnRow 78 strings_trimLeftByte.As strings_trimLeftByte.m strings_trimLeftByte.f
theorem strings_trimLeftByte.row_ok : RowOK P G0 strings_trimLeftByte.row := row_told strings_trimLeftByte.hok (lp_of (l := [(2, (NodeT.summ ⟨strings_trimLeftByte.sh2, strings_trimLeftByte.os2, strings_trimLeftByte.l2⟩ 0))]) ⟨(loop_sum strings_trimLeftByte.hok (by kernel_rfl) (by kernel_rfl) (l := []) trivial strings_trimLeftByte.sh2 strings_trimLeftByte.os2 (by kernel_rfl) strings_trimLeftByte.t2 strings_trimLeftByte.t2_ok), trivial⟩) (fun _ => rfl) strings_trimLeftByte.ok
abbrev utf8_decodeRuneInStringSlow.As : Shs := (.cons (.x .s) .nil)
abbrev utf8_decodeRuneInStringSlow.m : Back := [(false, (.i .i32)), (false, (.i .i64))]
noncomputable abbrev utf8_decodeRuneInStringSlow.H : HK := hk P G0 E0 J0 [] noLoops 4
theorem utf8_decodeRuneInStringSlow.rows : TabOK P G0 (tabF []) := rows_ok (ws := []) trivial
theorem utf8_decodeRuneInStringSlow.hok : HKOK P utf8_decodeRuneInStringSlow.H := hk_ok e0_ok j0_ok utf8_decodeRuneInStringSlow.rows (fun g n => noLoops_ok g n) 4
noncomputable def utf8_decodeRuneInStringSlow.f (a : ByteArray) : Option (Int × Int) := (bif (decide (((a.size : Int) < (1 : Int)))) then (some ((65533 : Int), (0 : Int))) else (bif (true && (decide (((0 : Int) < (a.size : Int))))) then none else none))
theorem utf8_decodeRuneInStringSlow.ok : ∀ a : Vals utf8_decodeRuneInStringSlow.As.tys, fnK P utf8_decodeRuneInStringSlow.H (lp []) 148 utf8_decodeRuneInStringSlow.As utf8_decodeRuneInStringSlow.m a some = utf8_decodeRuneInStringSlow.f a := fun a => by kernel_rfl
noncomputable abbrev utf8_decodeRuneInStringSlow.row : Row := fnRow 148 utf8_decodeRuneInStringSlow.As utf8_decodeRuneInStringSlow.m utf8_decodeRuneInStringSlow.f
theorem utf8_decodeRuneInStringSlow.row_ok : RowOK P G0 utf8_decodeRuneInStringSlow.row := row_told utf8_decodeRuneInStringSlow.hok (lp_of (l := []) trivial) (fun _ => rfl) utf8_decodeRuneInStringSlow.ok
abbrev utf8_DecodeRuneInString.As : Shs := (.cons (.x .s) .nil)
abbrev utf8_DecodeRuneInString.m : Back := [(false, (.i .i32)), (false, (.i .i64))]
noncomputable abbrev utf8_DecodeRuneInString.H : HK := hk P G0 E0 J0 [utf8_decodeRuneInStringSlow.row] noLoops 4
theorem utf8_DecodeRuneInString.rows : TabOK P G0 (tabF [utf8_decodeRuneInStringSlow.row]) := rows_ok (ws := [utf8_decodeRuneInStringSlow.row]) ⟨utf8_decodeRuneInStringSlow.row_ok, trivial⟩
theorem utf8_DecodeRuneInString.hok : HKOK P utf8_DecodeRuneInString.H := hk_ok e0_ok j0_ok utf8_DecodeRuneInString.rows (fun g n => noLoops_ok g n) 4
noncomputable def utf8_DecodeRuneInString.f (a : ByteArray) : Option (Int × Int) := (bif (!((ByteArray.toList a) == [])) then (bif (true && (decide (((0 : Int) < (a.size : Int))))) then (bif (decide (((bt a 0) < (128 : Int)))) then (bif (true && (decide (((0 : Int) < (a.size : Int))))) then (some ((IntKind.wrap .i32 (bt a 0)), (1 : Int))) else none) else (((utf8_decodeRuneInStringSlow.f a)).bind fun x1 => (some x1))) else none) else (((utf8_decodeRuneInStringSlow.f a)).bind fun x1 => (some x1)))
theorem utf8_DecodeRuneInString.ok : ∀ a : Vals utf8_DecodeRuneInString.As.tys, fnK P utf8_DecodeRuneInString.H (lp []) 118 utf8_DecodeRuneInString.As utf8_DecodeRuneInString.m a some = utf8_DecodeRuneInString.f a := fun a => by kernel_rfl
noncomputable abbrev utf8_DecodeRuneInString.row : Row := fnRow 118 utf8_DecodeRuneInString.As utf8_DecodeRuneInString.m utf8_DecodeRuneInString.f
theorem utf8_DecodeRuneInString.row_ok : RowOK P G0 utf8_DecodeRuneInString.row := row_told utf8_DecodeRuneInString.hok (lp_of (l := []) trivial) (fun _ => rfl) utf8_DecodeRuneInString.ok
abbrev strings_IndexByte.As : Shs := (.cons (.x .s) (.cons (.x (.i .u8)) .nil))
abbrev strings_IndexByte.m : Back := [(false, (.i .i64))]
noncomputable abbrev strings_IndexByte.H : HK := hk P G0 E0 J0 [] noLoops 4
theorem strings_IndexByte.rows : TabOK P G0 (tabF []) := rows_ok (ws := []) trivial
theorem strings_IndexByte.hok : HKOK P strings_IndexByte.H := hk_ok e0_ok j0_ok strings_IndexByte.rows (fun g n => noLoops_ok g n) 4
noncomputable def strings_IndexByte.f (a : (ByteArray × Int)) : Option Int := (some (Go.Lib.indexByte (Array.toList (ByteArray.data a.1)) (Nat.toUInt8 (Int.toNat a.2))))
theorem strings_IndexByte.ok : ∀ a : Vals strings_IndexByte.As.tys, fnK P strings_IndexByte.H (lp []) 173 strings_IndexByte.As strings_IndexByte.m a some = strings_IndexByte.f a := fun a => by kernel_rfl
noncomputable abbrev strings_IndexByte.row : Row := fnRow 173 strings_IndexByte.As strings_IndexByte.m strings_IndexByte.f
theorem strings_IndexByte.row_ok : RowOK P G0 strings_IndexByte.row := row_told strings_IndexByte.hok (lp_of (l := []) trivial) (fun _ => rfl) strings_IndexByte.ok
abbrev utf8_ValidRune.As : Shs := (.cons (.x (.i .i32)) .nil)
abbrev utf8_ValidRune.m : Back := [(false, .b)]
noncomputable abbrev utf8_ValidRune.H : HK := hk P G0 E0 J0 [] noLoops 4
theorem utf8_ValidRune.rows : TabOK P G0 (tabF []) := rows_ok (ws := []) trivial
theorem utf8_ValidRune.hok : HKOK P utf8_ValidRune.H := hk_ok e0_ok j0_ok utf8_ValidRune.rows (fun g n => noLoops_ok g n) 4
noncomputable def utf8_ValidRune.f (a : Int) : Option Bool := (bif (decide (((0 : Int) ≤ a))) then (bif (decide ((a < (55296 : Int)))) then (some true) else (bif (decide (((57343 : Int) < a))) then (bif (decide ((a ≤ (1114111 : Int)))) then (some true) else (some false)) else (some false))) else (bif (decide (((57343 : Int) < a))) then (bif (decide ((a ≤ (1114111 : Int)))) then (some true) else (some false)) else (some false)))
theorem utf8_ValidRune.ok : ∀ a : Vals utf8_ValidRune.As.tys, fnK P utf8_ValidRune.H (lp []) 174 utf8_ValidRune.As utf8_ValidRune.m a some = utf8_ValidRune.f a := fun a => by kernel_rfl
noncomputable abbrev utf8_ValidRune.row : Row := fnRow 174 utf8_ValidRune.As utf8_ValidRune.m utf8_ValidRune.f
theorem utf8_ValidRune.row_ok : RowOK P G0 utf8_ValidRune.row := row_told utf8_ValidRune.hok (lp_of (l := []) trivial) (fun _ => rfl) utf8_ValidRune.ok
abbrev strings_IndexRune.As : Shs := (.cons (.x .s) (.cons (.x (.i .i32)) .nil))
abbrev strings_IndexRune.m : Back := [(false, (.i .i64))]
noncomputable abbrev strings_IndexRune.H : HK := hk P G0 E0 J0 [strings_IndexByte.row, utf8_ValidRune.row] noLoops 4
theorem strings_IndexRune.rows : TabOK P G0 (tabF [strings_IndexByte.row, utf8_ValidRune.row]) := rows_ok (ws := [strings_IndexByte.row, utf8_ValidRune.row]) ⟨strings_IndexByte.row_ok, ⟨utf8_ValidRune.row_ok, trivial⟩⟩
theorem strings_IndexRune.hok : HKOK P strings_IndexRune.H := hk_ok e0_ok j0_ok strings_IndexRune.rows (fun g n => noLoops_ok g n) 4
noncomputable abbrev strings_IndexRune.sh9 : SSh := ⟨[(175, (.pt 0 0))], [.it]⟩
noncomputable abbrev strings_IndexRune.os9 : PEnds := [(.ret, ⟨[(4, (.x (.i .i64)))], []⟩), ((.exit 9), ⟨[], []⟩)]
noncomputable def strings_IndexRune.t9 (s : (ByteArray × Int)) : Option ((ByteArray × Int) ⊕ (Int ⊕ Unit)) := (bif (Nat.blt (Int.toNat s.2) s.1.size) then (bif (((runeD s.1 (Int.toNat s.2)).1 : Int) == (65533 : Int)) then (some (.inr (.inl ((Int.toNat s.2) : Int)))) else (some (.inl (s.1, (((Int.toNat s.2) + (runeD s.1 (Int.toNat s.2)).2) : Int))))) else (some (.inr (.inr ()))))
theorem strings_IndexRune.t9_ok : ∀ s : Vals strings_IndexRune.sh9.tys, turnK P strings_IndexRune.H (lp []) (bodyAt (codeOf P 149) 9) 0 strings_IndexRune.sh9 strings_IndexRune.os9 s some = strings_IndexRune.t9 s := fun s => by kernel_rfl
noncomputable def strings_IndexRune.l9 : (ByteArray × Int) → Option (Int ⊕ Unit) := rounds strings_IndexRune.t9
noncomputable def strings_IndexRune.f (a : (ByteArray × Int)) : Option Int := (bif (decide (((0 : Int) ≤ a.2))) then (bif (decide ((a.2 < (128 : Int)))) then (some (Go.Lib.indexByte (Array.toList (ByteArray.data a.1)) (Nat.toUInt8 (Int.toNat (IntKind.wrap .u8 a.2))))) else (bif (a.2 == (65533 : Int)) then (((strings_IndexRune.l9 (a.1, (0 : Int)))).bind fun x2 => (match x2 with | .inl x3 => (some x3) | .inr x3 => (some (-1 : Int)))) else (((utf8_ValidRune.f a.2)).bind fun x2 => (bif (!x2) then (some (-1 : Int)) else none)))) else (bif (a.2 == (65533 : Int)) then (((strings_IndexRune.l9 (a.1, (0 : Int)))).bind fun x2 => (match x2 with | .inl x3 => (some x3) | .inr x3 => (some (-1 : Int)))) else (((utf8_ValidRune.f a.2)).bind fun x2 => (bif (!x2) then (some (-1 : Int)) else none))))
theorem strings_IndexRune.ok : ∀ a : Vals strings_IndexRune.As.tys, fnK P strings_IndexRune.H (lp [(9, (NodeT.summ ⟨strings_IndexRune.sh9, strings_IndexRune.os9, strings_IndexRune.l9⟩ 0))]) 149 strings_IndexRune.As strings_IndexRune.m a some = strings_IndexRune.f a := fun a => by kernel_rfl
noncomputable abbrev strings_IndexRune.row : Row := fnRow 149 strings_IndexRune.As strings_IndexRune.m strings_IndexRune.f
theorem strings_IndexRune.row_ok : RowOK P G0 strings_IndexRune.row := row_told strings_IndexRune.hok (lp_of (l := [(9, (NodeT.summ ⟨strings_IndexRune.sh9, strings_IndexRune.os9, strings_IndexRune.l9⟩ 0))]) ⟨(loop_sum strings_IndexRune.hok (by kernel_rfl) (by kernel_rfl) (l := []) trivial strings_IndexRune.sh9 strings_IndexRune.os9 (by kernel_rfl) strings_IndexRune.t9 strings_IndexRune.t9_ok), trivial⟩) (fun _ => rfl) strings_IndexRune.ok
abbrev strings_ContainsRune.As : Shs := (.cons (.x .s) (.cons (.x (.i .i32)) .nil))
abbrev strings_ContainsRune.m : Back := [(false, .b)]
noncomputable abbrev strings_ContainsRune.H : HK := hk P G0 E0 J0 [strings_IndexRune.row] noLoops 4
theorem strings_ContainsRune.rows : TabOK P G0 (tabF [strings_IndexRune.row]) := rows_ok (ws := [strings_IndexRune.row]) ⟨strings_IndexRune.row_ok, trivial⟩
theorem strings_ContainsRune.hok : HKOK P strings_ContainsRune.H := hk_ok e0_ok j0_ok strings_ContainsRune.rows (fun g n => noLoops_ok g n) 4
noncomputable def strings_ContainsRune.f (a : (ByteArray × Int)) : Option Bool := (((strings_IndexRune.f a)).bind fun x2 => (some (decide ((x2 ≥ (0 : Int))))))
theorem strings_ContainsRune.ok : ∀ a : Vals strings_ContainsRune.As.tys, fnK P strings_ContainsRune.H (lp []) 119 strings_ContainsRune.As strings_ContainsRune.m a some = strings_ContainsRune.f a := fun a => by kernel_rfl
noncomputable abbrev strings_ContainsRune.row : Row := fnRow 119 strings_ContainsRune.As strings_ContainsRune.m strings_ContainsRune.f
theorem strings_ContainsRune.row_ok : RowOK P G0 strings_ContainsRune.row := row_told strings_ContainsRune.hok (lp_of (l := []) trivial) (fun _ => rfl) strings_ContainsRune.ok
abbrev strings_trimLeftUnicode.As : Shs := (.cons (.x .s) (.cons (.x .s) .nil))
abbrev strings_trimLeftUnicode.m : Back := [(false, .s)]
noncomputable abbrev strings_trimLeftUnicode.H : HK := hk P G0 E0 J0 [utf8_DecodeRuneInString.row, strings_ContainsRune.row] noLoops 4
theorem strings_trimLeftUnicode.rows : TabOK P G0 (tabF [utf8_DecodeRuneInString.row, strings_ContainsRune.row]) := rows_ok (ws := [utf8_DecodeRuneInString.row, strings_ContainsRune.row]) ⟨utf8_DecodeRuneInString.row_ok, ⟨strings_ContainsRune.row_ok, trivial⟩⟩
theorem strings_trimLeftUnicode.hok : HKOK P strings_trimLeftUnicode.H := hk_ok e0_ok j0_ok strings_trimLeftUnicode.rows (fun g n => noLoops_ok g n) 4
noncomputable abbrev strings_trimLeftUnicode.sh2 : SSh := ⟨[(0, (.x .s)), (1, (.x .s))], []⟩
noncomputable abbrev strings_trimLeftUnicode.os2 : PEnds := [((.exit 0), ⟨[(0, (.x .s))], []⟩)]
noncomputable def strings_trimLeftUnicode.t2 (s : (ByteArray × ByteArray)) : Option ((ByteArray × ByteArray) ⊕ (ByteArray)) := (bif (decide (((s.1.size : Int) > (0 : Int)))) then (((utf8_DecodeRuneInString.f s.1)).bind fun x2 => (((strings_ContainsRune.f (s.2, x2.1))).bind fun x3 => (bif (!x3) then (some (.inr s.1)) else (bif ((decide (((0 : Int) ≤ x2.2))) && (decide ((x2.2 ≤ (s.1.size : Int))))) then (some (.inl ((ByteArray.extract s.1 (Int.toNat x2.2) s.1.size), s.2))) else none)))) else (some (.inr s.1)))
theorem strings_trimLeftUnicode.t2_ok : ∀ s : Vals strings_trimLeftUnicode.sh2.tys, turnK P strings_trimLeftUnicode.H (lp []) (bodyAt (codeOf P 83) 2) 0 strings_trimLeftUnicode.sh2 strings_trimLeftUnicode.os2 s some = strings_trimLeftUnicode.t2 s := fun s => by kernel_rfl
noncomputable def strings_trimLeftUnicode.l2 : (ByteArray × ByteArray) → Option (ByteArray) := rounds strings_trimLeftUnicode.t2
noncomputable def strings_trimLeftUnicode.f (a : (ByteArray × ByteArray)) : Option ByteArray := (((strings_trimLeftUnicode.l2 a)).bind fun x2 => (some x2))
theorem strings_trimLeftUnicode.ok : ∀ a : Vals strings_trimLeftUnicode.As.tys, fnK P strings_trimLeftUnicode.H (lp [(2, (NodeT.summ ⟨strings_trimLeftUnicode.sh2, strings_trimLeftUnicode.os2, strings_trimLeftUnicode.l2⟩ 0))]) 83 strings_trimLeftUnicode.As strings_trimLeftUnicode.m a some = strings_trimLeftUnicode.f a := fun a => by kernel_rfl
noncomputable abbrev strings_trimLeftUnicode.row : Row := fnRow 83 strings_trimLeftUnicode.As strings_trimLeftUnicode.m strings_trimLeftUnicode.f
theorem strings_trimLeftUnicode.row_ok : RowOK P G0 strings_trimLeftUnicode.row := row_told strings_trimLeftUnicode.hok (lp_of (l := [(2, (NodeT.summ ⟨strings_trimLeftUnicode.sh2, strings_trimLeftUnicode.os2, strings_trimLeftUnicode.l2⟩ 0))]) ⟨(loop_sum strings_trimLeftUnicode.hok (by kernel_rfl) (by kernel_rfl) (l := []) trivial strings_trimLeftUnicode.sh2 strings_trimLeftUnicode.os2 (by kernel_rfl) strings_trimLeftUnicode.t2 strings_trimLeftUnicode.t2_ok), trivial⟩) (fun _ => rfl) strings_trimLeftUnicode.ok
abbrev trade_Parse_1.As : Shs := (.cons (.x .s) .nil)
abbrev trade_Parse_1.m : Back := [(false, .s)]
noncomputable abbrev trade_Parse_1.H : HK := hk P G0 E0 J0 [strings_trimLeftByte.row, strings_trimRightByte.row, strings_trimLeftUnicode.row] noLoops 4
theorem trade_Parse_1.rows : TabOK P G0 (tabF [strings_trimLeftByte.row, strings_trimRightByte.row, strings_trimLeftUnicode.row]) := rows_ok (ws := [strings_trimLeftByte.row, strings_trimRightByte.row, strings_trimLeftUnicode.row]) ⟨strings_trimLeftByte.row_ok, ⟨strings_trimRightByte.row_ok, ⟨strings_trimLeftUnicode.row_ok, trivial⟩⟩⟩
theorem trade_Parse_1.hok : HKOK P trade_Parse_1.H := hk_ok e0_ok j0_ok trade_Parse_1.rows (fun g n => noLoops_ok g n) 4
noncomputable def trade_Parse_1.f (a : ByteArray) : Option ByteArray := (bif ((ByteArray.toList a) == []) then (bif ((ByteArray.toList a) == []) then (some (bs [])) else (some a)) else (((strings_trimRightByte.f (a, (48 : Int)))).bind fun x1 => (((strings_trimLeftByte.f (x1, (48 : Int)))).bind fun x2 => (bif ((ByteArray.toList x2) == []) then (some (bs [])) else (some a)))))
theorem trade_Parse_1.ok : ∀ a : Vals trade_Parse_1.As.tys, fnK P trade_Parse_1.H (lp []) 43 trade_Parse_1.As trade_Parse_1.m a some = trade_Parse_1.f a := fun a => by kernel_rfl
noncomputable abbrev trade_Parse_1.row : Row := fnRow 43 trade_Parse_1.As trade_Parse_1.m trade_Parse_1.f
theorem trade_Parse_1.row_ok : RowOK P G0 trade_Parse_1.row := row_told trade_Parse_1.hok (lp_of (l := []) trivial) (fun _ => rfl) trade_Parse_1.ok
abbrev trade_Parse.As : Shs := (.cons (.x .s) .nil)
abbrev trade_Parse.m : Back := [(false, T_api_Post), (false, (.i .i64))]
noncomputable abbrev trade_Parse.H : HK := hk P G1 E0 J0 [trade_Text.row, trade_Parse_1.row, digit_Get.row] noLoops 4
theorem trade_Parse.rows : TabOK P G1 (tabF [trade_Text.row, trade_Parse_1.row, digit_Get.row]) := rows_ok (ws := [trade_Text.row, trade_Parse_1.row, digit_Get.row]) ⟨(trade_Text.row_ok.more g01), ⟨(trade_Parse_1.row_ok.more g01), ⟨digit_Get.row_ok, trivial⟩⟩⟩
theorem trade_Parse.hok : HKOK P trade_Parse.H := hk_ok e0_ok j0_ok trade_Parse.rows (fun g n => noLoops_ok g n) 4
noncomputable abbrev trade_Parse.sh9 : SSh := ⟨[(0, (.x .s)), (2, (.pt 0 0)), (11, (.pt 1 0))], [.box (.cons (.x (.i .i64)) (.cons (.x (.i .i64)) (.cons (.x .s) (.cons (.x .s) (.cons (.x .s) (.cons (.x (.i .i64)) .nil)))))), .box (.cons (.x (.i .i64)) (.cons (.x (.i .i64)) (.cons (.x .s) (.cons (.x .s) (.cons (.x .s) (.cons (.x (.i .i64)) .nil))))))]⟩
noncomputable abbrev trade_Parse.os9 : PEnds := [(.n, ⟨[(0, (.x .s)), (2, (.pt 0 0)), (11, (.pt 1 0)), (62, (.x .b))], [.box (.cons (.x (.i .i64)) (.cons (.x (.i .i64)) (.cons (.x .s) (.cons (.x .s) (.cons (.x .s) (.cons (.x (.i .i64)) .nil)))))), .box (.cons (.x (.i .i64)) (.cons (.x (.i .i64)) (.cons (.x .s) (.cons (.x .s) (.cons (.x .s) (.cons (.x (.i .i64)) .nil))))))]⟩)]
noncomputable def trade_Parse.l9 (s : (ByteArray × (Int × (Int × (ByteArray × (ByteArray × (ByteArray × (Int × (Int × (Int × (ByteArray × (ByteArray × (ByteArray × Int))))))))))))) : Option ((ByteArray × (Bool × (Int × (Int × (ByteArray × (ByteArray × (ByteArray × (Int × (Int × (Int × (ByteArray × (ByteArray × (ByteArray × Int)))))))))))))) := (bif (decide ((s.2.2.2.2.2.2.2.1 ≥ (2 : Int)))) then (some (s.1, (((ByteArray.toList s.2.2.2.2.2.2.2.2.2.2.1) == []), s.2))) else (some (s.1, (false, s.2))))
theorem trade_Parse.l9_ok : ∀ s : Vals trade_Parse.sh9.tys, nodeK P trade_Parse.H (lp []) (placeAt (codeOf P 15) 9) 0 trade_Parse.sh9 trade_Parse.os9 s some = trade_Parse.l9 s := fun s => by kernel_rfl
noncomputable abbrev trade_Parse.sh10 : SSh := ⟨[(0, (.x .s)), (2, (.pt 0 0)), (11, (.pt 1 0)), (62, (.x .b))], [.box (.cons (.x (.i .i64)) (.cons (.x (.i .i64)) (.cons (.x .s) (.cons (.x .s) (.cons (.x .s) (.cons (.x (.i .i64)) .nil)))))), .box (.cons (.x (.i .i64)) (.cons (.x (.i .i64)) (.cons (.x .s) (.cons (.x .s) (.cons (.x .s) (.cons (.x (.i .i64)) .nil))))))]⟩
noncomputable abbrev trade_Parse.os10 : PEnds := [(.n, ⟨[(0, (.x .s)), (2, (.pt 0 0)), (11, (.pt 1 0))], [.box (.cons (.x (.i .i64)) (.cons (.x (.i .i64)) (.cons (.x .s) (.cons (.x .s) (.cons (.x .s) (.cons (.x (.i .i64)) .nil)))))), .box (.cons (.x (.i .i64)) (.cons (.x (.i .i64)) (.cons (.x .s) (.cons (.x .s) (.cons (.x .s) (.cons (.x (.i .i64)) .nil))))))]⟩)]
noncomputable def trade_Parse.l10 (s : (ByteArray × (Bool × (Int × (Int × (ByteArray × (ByteArray × (ByteArray × (Int × (Int × (Int × (ByteArray × (ByteArray × (ByteArray × Int)))))))))))))) : Option ((ByteArray × (Int × (Int × (ByteArray × (ByteArray × (ByteArray × (Int × (Int × (Int × (ByteArray × (ByteArray × (ByteArray × Int))))))))))))) := (bif s.2.1 then (bif (true && (decide (((33 : Int) ≤ (s.1.size : Int))))) then (some (s.1, (s.2.2.1, (s.2.2.2.1, (s.2.2.2.2.1, (s.2.2.2.2.2.1, (s.2.2.2.2.2.2.1, (s.2.2.2.2.2.2.2.1, (s.2.2.2.2.2.2.2.2.1, (s.2.2.2.2.2.2.2.2.2.1, (s.2.2.2.2.2.2.2.2.2.2.1, ((ByteArray.extract s.1 27 33), s.2.2.2.2.2.2.2.2.2.2.2.2)))))))))))) else none) else (some (s.1, s.2.2)))
theorem trade_Parse.l10_ok : ∀ s : Vals trade_Parse.sh10.tys, nodeK P trade_Parse.H (lp []) (placeAt (codeOf P 15) 10) 0 trade_Parse.sh10 trade_Parse.os10 s some = trade_Parse.l10 s := fun s => by kernel_rfl
noncomputable abbrev trade_Parse.sh12 : SSh := ⟨[(0, (.x .s)), (2, (.pt 0 0)), (11, (.pt 1 0))], [.box (.cons (.x (.i .i64)) (.cons (.x (.i .i64)) (.cons (.x .s) (.cons (.x .s) (.cons (.x .s) (.cons (.x (.i .i64)) .nil)))))), .box (.cons (.x (.i .i64)) (.cons (.x (.i .i64)) (.cons (.x .s) (.cons (.x .s) (.cons (.x .s) (.cons (.x (.i .i64)) .nil))))))]⟩
noncomputable abbrev trade_Parse.os12 : PEnds := [(.n, ⟨[(0, (.x .s)), (2, (.pt 0 0)), (11, (.pt 1 0)), (78, (.x .b))], [.box (.cons (.x (.i .i64)) (.cons (.x (.i .i64)) (.cons (.x .s) (.cons (.x .s) (.cons (.x .s) (.cons (.x (.i .i64)) .nil)))))), .box (.cons (.x (.i .i64)) (.cons (.x (.i .i64)) (.cons (.x .s) (.cons (.x .s) (.cons (.x .s) (.cons (.x (.i .i64)) .nil))))))]⟩)]
noncomputable def trade_Parse.l12 (s : (ByteArray × (Int × (Int × (ByteArray × (ByteArray × (ByteArray × (Int × (Int × (Int × (ByteArray × (ByteArray × (ByteArray × Int))))))))))))) : Option ((ByteArray × (Bool × (Int × (Int × (ByteArray × (ByteArray × (ByteArray × (Int × (Int × (Int × (ByteArray × (ByteArray × (ByteArray × Int)))))))))))))) := (bif (decide ((s.2.2.2.2.2.2.2.1 ≥ (2 : Int)))) then (bif (decide ((s.2.2.2.2.2.2.2.1 < (5 : Int)))) then (some (s.1, (((ByteArray.toList s.2.2.2.2.2.2.2.2.2.2.2.1) == []), s.2))) else (some (s.1, (false, s.2)))) else (some (s.1, (false, s.2))))
theorem trade_Parse.l12_ok : ∀ s : Vals trade_Parse.sh12.tys, nodeK P trade_Parse.H (lp []) (placeAt (codeOf P 15) 12) 0 trade_Parse.sh12 trade_Parse.os12 s some = trade_Parse.l12 s := fun s => by kernel_rfl
noncomputable abbrev trade_Parse.sh13 : SSh := ⟨[(0, (.x .s)), (2, (.pt 0 0)), (11, (.pt 1 0)), (78, (.x .b))], [.box (.cons (.x (.i .i64)) (.cons (.x (.i .i64)) (.cons (.x .s) (.cons (.x .s) (.cons (.x .s) (.cons (.x (.i .i64)) .nil)))))), .box (.cons (.x (.i .i64)) (.cons (.x (.i .i64)) (.cons (.x .s) (.cons (.x .s) (.cons (.x .s) (.cons (.x (.i .i64)) .nil))))))]⟩
noncomputable abbrev trade_Parse.os13 : PEnds := [(.n, ⟨[(0, (.x .s)), (2, (.pt 0 0)), (11, (.pt 1 0))], [.box (.cons (.x (.i .i64)) (.cons (.x (.i .i64)) (.cons (.x .s) (.cons (.x .s) (.cons (.x .s) (.cons (.x (.i .i64)) .nil)))))), .box (.cons (.x (.i .i64)) (.cons (.x (.i .i64)) (.cons (.x .s) (.cons (.x .s) (.cons (.x .s) (.cons (.x (.i .i64)) .nil))))))]⟩)]
noncomputable def trade_Parse.l13 (s : (ByteArray × (Bool × (Int × (Int × (ByteArray × (ByteArray × (ByteArray × (Int × (Int × (Int × (ByteArray × (ByteArray × (ByteArray × Int)))))))))))))) : Option ((ByteArray × (Int × (Int × (ByteArray × (ByteArray × (ByteArray × (Int × (Int × (Int × (ByteArray × (ByteArray × (ByteArray × Int))))))))))))) := (bif s.2.1 then (bif (true && (decide (((45 : Int) ≤ (s.1.size : Int))))) then (some (s.1, (s.2.2.1, (s.2.2.2.1, (s.2.2.2.2.1, (s.2.2.2.2.2.1, (s.2.2.2.2.2.2.1, (s.2.2.2.2.2.2.2.1, (s.2.2.2.2.2.2.2.2.1, (s.2.2.2.2.2.2.2.2.2.1, (s.2.2.2.2.2.2.2.2.2.2.1, (s.2.2.2.2.2.2.2.2.2.2.2.1, ((ByteArray.extract s.1 33 45), s.2.2.2.2.2.2.2.2.2.2.2.2.2))))))))))))) else none) else (some (s.1, s.2.2)))
theorem trade_Parse.l13_ok : ∀ s : Vals trade_Parse.sh13.tys, nodeK P trade_Parse.H (lp []) (placeAt (codeOf P 15) 13) 0 trade_Parse.sh13 trade_Parse.os13 s some = trade_Parse.l13 s := fun s => by kernel_rfl
noncomputable abbrev trade_Parse.sh15 : SSh := ⟨[(0, (.x .s)), (2, (.pt 0 0)), (11, (.pt 1 0))], [.box (.cons (.x (.i .i64)) (.cons (.x (.i .i64)) (.cons (.x .s) (.cons (.x .s) (.cons (.x .s) (.cons (.x (.i .i64)) .nil)))))), .box (.cons (.x (.i .i64)) (.cons (.x (.i .i64)) (.cons (.x .s) (.cons (.x .s) (.cons (.x .s) (.cons (.x (.i .i64)) .nil))))))]⟩
noncomputable abbrev trade_Parse.os15 : PEnds := [(.n, ⟨[(0, (.x .s)), (2, (.pt 0 0)), (11, (.pt 1 0)), (89, (.x .b))], [.box (.cons (.x (.i .i64)) (.cons (.x (.i .i64)) (.cons (.x .s) (.cons (.x .s) (.cons (.x .s) (.cons (.x (.i .i64)) .nil)))))), .box (.cons (.x (.i .i64)) (.cons (.x (.i .i64)) (.cons (.x .s) (.cons (.x .s) (.cons (.x .s) (.cons (.x (.i .i64)) .nil))))))]⟩)]
noncomputable def trade_Parse.l15 (s : (ByteArray × (Int × (Int × (ByteArray × (ByteArray × (ByteArray × (Int × (Int × (Int × (ByteArray × (ByteArray × (ByteArray × Int))))))))))))) : Option ((ByteArray × (Bool × (Int × (Int × (ByteArray × (ByteArray × (ByteArray × (Int × (Int × (Int × (ByteArray × (ByteArray × (ByteArray × Int)))))))))))))) := (bif (decide ((s.2.2.2.2.2.2.2.1 < (5 : Int)))) then (some (s.1, (((ByteArray.toList s.2.2.2.2.2.2.2.2.2.1) == []), s.2))) else (some (s.1, (false, s.2))))
theorem trade_Parse.l15_ok : ∀ s : Vals trade_Parse.sh15.tys, nodeK P trade_Parse.H (lp []) (placeAt (codeOf P 15) 15) 0 trade_Parse.sh15 trade_Parse.os15 s some = trade_Parse.l15 s := fun s => by kernel_rfl
noncomputable abbrev trade_Parse.sh16 : SSh := ⟨[(0, (.x .s)), (2, (.pt 0 0)), (11, (.pt 1 0)), (89, (.x .b))], [.box (.cons (.x (.i .i64)) (.cons (.x (.i .i64)) (.cons (.x .s) (.cons (.x .s) (.cons (.x .s) (.cons (.x (.i .i64)) .nil)))))), .box (.cons (.x (.i .i64)) (.cons (.x (.i .i64)) (.cons (.x .s) (.cons (.x .s) (.cons (.x .s) (.cons (.x (.i .i64)) .nil))))))]⟩
noncomputable abbrev trade_Parse.os16 : PEnds := [(.n, ⟨[(0, (.x .s)), (2, (.pt 0 0)), (11, (.pt 1 0))], [.box (.cons (.x (.i .i64)) (.cons (.x (.i .i64)) (.cons (.x .s) (.cons (.x .s) (.cons (.x .s) (.cons (.x (.i .i64)) .nil)))))), .box (.cons (.x (.i .i64)) (.cons (.x (.i .i64)) (.cons (.x .s) (.cons (.x .s) (.cons (.x .s) (.cons (.x (.i .i64)) .nil))))))]⟩)]
noncomputable def trade_Parse.l16 (s : (ByteArray × (Bool × (Int × (Int × (ByteArray × (ByteArray × (ByteArray × (Int × (Int × (Int × (ByteArray × (ByteArray × (ByteArray × Int)))))))))))))) : Option ((ByteArray × (Int × (Int × (ByteArray × (ByteArray × (ByteArray × (Int × (Int × (Int × (ByteArray × (ByteArray × (ByteArray × Int))))))))))))) := (bif s.2.1 then (bif (true && (decide (((27 : Int) ≤ (s.1.size : Int))))) then (some (s.1, (s.2.2.1, (s.2.2.2.1, (s.2.2.2.2.1, (s.2.2.2.2.2.1, (s.2.2.2.2.2.2.1, (s.2.2.2.2.2.2.2.1, (s.2.2.2.2.2.2.2.2.1, (s.2.2.2.2.2.2.2.2.2.1, ((ByteArray.extract s.1 11 27), s.2.2.2.2.2.2.2.2.2.2.2))))))))))) else none) else (some (s.1, s.2.2)))
theorem trade_Parse.l16_ok : ∀ s : Vals trade_Parse.sh16.tys, nodeK P trade_Parse.H (lp []) (placeAt (codeOf P 15) 16) 0 trade_Parse.sh16 trade_Parse.os16 s some = trade_Parse.l16 s := fun s => by kernel_rfl
noncomputable def trade_Parse.f (a : ByteArray) : Option ((Int × (Int × (ByteArray × (ByteArray × (ByteArray × Int))))) × Int) := (bif ((a.size : Int) != (59 : Int)) then (some (((0 : Int), ((0 : Int), ((bs []), ((bs []), ((bs []), (0 : Int)))))), (4 : Int))) else (bif (true && (decide (((1 : Int) ≤ (a.size : Int))))) then (((digit_Get.f (ByteArray.extract a 0 1))).bind fun x1 => (bif (true && (decide (((11 : Int) ≤ (a.size : Int))))) then (((digit_Get.f (ByteArray.extract a 1 11))).bind fun x2 => (bif (true && (decide (((45 : Int) ≤ (a.size : Int))))) then (((digit_Get.f (ByteArray.extract a 45 a.size))).bind fun x3 => (bif (true && (decide (((27 : Int) ≤ (a.size : Int))))) then (((trade_Parse_1.f (ByteArray.extract a 11 27))).bind fun x4 => (bif (true && (decide (((33 : Int) ≤ (a.size : Int))))) then (((trade_Parse_1.f (ByteArray.extract a 27 33))).bind fun x5 => (bif (true && (decide (((45 : Int) ≤ (a.size : Int))))) then (((trade_Parse_1.f (ByteArray.extract a 33 45))).bind fun x6 => (((trade_Parse.l9 (a, ((0 : Int), ((0 : Int), ((bs []), ((bs []), ((bs []), ((0 : Int), ((IntKind.wrap .i64 x1.1), ((IntKind.wrap .i64 x2.1), (x4, (x5, (x6, (IntKind.wrap .i64 x3.1))))))))))))))).bind fun x7 => (((trade_Parse.l10 x7)).bind fun x8 => (((trade_Parse.l12 x8)).bind fun x9 => (((trade_Parse.l13 x9)).bind fun x10 => (((trade_Parse.l15 x10)).bind fun x11 => (((trade_Parse.l16 x11)).bind fun x12 => (((trade_Text.f x12.2.2.2.2.2.2.2)).bind fun x13 => (bif (x13.2 != (0 : Int)) then (some (((0 : Int), ((0 : Int), ((bs []), ((bs []), ((bs []), (0 : Int)))))), (4 : Int))) else (bif (!((ByteArray.toList x13.1) == (ByteArray.toList x12.1))) then (some (((0 : Int), ((0 : Int), ((bs []), ((bs []), ((bs []), (0 : Int)))))), (4 : Int))) else (some (x12.2.2.2.2.2.2.2, (0 : Int))))))))))))) else none)) else none)) else none)) else none)) else none)) else none))
theorem trade_Parse.ok : ∀ a : Vals trade_Parse.As.tys, fnK P trade_Parse.H (lp [(9, (NodeT.summ ⟨trade_Parse.sh9, trade_Parse.os9, trade_Parse.l9⟩ 0)), (10, (NodeT.summ ⟨trade_Parse.sh10, trade_Parse.os10, trade_Parse.l10⟩ 0)), (12, (NodeT.summ ⟨trade_Parse.sh12, trade_Parse.os12, trade_Parse.l12⟩ 0)), (13, (NodeT.summ ⟨trade_Parse.sh13, trade_Parse.os13, trade_Parse.l13⟩ 0)), (15, (NodeT.summ ⟨trade_Parse.sh15, trade_Parse.os15, trade_Parse.l15⟩ 0)), (16, (NodeT.summ ⟨trade_Parse.sh16, trade_Parse.os16, trade_Parse.l16⟩ 0))]) 15 trade_Parse.As trade_Parse.m a some = trade_Parse.f a := fun a => by kernel_rfl
noncomputable abbrev trade_Parse.row : Row := fnRow 15 trade_Parse.As trade_Parse.m trade_Parse.f
theorem trade_Parse.row_ok : RowOK P G1 trade_Parse.row := row_told trade_Parse.hok (lp_of (l := [(9, (NodeT.summ ⟨trade_Parse.sh9, trade_Parse.os9, trade_Parse.l9⟩ 0)), (10, (NodeT.summ ⟨trade_Parse.sh10, trade_Parse.os10, trade_Parse.l10⟩ 0)), (12, (NodeT.summ ⟨trade_Parse.sh12, trade_Parse.os12, trade_Parse.l12⟩ 0)), (13, (NodeT.summ ⟨trade_Parse.sh13, trade_Parse.os13, trade_Parse.l13⟩ 0)), (15, (NodeT.summ ⟨trade_Parse.sh15, trade_Parse.os15, trade_Parse.l15⟩ 0)), (16, (NodeT.summ ⟨trade_Parse.sh16, trade_Parse.os16, trade_Parse.l16⟩ 0))]) ⟨(place_sum trade_Parse.hok (by kernel_rfl) (l := []) trivial trade_Parse.sh9 trade_Parse.os9 trade_Parse.l9 trade_Parse.l9_ok), ⟨(place_sum trade_Parse.hok (by kernel_rfl) (l := []) trivial trade_Parse.sh10 trade_Parse.os10 trade_Parse.l10 trade_Parse.l10_ok), ⟨(place_sum trade_Parse.hok (by kernel_rfl) (l := []) trivial trade_Parse.sh12 trade_Parse.os12 trade_Parse.l12 trade_Parse.l12_ok), ⟨(place_sum trade_Parse.hok (by kernel_rfl) (l := []) trivial trade_Parse.sh13 trade_Parse.os13 trade_Parse.l13 trade_Parse.l13_ok), ⟨(place_sum trade_Parse.hok (by kernel_rfl) (l := []) trivial trade_Parse.sh15 trade_Parse.os15 trade_Parse.l15 trade_Parse.l15_ok), ⟨(place_sum trade_Parse.hok (by kernel_rfl) (l := []) trivial trade_Parse.sh16 trade_Parse.os16 trade_Parse.l16 trade_Parse.l16_ok), trivial⟩⟩⟩⟩⟩⟩) (fun _ => rfl) trade_Parse.ok
abbrev bursarref20_Parse.As : Shs := (.cons (.x .s) .nil)
abbrev bursarref20_Parse.m : Back := [(false, T_api_Post), (false, .b)]
noncomputable abbrev bursarref20_Parse.H : HK := hk P G0 E0 J0 [bursarref20_May.row, bursarref20_Text.row, bursarref02_Get.row] noLoops 4
theorem bursarref20_Parse.rows : TabOK P G0 (tabF [bursarref20_May.row, bursarref20_Text.row, bursarref02_Get.row]) := rows_ok (ws := [bursarref20_May.row, bursarref20_Text.row, bursarref02_Get.row]) ⟨bursarref20_May.row_ok, ⟨bursarref20_Text.row_ok, ⟨bursarref02_Get.row_ok, trivial⟩⟩⟩
theorem bursarref20_Parse.hok : HKOK P bursarref20_Parse.H := hk_ok e0_ok j0_ok bursarref20_Parse.rows (fun g n => noLoops_ok g n) 4
noncomputable abbrev bursarref20_Parse.sh8 : SSh := ⟨[(0, (.x .s)), (2, (.pt 0 0)), (5, (.x (.i .i64))), (7, (.x (.i .i64))), (8, (.pt 1 0)), (36, (.x .b))], [.box (.cons (.x (.i .i64)) (.cons (.x (.i .i64)) (.cons (.x .s) (.cons (.x .s) (.cons (.x .s) (.cons (.x (.i .i64)) .nil)))))), .box (.cons (.x (.i .i64)) (.cons (.x (.i .i64)) (.cons (.x .s) (.cons (.x .s) (.cons (.x .s) (.cons (.x (.i .i64)) .nil))))))]⟩
noncomputable abbrev bursarref20_Parse.os8 : PEnds := [(.n, ⟨[(0, (.x .s)), (2, (.pt 0 0)), (5, (.x (.i .i64))), (7, (.x (.i .i64))), (8, (.pt 1 0))], [.box (.cons (.x (.i .i64)) (.cons (.x (.i .i64)) (.cons (.x .s) (.cons (.x .s) (.cons (.x .s) (.cons (.x (.i .i64)) .nil)))))), .box (.cons (.x (.i .i64)) (.cons (.x (.i .i64)) (.cons (.x .s) (.cons (.x .s) (.cons (.x .s) (.cons (.x (.i .i64)) .nil))))))]⟩)]
noncomputable def bursarref20_Parse.l8 (s : (ByteArray × (Int × (Int × (Bool × (Int × (Int × (ByteArray × (ByteArray × (ByteArray × (Int × (Int × (Int × (ByteArray × (ByteArray × (ByteArray × Int)))))))))))))))) : Option ((ByteArray × (Int × (Int × (Int × (Int × (ByteArray × (ByteArray × (ByteArray × (Int × (Int × (Int × (ByteArray × (ByteArray × (ByteArray × Int))))))))))))))) := (bif s.2.2.2.1 then (bif (true && (decide (((27 : Int) ≤ (s.1.size : Int))))) then (some (s.1, (s.2.1, (s.2.2.1, (s.2.2.2.2.1, (s.2.2.2.2.2.1, (s.2.2.2.2.2.2.1, (s.2.2.2.2.2.2.2.1, (s.2.2.2.2.2.2.2.2.1, (s.2.2.2.2.2.2.2.2.2.1, (s.2.2.2.2.2.2.2.2.2.2.1, (s.2.2.2.2.2.2.2.2.2.2.2.1, ((ByteArray.extract s.1 11 27), s.2.2.2.2.2.2.2.2.2.2.2.2.2))))))))))))) else none) else (some (s.1, (s.2.1, (s.2.2.1, s.2.2.2.2)))))
theorem bursarref20_Parse.l8_ok : ∀ s : Vals bursarref20_Parse.sh8.tys, nodeK P bursarref20_Parse.H (lp []) (placeAt (codeOf P 16) 8) 0 bursarref20_Parse.sh8 bursarref20_Parse.os8 s some = bursarref20_Parse.l8 s := fun s => by kernel_rfl
noncomputable abbrev bursarref20_Parse.sh11 : SSh := ⟨[(0, (.x .s)), (2, (.pt 0 0)), (5, (.x (.i .i64))), (7, (.x (.i .i64))), (8, (.pt 1 0)), (42, (.x .b))], [.box (.cons (.x (.i .i64)) (.cons (.x (.i .i64)) (.cons (.x .s) (.cons (.x .s) (.cons (.x .s) (.cons (.x (.i .i64)) .nil)))))), .box (.cons (.x (.i .i64)) (.cons (.x (.i .i64)) (.cons (.x .s) (.cons (.x .s) (.cons (.x .s) (.cons (.x (.i .i64)) .nil))))))]⟩
noncomputable abbrev bursarref20_Parse.os11 : PEnds := [(.n, ⟨[(0, (.x .s)), (2, (.pt 0 0)), (5, (.x (.i .i64))), (7, (.x (.i .i64))), (8, (.pt 1 0))], [.box (.cons (.x (.i .i64)) (.cons (.x (.i .i64)) (.cons (.x .s) (.cons (.x .s) (.cons (.x .s) (.cons (.x (.i .i64)) .nil)))))), .box (.cons (.x (.i .i64)) (.cons (.x (.i .i64)) (.cons (.x .s) (.cons (.x .s) (.cons (.x .s) (.cons (.x (.i .i64)) .nil))))))]⟩)]
noncomputable def bursarref20_Parse.l11 (s : (ByteArray × (Int × (Int × (Bool × (Int × (Int × (ByteArray × (ByteArray × (ByteArray × (Int × (Int × (Int × (ByteArray × (ByteArray × (ByteArray × Int)))))))))))))))) : Option ((ByteArray × (Int × (Int × (Int × (Int × (ByteArray × (ByteArray × (ByteArray × (Int × (Int × (Int × (ByteArray × (ByteArray × (ByteArray × Int))))))))))))))) := (bif s.2.2.2.1 then (bif (true && (decide (((33 : Int) ≤ (s.1.size : Int))))) then (some (s.1, (s.2.1, (s.2.2.1, (s.2.2.2.2.1, (s.2.2.2.2.2.1, (s.2.2.2.2.2.2.1, (s.2.2.2.2.2.2.2.1, (s.2.2.2.2.2.2.2.2.1, (s.2.2.2.2.2.2.2.2.2.1, (s.2.2.2.2.2.2.2.2.2.2.1, (s.2.2.2.2.2.2.2.2.2.2.2.1, (s.2.2.2.2.2.2.2.2.2.2.2.2.1, ((ByteArray.extract s.1 27 33), s.2.2.2.2.2.2.2.2.2.2.2.2.2.2)))))))))))))) else none) else (some (s.1, (s.2.1, (s.2.2.1, s.2.2.2.2)))))
theorem bursarref20_Parse.l11_ok : ∀ s : Vals bursarref20_Parse.sh11.tys, nodeK P bursarref20_Parse.H (lp []) (placeAt (codeOf P 16) 11) 0 bursarref20_Parse.sh11 bursarref20_Parse.os11 s some = bursarref20_Parse.l11 s := fun s => by kernel_rfl
noncomputable abbrev bursarref20_Parse.sh13 : SSh := ⟨[(0, (.x .s)), (2, (.pt 0 0)), (5, (.x (.i .i64))), (7, (.x (.i .i64))), (8, (.pt 1 0))], [.box (.cons (.x (.i .i64)) (.cons (.x (.i .i64)) (.cons (.x .s) (.cons (.x .s) (.cons (.x .s) (.cons (.x (.i .i64)) .nil)))))), .box (.cons (.x (.i .i64)) (.cons (.x (.i .i64)) (.cons (.x .s) (.cons (.x .s) (.cons (.x .s) (.cons (.x (.i .i64)) .nil))))))]⟩
noncomputable abbrev bursarref20_Parse.os13 : PEnds := [(.n, ⟨[(0, (.x .s)), (2, (.pt 0 0)), (5, (.x (.i .i64))), (7, (.x (.i .i64))), (8, (.pt 1 0)), (53, (.x .b))], [.box (.cons (.x (.i .i64)) (.cons (.x (.i .i64)) (.cons (.x .s) (.cons (.x .s) (.cons (.x .s) (.cons (.x (.i .i64)) .nil)))))), .box (.cons (.x (.i .i64)) (.cons (.x (.i .i64)) (.cons (.x .s) (.cons (.x .s) (.cons (.x .s) (.cons (.x (.i .i64)) .nil))))))]⟩)]
noncomputable def bursarref20_Parse.l13 (s : (ByteArray × (Int × (Int × (Int × (Int × (ByteArray × (ByteArray × (ByteArray × (Int × (Int × (Int × (ByteArray × (ByteArray × (ByteArray × Int))))))))))))))) : Option ((ByteArray × (Int × (Int × (Bool × (Int × (Int × (ByteArray × (ByteArray × (ByteArray × (Int × (Int × (Int × (ByteArray × (ByteArray × (ByteArray × Int)))))))))))))))) := (bif (s.2.2.2.2.2.2.2.2.2.1 != (1 : Int)) then (some (s.1, (s.2.1, (s.2.2.1, ((decide ((s.2.2.2.2.2.2.2.2.2.1 < (5 : Int)))), s.2.2.2))))) else (some (s.1, (s.2.1, (s.2.2.1, (false, s.2.2.2))))))
theorem bursarref20_Parse.l13_ok : ∀ s : Vals bursarref20_Parse.sh13.tys, nodeK P bursarref20_Parse.H (lp []) (placeAt (codeOf P 16) 13) 0 bursarref20_Parse.sh13 bursarref20_Parse.os13 s some = bursarref20_Parse.l13 s := fun s => by kernel_rfl
noncomputable abbrev bursarref20_Parse.sh14 : SSh := ⟨[(0, (.x .s)), (2, (.pt 0 0)), (5, (.x (.i .i64))), (7, (.x (.i .i64))), (8, (.pt 1 0)), (53, (.x .b))], [.box (.cons (.x (.i .i64)) (.cons (.x (.i .i64)) (.cons (.x .s) (.cons (.x .s) (.cons (.x .s) (.cons (.x (.i .i64)) .nil)))))), .box (.cons (.x (.i .i64)) (.cons (.x (.i .i64)) (.cons (.x .s) (.cons (.x .s) (.cons (.x .s) (.cons (.x (.i .i64)) .nil))))))]⟩
noncomputable abbrev bursarref20_Parse.os14 : PEnds := [(.n, ⟨[(0, (.x .s)), (2, (.pt 0 0)), (5, (.x (.i .i64))), (7, (.x (.i .i64))), (8, (.pt 1 0))], [.box (.cons (.x (.i .i64)) (.cons (.x (.i .i64)) (.cons (.x .s) (.cons (.x .s) (.cons (.x .s) (.cons (.x (.i .i64)) .nil)))))), .box (.cons (.x (.i .i64)) (.cons (.x (.i .i64)) (.cons (.x .s) (.cons (.x .s) (.cons (.x .s) (.cons (.x (.i .i64)) .nil))))))]⟩)]
noncomputable def bursarref20_Parse.l14 (s : (ByteArray × (Int × (Int × (Bool × (Int × (Int × (ByteArray × (ByteArray × (ByteArray × (Int × (Int × (Int × (ByteArray × (ByteArray × (ByteArray × Int)))))))))))))))) : Option ((ByteArray × (Int × (Int × (Int × (Int × (ByteArray × (ByteArray × (ByteArray × (Int × (Int × (Int × (ByteArray × (ByteArray × (ByteArray × Int))))))))))))))) := (bif s.2.2.2.1 then (bif (true && (decide (((45 : Int) ≤ (s.1.size : Int))))) then (some (s.1, (s.2.1, (s.2.2.1, (s.2.2.2.2.1, (s.2.2.2.2.2.1, (s.2.2.2.2.2.2.1, (s.2.2.2.2.2.2.2.1, (s.2.2.2.2.2.2.2.2.1, (s.2.2.2.2.2.2.2.2.2.1, (s.2.2.2.2.2.2.2.2.2.2.1, (s.2.2.2.2.2.2.2.2.2.2.2.1, (s.2.2.2.2.2.2.2.2.2.2.2.2.1, (s.2.2.2.2.2.2.2.2.2.2.2.2.2.1, ((ByteArray.extract s.1 33 45), s.2.2.2.2.2.2.2.2.2.2.2.2.2.2.2))))))))))))))) else none) else (some (s.1, (s.2.1, (s.2.2.1, s.2.2.2.2)))))
theorem bursarref20_Parse.l14_ok : ∀ s : Vals bursarref20_Parse.sh14.tys, nodeK P bursarref20_Parse.H (lp []) (placeAt (codeOf P 16) 14) 0 bursarref20_Parse.sh14 bursarref20_Parse.os14 s some = bursarref20_Parse.l14 s := fun s => by kernel_rfl
noncomputable def bursarref20_Parse.f (a : ByteArray) : Option ((Int × (Int × (ByteArray × (ByteArray × (ByteArray × Int))))) × Bool) := (bif ((a.size : Int) != (59 : Int)) then (some (((0 : Int), ((0 : Int), ((bs []), ((bs []), ((bs []), (0 : Int)))))), false)) else (bif (true && (decide (((11 : Int) ≤ (a.size : Int))))) then (((bursarref02_Get.f (ByteArray.extract a 1 11))).bind fun x1 => (bif (true && (decide (((45 : Int) ≤ (a.size : Int))))) then (((bursarref02_Get.f (ByteArray.extract a 45 a.size))).bind fun x2 => (bif (true && (decide (((0 : Int) < (a.size : Int))))) then (((bursarref20_Parse.l8 (a, (x1.2, (x2.2, ((decide (((IntKind.wrap .i64 ((IntKind.wrap .i64 (bt a 0)) - (48 : Int))) < (5 : Int)))), ((0 : Int), ((0 : Int), ((bs []), ((bs []), ((bs []), ((0 : Int), ((IntKind.wrap .i64 ((IntKind.wrap .i64 (bt a 0)) - (48 : Int))), ((IntKind.wrap .i64 x1.1), ((bs []), ((bs []), ((bs []), (IntKind.wrap .i64 x2.1)))))))))))))))))).bind fun x3 => (((bursarref20_Parse.l11 (x3.1, (x3.2.1, (x3.2.2.1, ((x3.2.2.2.2.2.2.2.2.2.1 != (1 : Int)), x3.2.2.2)))))).bind fun x4 => (((bursarref20_Parse.l13 x4)).bind fun x5 => (((bursarref20_Parse.l14 x5)).bind fun x6 => (bif (x6.2.1 != (0 : Int)) then (some (((0 : Int), ((0 : Int), ((bs []), ((bs []), ((bs []), (0 : Int)))))), false)) else (bif (x6.2.2.1 != (0 : Int)) then (some (((0 : Int), ((0 : Int), ((bs []), ((bs []), ((bs []), (0 : Int)))))), false)) else (((bursarref20_May.f x6.2.2.2.2.2.2.2.2.2)).bind fun x7 => (bif (!x7) then (some (((0 : Int), ((0 : Int), ((bs []), ((bs []), ((bs []), (0 : Int)))))), false)) else (((bursarref20_Text.f x6.2.2.2.2.2.2.2.2.2)).bind fun x8 => (bif (!((ByteArray.toList x8) == (ByteArray.toList x6.1))) then (some (((0 : Int), ((0 : Int), ((bs []), ((bs []), ((bs []), (0 : Int)))))), false)) else (some (x6.2.2.2.2.2.2.2.2.2, true)))))))))))) else none)) else none)) else none))
theorem bursarref20_Parse.ok : ∀ a : Vals bursarref20_Parse.As.tys, fnK P bursarref20_Parse.H (lp [(8, (NodeT.summ ⟨bursarref20_Parse.sh8, bursarref20_Parse.os8, bursarref20_Parse.l8⟩ 0)), (11, (NodeT.summ ⟨bursarref20_Parse.sh11, bursarref20_Parse.os11, bursarref20_Parse.l11⟩ 0)), (13, (NodeT.summ ⟨bursarref20_Parse.sh13, bursarref20_Parse.os13, bursarref20_Parse.l13⟩ 0)), (14, (NodeT.summ ⟨bursarref20_Parse.sh14, bursarref20_Parse.os14, bursarref20_Parse.l14⟩ 0))]) 16 bursarref20_Parse.As bursarref20_Parse.m a some = bursarref20_Parse.f a := fun a => by kernel_rfl
noncomputable abbrev bursarref20_Parse.row : Row := fnRow 16 bursarref20_Parse.As bursarref20_Parse.m bursarref20_Parse.f
theorem bursarref20_Parse.row_ok : RowOK P G0 bursarref20_Parse.row := row_told bursarref20_Parse.hok (lp_of (l := [(8, (NodeT.summ ⟨bursarref20_Parse.sh8, bursarref20_Parse.os8, bursarref20_Parse.l8⟩ 0)), (11, (NodeT.summ ⟨bursarref20_Parse.sh11, bursarref20_Parse.os11, bursarref20_Parse.l11⟩ 0)), (13, (NodeT.summ ⟨bursarref20_Parse.sh13, bursarref20_Parse.os13, bursarref20_Parse.l13⟩ 0)), (14, (NodeT.summ ⟨bursarref20_Parse.sh14, bursarref20_Parse.os14, bursarref20_Parse.l14⟩ 0))]) ⟨(place_sum bursarref20_Parse.hok (by kernel_rfl) (l := []) trivial bursarref20_Parse.sh8 bursarref20_Parse.os8 bursarref20_Parse.l8 bursarref20_Parse.l8_ok), ⟨(place_sum bursarref20_Parse.hok (by kernel_rfl) (l := []) trivial bursarref20_Parse.sh11 bursarref20_Parse.os11 bursarref20_Parse.l11 bursarref20_Parse.l11_ok), ⟨(place_sum bursarref20_Parse.hok (by kernel_rfl) (l := []) trivial bursarref20_Parse.sh13 bursarref20_Parse.os13 bursarref20_Parse.l13 bursarref20_Parse.l13_ok), ⟨(place_sum bursarref20_Parse.hok (by kernel_rfl) (l := []) trivial bursarref20_Parse.sh14 bursarref20_Parse.os14 bursarref20_Parse.l14 bursarref20_Parse.l14_ok), trivial⟩⟩⟩⟩) (fun _ => rfl) bursarref20_Parse.ok
end Go.Proofs.YtpoiijkodpnobaaGreatDoor
end
section
set_option linter.unusedVariables false
set_option linter.unusedSimpArgs false
namespace Go.Proofs.YtpoiijkodpnobaaGreatDoor
open Go Go.Fw
def n48 (c : UInt8) : Bool := c == 48
theorem n48_is (c : UInt8) : (((c.toNat : Nat) : Int) == 48) = n48 c := by
  unfold n48
  rw [Bool.eq_iff_iff, beq_iff_eq, beq_iff_eq]
  constructor
  · intro h; exact UInt8.toNat.inj (by show c.toNat = 48; omega)
  · rintro rfl; rfl
theorem trim_right : ∀ (n : Nat) (l : List UInt8), l.length = n → n ≤ 1000 → ∃ r, strings_trimRightByte.l2 (bs l, (48 : Int)) = some (bs r) ∧ r.length ≤ l.length ∧ (r.all n48 = l.all n48 ∧ (l.all n48 = true → r = []))
  | 0, l, hl, _ => by
    have : l = [] := List.eq_nil_of_length_eq_zero hl
    subst this
    refine ⟨[], ?_, by simp, rfl, fun _ => rfl⟩
    unfold strings_trimRightByte.l2
    rw [rounds_end (r := bs [])]
    rfl
  | n + 1, l, hl, hn => by
    rcases List.eq_nil_or_concat l with rfl | ⟨l', c, hlc⟩
    · simp at hl
    rw [List.concat_eq_append] at hlc
    subst hlc
    have hl' : l'.length = n := by simpa using hl
    have h1 : ((bs (l' ++ [c])).size : Int) > 0 := by rw [bs_size, List.length_append, List.length_singleton]; omega
    have hw : IntKind.wrap .i64 (((bs (l' ++ [c])).size : Int) - 1) = ((n : Nat) : Int) := by
      rw [bs_size, List.length_append, List.length_singleton, hl', wrap_i64 (by omega) (by omega)]; omega
    have h2 : ((n : Nat) : Int) < ((bs (l' ++ [c])).size : Int) := by rw [bs_size, List.length_append, List.length_singleton, hl']; omega
    have h3 : ((n : Nat) : Int) ≤ ((bs (l' ++ [c])).size : Int) := by omega
    have hb : bt (bs (l' ++ [c])) n = ((c.toNat : Nat) : Int) := by
      rw [bt_bs, ← hl']
      simp [List.getD_eq_getElem?_getD]
    have he : ByteArray.extract (bs (l' ++ [c])) 0 n = bs l' := by
      rw [bs_extract, ← hl']; simp
    have step : strings_trimRightByte.t2 (bs (l' ++ [c]), (48 : Int)) = some (bif n48 c then .inl (bs l', (48 : Int)) else .inr (bs (l' ++ [c]))) := by
      unfold strings_trimRightByte.t2
      simp only [decide_eq_true h1, cond_true, hw, ge0' n, decide_eq_true h2, decide_eq_true h3, Bool.and_self, Int.toNat_natCast, hb, n48_is, he]
      cases n48 c <;> rfl
    cases hc : n48 c with
    | true =>
      obtain ⟨r, ih, i1, i2, i3⟩ := trim_right n l' hl' (by omega)
      refine ⟨r, ?_, by simp; omega, by rw [i2]; simp [hc], fun h => i3 (by simpa [hc] using h)⟩
      unfold strings_trimRightByte.l2 at ih ⊢
      rw [rounds_next (s' := (bs l', (48 : Int))), ih]
      rw [step, hc]; rfl
    | false =>
      refine ⟨l' ++ [c], ?_, Nat.le_refl _, rfl, fun h => by simp [hc] at h⟩
      unfold strings_trimRightByte.l2
      rw [rounds_end (r := bs (l' ++ [c]))]
      rw [step, hc]; rfl
theorem trim_left : ∀ (l : List UInt8), l.length ≤ 1000 → ∃ r, strings_trimLeftByte.l2 (bs l, (48 : Int)) = some (bs r) ∧ (l.all n48 = true → r = []) ∧ (l.all n48 = false → r ≠ [])
  | [], _ => by
    refine ⟨[], ?_, fun _ => rfl, fun h => by simp at h⟩
    unfold strings_trimLeftByte.l2
    rw [rounds_end (r := bs [])]
    rfl
  | c :: l, hl => by
    have h1 : ((bs (c :: l)).size : Int) > 0 := by rw [bs_size, List.length_cons]; omega
    have h2 : (0 : Int) < ((bs (c :: l)).size : Int) := by omega
    have h3 : (1 : Int) ≤ ((bs (c :: l)).size : Int) := by omega
    have hb : bt (bs (c :: l)) 0 = ((c.toNat : Nat) : Int) := by rw [bt_bs]; rfl
    have he : ByteArray.extract (bs (c :: l)) 1 (bs (c :: l)).size = bs l := by
      rw [bs_extract, bs_size]; simp
    have step : strings_trimLeftByte.t2 (bs (c :: l), (48 : Int)) = some (bif n48 c then .inl (bs l, (48 : Int)) else .inr (bs (c :: l))) := by
      unfold strings_trimLeftByte.t2
      simp only [decide_eq_true h1, cond_true, decide_eq_true h2, decide_eq_true h3, Bool.and_self, hb, n48_is, he]
      cases n48 c <;> rfl
    cases hc : n48 c with
    | true =>
      obtain ⟨r, ih, i1, i2⟩ := trim_left l (by simp at hl; omega)
      refine ⟨r, ?_, fun h => i1 (by simpa [hc] using h), fun h => i2 (by simpa [hc] using h)⟩
      unfold strings_trimLeftByte.l2 at ih ⊢
      rw [rounds_next (s' := (bs l, (48 : Int))), ih]
      rw [step, hc]; rfl
    | false =>
      refine ⟨c :: l, ?_, fun h => by simp [hc] at h, fun _ => by simp⟩
      unfold strings_trimLeftByte.l2
      rw [rounds_end (r := bs (c :: l))]
      rw [step, hc]; rfl
def ownL (l : List UInt8) : List UInt8 := bif l.all n48 then [] else l
theorem own_is {l : List UInt8} (hl : l.length ≤ 1000) : trade_Parse_1.f (bs l) = some (bs (ownL l)) := by
  unfold trade_Parse_1.f ownL strings_trimRightByte.f strings_trimLeftByte.f
  simp only [texts_nil]
  by_cases h : l = []
  · subst h; rfl
  rw [decide_eq_false (fun e => h (bs_inj.1 e)), cond_false]
  obtain ⟨r, h1, h2, h3, h4⟩ := trim_right l.length l rfl hl
  obtain ⟨q, g1, g2, g3⟩ := trim_left r (by omega)
  simp only [h1, Option.bind_some, g1]
  cases ha : l.all n48 with
  | true => rw [g2 (by rw [h3, ha])]; rfl
  | false => rw [decide_eq_false (fun e => g3 (by rw [h3, ha]) (bs_inj.1 e))]; rfl
def zP : Po := (0, 0, bs [], bs [], bs [], 0)
def part (l : List UInt8) (i j : Nat) : List UInt8 := (l.take j).drop i
theorem part_len {l : List UInt8} (i j : Nat) : (part l i j).length ≤ j := by unfold part; simp; omega
def fixA (k : Int) (y e : List UInt8) : List UInt8 := bif decide (k ≥ 2) && decide (y = []) then e else y
def fixR (k : Int) (z e : List UInt8) : List UInt8 := bif (decide (k ≥ 2) && decide (k < 5)) && decide (z = []) then e else z
def fixN (k : Int) (x e : List UInt8) : List UInt8 := bif decide (k < 5) && decide (x = []) then e else x
noncomputable def rawP (l : List UInt8) : Po :=
  (IntKind.wrap .i64 ((digit_Get.f (bs (part l 0 1))).getD (0, 0)).1, IntKind.wrap .i64 ((digit_Get.f (bs (part l 1 11))).getD (0, 0)).1,
   bs (fixN (IntKind.wrap .i64 ((digit_Get.f (bs (part l 0 1))).getD (0, 0)).1) (ownL (part l 11 27)) (part l 11 27)),
   bs (fixA (IntKind.wrap .i64 ((digit_Get.f (bs (part l 0 1))).getD (0, 0)).1) (ownL (part l 27 33)) (part l 27 33)),
   bs (fixR (IntKind.wrap .i64 ((digit_Get.f (bs (part l 0 1))).getD (0, 0)).1) (ownL (part l 33 45)) (part l 33 45)),
   IntKind.wrap .i64 ((digit_Get.f (bs (part l 45 59))).getD (0, 0)).1)
theorem raw_small {l : List UInt8} (hl : l.length = 59) : smallP (rawP l) := by
  have h1 : (part l 11 27).length ≤ 20 := by unfold part; simp; omega
  have h2 : (part l 27 33).length ≤ 20 := by unfold part; simp; omega
  have h3 : (part l 33 45).length ≤ 20 := by unfold part; simp; omega
  have ho : ∀ l : List UInt8, l.length ≤ 20 → (ownL l).length ≤ 20 := fun l h => by unfold ownL; cases l.all n48 <;> simp [h]
  have cb : ∀ (t : Bool) {u v : List UInt8}, v.length ≤ 20 → u.length ≤ 20 → (bif t then u else v).length ≤ 20 := fun t u v h g => by cases t <;> assumption
  refine ⟨?_, ?_, ?_⟩
  · show (bs _).size ≤ 20
    rw [bs_size]; unfold fixN; exact cb _ (ho _ h1) h1
  · show (bs _).size ≤ 20
    rw [bs_size]; unfold fixA; exact cb _ (ho _ h2) h2
  · show (bs _).size ≤ 20
    rw [bs_size]; unfold fixR; exact cb _ (ho _ h3) h3
theorem tradeParse_is {l : List UInt8} (hl : l.length = 59) : trade_Parse.f (bs l) = some (bif mayP (rawP l) && decide (txtP (rawP l) = l) then (rawP l, 0) else (zP, 4)) := by
  have hsz : ((bs l).size : Int) = 59 := by rw [bs_size, hl]; rfl
  have hsn : (bs l).size = 59 := by rw [bs_size, hl]
  obtain ⟨q1, hq1⟩ := Get_some (l := part l 0 1) (by have := part_len (l := l) 0 1; omega)
  obtain ⟨q2, hq2⟩ := Get_some (l := part l 1 11) (by have := part_len (l := l) 1 11; omega)
  obtain ⟨q3, hq3⟩ := Get_some (l := part l 45 59) (by have := part_len (l := l) 45 59; omega)
  have o1 := own_is (l := part l 11 27) (by have := part_len (l := l) 11 27; omega)
  have o2 := own_is (l := part l 27 33) (by have := part_len (l := l) 27 33; omega)
  have o3 := own_is (l := part l 33 45) (by have := part_len (l := l) 33 45; omega)
  have hx : ∀ i j, ByteArray.extract (bs l) i j = bs (part l i j) := fun i j => bs_extract l i j
  have hsm := raw_small hl
  obtain ⟨p, hp⟩ : ∃ p, rawP l = p := ⟨_, rfl⟩
  have hp' := hp
  unfold rawP at hp'
  rw [hq1, hq2, hq3] at hp'
  simp only [Option.getD_some] at hp'
  rw [hp] at hsm ⊢
  have ht := tradeText_is hsm
  unfold trade_Parse.f
  have d1 : decide ((1 : Int) ≤ 59) = true := rfl
  have d2 : decide ((11 : Int) ≤ 59) = true := rfl
  have d3 : decide ((45 : Int) ≤ 59) = true := rfl
  have d4 : decide ((27 : Int) ≤ 59) = true := rfl
  have d5 : decide ((33 : Int) ≤ 59) = true := rfl
  simp only [hsz, hsn, bne_self_eq_false, cond_false, d1, d2, d3, d4, d5, Bool.and_self, cond_true, hx, hq1, hq2, hq3, Option.bind_some, o1, o2, o3]
  have g9 : ∀ (k b a : Int) (x y z : ByteArray), (trade_Parse.l9 (bs l, 0, 0, bs [], bs [], bs [], 0, k, b, x, y, z, a)) = some (bs l, decide (k ≥ 2) && decide (y = bs []), 0, 0, bs [], bs [], bs [], 0, k, b, x, y, z, a) := by
    intro k b a x y z
    unfold trade_Parse.l9
    simp only [texts_nil]
    cases decide (k ≥ 2) <;> rfl
  have g12 : ∀ (k b a : Int) (x y z : ByteArray), (trade_Parse.l12 (bs l, 0, 0, bs [], bs [], bs [], 0, k, b, x, y, z, a)) = some (bs l, (decide (k ≥ 2) && decide (k < 5)) && decide (z = bs []), 0, 0, bs [], bs [], bs [], 0, k, b, x, y, z, a) := by
    intro k b a x y z
    unfold trade_Parse.l12
    simp only [texts_nil]
    cases decide (k ≥ 2) <;> cases decide (k < 5) <;> rfl
  have g15 : ∀ (k b a : Int) (x y z : ByteArray), (trade_Parse.l15 (bs l, 0, 0, bs [], bs [], bs [], 0, k, b, x, y, z, a)) = some (bs l, decide (k < 5) && decide (x = bs []), 0, 0, bs [], bs [], bs [], 0, k, b, x, y, z, a) := by
    intro k b a x y z
    unfold trade_Parse.l15
    simp only [texts_nil]
    cases decide (k < 5) <;> rfl
  have g10 : ∀ (t : Bool) (k b a : Int) (x y z : ByteArray), (trade_Parse.l10 (bs l, t, 0, 0, bs [], bs [], bs [], 0, k, b, x, y, z, a)) = some (bs l, 0, 0, bs [], bs [], bs [], 0, k, b, x, (bif t then bs (part l 27 33) else y), z, a) := by
    intro t k b a x y z
    unfold trade_Parse.l10
    simp only [hsz, d5, Bool.and_self, cond_true, hx]
    cases t <;> rfl
  have g13 : ∀ (t : Bool) (k b a : Int) (x y z : ByteArray), (trade_Parse.l13 (bs l, t, 0, 0, bs [], bs [], bs [], 0, k, b, x, y, z, a)) = some (bs l, 0, 0, bs [], bs [], bs [], 0, k, b, x, y, (bif t then bs (part l 33 45) else z), a) := by
    intro t k b a x y z
    unfold trade_Parse.l13
    simp only [hsz, d3, Bool.and_self, cond_true, hx]
    cases t <;> rfl
  have g16 : ∀ (t : Bool) (k b a : Int) (x y z : ByteArray), (trade_Parse.l16 (bs l, t, 0, 0, bs [], bs [], bs [], 0, k, b, x, y, z, a)) = some (bs l, 0, 0, bs [], bs [], bs [], 0, k, b, (bif t then bs (part l 11 27) else x), y, z, a) := by
    intro t k b a x y z
    unfold trade_Parse.l16
    simp only [hsz, d4, Bool.and_self, cond_true, hx]
    cases t <;> rfl
  simp only [g9, g10, g12, g13, g15, g16, Option.bind_some]
  have bsb : ∀ (t : Bool) (u v : List UInt8), (bif t then bs u else bs v) = bs (bif t then u else v) := fun t u v => by cases t <;> rfl
  have dn : ∀ u : List UInt8, decide (bs u = bs []) = decide (u = []) := fun u => by
    rw [Bool.eq_iff_iff]; simp only [decide_eq_true_eq]; exact bs_inj
  simp only [bsb, dn]
  unfold fixA fixR fixN at hp'
  simp only [hp', ht, Option.bind_some]
  cases hm : mayP p
  · rfl
  · simp only [cond_true, bne_self_eq_false, cond_false, texts_eq, Bool.true_and]
    have : decide (bs (txtP p) = bs l) = decide (txtP p = l) := by
      rw [Bool.eq_iff_iff]; simp only [decide_eq_true_eq]; exact bs_inj
    rw [this]
    cases decide (txtP p = l) <;> rfl
end Go.Proofs.YtpoiijkodpnobaaGreatDoor
end
section
set_option linter.unusedVariables false
set_option maxRecDepth 100000
namespace Go.Proofs.YtpoiijkodpnobaaGreatDoor
open Go Go.Fw
abbrev bursarlaw20_few.As : Shs := (.cons (.x T_api_Post) .nil)
abbrev bursarlaw20_few.m : Back := [(false, T_api_Post)]
noncomputable abbrev bursarlaw20_few.H : HK := hk P G0 E0 J0 [] noLoops 4
theorem bursarlaw20_few.rows : TabOK P G0 (tabF []) := rows_ok (ws := []) trivial
theorem bursarlaw20_few.hok : HKOK P bursarlaw20_few.H := hk_ok e0_ok j0_ok bursarlaw20_few.rows (fun g n => noLoops_ok g n) 4
noncomputable def bursarlaw20_few.f (a : (Int × (Int × (ByteArray × (ByteArray × (ByteArray × Int)))))) : Option (Int × (Int × (ByteArray × (ByteArray × (ByteArray × Int))))) := (bif (decide (((a.2.2.1.size : Int) > (20 : Int)))) then (bif (true && (decide (((20 : Int) ≤ (a.2.2.1.size : Int))))) then (bif (decide (((a.2.2.2.1.size : Int) > (20 : Int)))) then (bif (true && (decide (((20 : Int) ≤ (a.2.2.2.1.size : Int))))) then (bif (decide (((a.2.2.2.2.1.size : Int) > (20 : Int)))) then (bif (true && (decide (((20 : Int) ≤ (a.2.2.2.2.1.size : Int))))) then (some (a.1, (a.2.1, ((ByteArray.extract a.2.2.1 0 20), ((ByteArray.extract a.2.2.2.1 0 20), ((ByteArray.extract a.2.2.2.2.1 0 20), a.2.2.2.2.2)))))) else none) else (some (a.1, (a.2.1, ((ByteArray.extract a.2.2.1 0 20), ((ByteArray.extract a.2.2.2.1 0 20), a.2.2.2.2)))))) else none) else (bif (decide (((a.2.2.2.2.1.size : Int) > (20 : Int)))) then (bif (true && (decide (((20 : Int) ≤ (a.2.2.2.2.1.size : Int))))) then (some (a.1, (a.2.1, ((ByteArray.extract a.2.2.1 0 20), (a.2.2.2.1, ((ByteArray.extract a.2.2.2.2.1 0 20), a.2.2.2.2.2)))))) else none) else (some (a.1, (a.2.1, ((ByteArray.extract a.2.2.1 0 20), a.2.2.2)))))) else none) else (bif (decide (((a.2.2.2.1.size : Int) > (20 : Int)))) then (bif (true && (decide (((20 : Int) ≤ (a.2.2.2.1.size : Int))))) then (bif (decide (((a.2.2.2.2.1.size : Int) > (20 : Int)))) then (bif (true && (decide (((20 : Int) ≤ (a.2.2.2.2.1.size : Int))))) then (some (a.1, (a.2.1, (a.2.2.1, ((ByteArray.extract a.2.2.2.1 0 20), ((ByteArray.extract a.2.2.2.2.1 0 20), a.2.2.2.2.2)))))) else none) else (some (a.1, (a.2.1, (a.2.2.1, ((ByteArray.extract a.2.2.2.1 0 20), a.2.2.2.2)))))) else none) else (bif (decide (((a.2.2.2.2.1.size : Int) > (20 : Int)))) then (bif (true && (decide (((20 : Int) ≤ (a.2.2.2.2.1.size : Int))))) then (some (a.1, (a.2.1, (a.2.2.1, (a.2.2.2.1, ((ByteArray.extract a.2.2.2.2.1 0 20), a.2.2.2.2.2)))))) else none) else (some a))))
theorem bursarlaw20_few.ok : ∀ a : Vals bursarlaw20_few.As.tys, fnK P bursarlaw20_few.H (lp []) 14 bursarlaw20_few.As bursarlaw20_few.m a some = bursarlaw20_few.f a := fun a => by kernel_rfl
noncomputable abbrev bursarlaw20_few.row : Row := fnRow 14 bursarlaw20_few.As bursarlaw20_few.m bursarlaw20_few.f
theorem bursarlaw20_few.row_ok : RowOK P G0 bursarlaw20_few.row := row_told bursarlaw20_few.hok (lp_of (l := []) trivial) (fun _ => rfl) bursarlaw20_few.ok
end Go.Proofs.YtpoiijkodpnobaaGreatDoor
end
section
set_option linter.unusedVariables false
set_option linter.unusedSimpArgs false
namespace Go.Proofs.YtpoiijkodpnobaaGreatDoor
open Go Go.Fw
noncomputable def kR (l : List UInt8) : Int := IntKind.wrap .i64 (IntKind.wrap .i64 (bt (bs l) 0) - 48)
noncomputable def rawR (l : List UInt8) : Po :=
  (kR l, IntKind.wrap .i64 ((bursarref02_Get.f (bs (part l 1 11))).getD (0, 0)).1,
   bs (bif decide (kR l < 5) then part l 11 27 else []), bs (bif kR l != 1 then part l 27 33 else []), bs (bif kR l != 1 && decide (kR l < 5) then part l 33 45 else []),
   IntKind.wrap .i64 ((bursarref02_Get.f (bs (part l 45 59))).getD (0, 0)).1)
noncomputable def okR (l : List UInt8) : Bool := ((bursarref02_Get.f (bs (part l 1 11))).getD (0, 0)).2 == 0 && ((bursarref02_Get.f (bs (part l 45 59))).getD (0, 0)).2 == 0
theorem rawR_small {l : List UInt8} (hl : l.length = 59) : smallP (rawR l) := by
  have h1 : (part l 11 27).length ≤ 20 := by unfold part; simp; omega
  have h2 : (part l 27 33).length ≤ 20 := by unfold part; simp; omega
  have h3 : (part l 33 45).length ≤ 20 := by unfold part; simp; omega
  have cb : ∀ (t : Bool) {u : List UInt8}, u.length ≤ 20 → (bif t then u else []).length ≤ 20 := fun t u h => by cases t <;> simp [h]
  exact ⟨by show (bs _).size ≤ 20; rw [bs_size]; exact cb _ h1, by show (bs _).size ≤ 20; rw [bs_size]; exact cb _ h2, by show (bs _).size ≤ 20; rw [bs_size]; exact cb _ h3⟩
theorem refTParse_is {l : List UInt8} (hl : l.length = 59) : bursarref20_Parse.f (bs l) = some (bif okR l && (mayP (rawR l) && decide (txtP (rawR l) = l)) then (rawR l, true) else (zP, false)) := by
  have hsz : ((bs l).size : Int) = 59 := by rw [bs_size, hl]; rfl
  have hsn : (bs l).size = 59 := by rw [bs_size, hl]
  obtain ⟨q1, hq1⟩ := RefGet_some (l := part l 1 11) (by have := part_len (l := l) 1 11; omega)
  obtain ⟨q2, hq2⟩ := RefGet_some (l := part l 45 59) (by have := part_len (l := l) 45 59; omega)
  have hx : ∀ i j, ByteArray.extract (bs l) i j = bs (part l i j) := fun i j => bs_extract l i j
  have hsm := rawR_small hl
  obtain ⟨p, hp⟩ : ∃ p, rawR l = p := ⟨_, rfl⟩
  have hp' := hp
  unfold rawR at hp'
  unfold okR
  rw [hq1, hq2] at hp' ⊢
  simp only [Option.getD_some] at hp' ⊢
  rw [hp] at hsm ⊢
  have hmay := refTMay_is (p := p) (by have := hsm.2.1; omega)
  unfold bursarref20_Parse.f
  have d1 : decide ((0 : Int) < 59) = true := rfl
  have d2 : decide ((11 : Int) ≤ 59) = true := rfl
  have d3 : decide ((45 : Int) ≤ 59) = true := rfl
  have d4 : decide ((27 : Int) ≤ 59) = true := rfl
  have d5 : decide ((33 : Int) ≤ 59) = true := rfl
  simp only [hsz, hsn, bne_self_eq_false, cond_false, d1, d2, d3, d4, d5, Bool.and_self, cond_true, hx, hq1, hq2, Option.bind_some]
  have hk : IntKind.wrap .i64 (IntKind.wrap .i64 (bt (bs l) 0) - 48) = kR l := rfl
  simp only [hk]
  obtain ⟨k, hkk⟩ : ∃ k, kR l = k := ⟨_, rfl⟩
  rw [hkk] at hp' ⊢
  have g8 : ∀ (e f : Int) (t : Bool) (k b a : Int), (bursarref20_Parse.l8 (bs l, e, f, t, 0, 0, bs [], bs [], bs [], 0, k, b, bs [], bs [], bs [], a)) = some (bs l, e, f, 0, 0, bs [], bs [], bs [], 0, k, b, bs (bif t then part l 11 27 else []), bs [], bs [], a) := by
    intro e f t k b a
    unfold bursarref20_Parse.l8
    simp only [hsz, d4, Bool.and_self, cond_true, hx]
    cases t <;> rfl
  have g11 : ∀ (e f : Int) (t : Bool) (k b a : Int) (x : ByteArray), (bursarref20_Parse.l11 (bs l, e, f, t, 0, 0, bs [], bs [], bs [], 0, k, b, x, bs [], bs [], a)) = some (bs l, e, f, 0, 0, bs [], bs [], bs [], 0, k, b, x, bs (bif t then part l 27 33 else []), bs [], a) := by
    intro e f t k b a x
    unfold bursarref20_Parse.l11
    simp only [hsz, d5, Bool.and_self, cond_true, hx]
    cases t <;> rfl
  have g13 : ∀ (e f : Int) (k b a : Int) (x y : ByteArray), (bursarref20_Parse.l13 (bs l, e, f, 0, 0, bs [], bs [], bs [], 0, k, b, x, y, bs [], a)) = some (bs l, e, f, (k != 1 && decide (k < 5)), 0, 0, bs [], bs [], bs [], 0, k, b, x, y, bs [], a) := by
    intro e f k b a x y
    unfold bursarref20_Parse.l13
    cases (k != 1) <;> rfl
  have g14 : ∀ (e f : Int) (t : Bool) (k b a : Int) (x y : ByteArray), (bursarref20_Parse.l14 (bs l, e, f, t, 0, 0, bs [], bs [], bs [], 0, k, b, x, y, bs [], a)) = some (bs l, e, f, 0, 0, bs [], bs [], bs [], 0, k, b, x, y, bs (bif t then part l 33 45 else []), a) := by
    intro e f t k b a x y
    unfold bursarref20_Parse.l14
    simp only [hsz, d3, Bool.and_self, cond_true, hx]
    cases t <;> rfl
  simp only [g8, g11, g13, g14, Option.bind_some, hp', hmay]
  cases he1 : (q1.2 == 0)
  · simp only [bne, he1, Bool.not_false, cond_true, Bool.false_and, cond_false]; rfl
  cases he2 : (q2.2 == 0)
  · simp only [bne, he1, he2, Bool.not_false, Bool.not_true, cond_true, Bool.true_and, Bool.false_and, cond_false]; rfl
  simp only [bne, he1, he2, Bool.not_true, cond_false, Bool.true_and]
  cases hm : mayP p
  · rfl
  · simp only [Bool.not_true, cond_false, refTText_is hsm hm, Option.bind_some, texts_eq, Bool.true_and]
    have : decide (bs (txtP p) = bs l) = decide (txtP p = l) := by
      rw [Bool.eq_iff_iff]; simp only [decide_eq_true_eq]; exact bs_inj
    rw [this]
    cases decide (txtP p = l) <;> rfl
theorem part_mid {u v w : List UInt8} {i j : Nat} (hi : i = u.length) (hj : j = u.length + v.length) : part (u ++ v ++ w) i j = v := by
  subst hi; subst hj
  unfold part
  rw [List.take_append, List.take_of_length_le (by simp)]
  simp
theorem card_size {s : ByteArray} (h : cardB s = true) : s.size = 16 := by
  unfold cardB at h
  simp only [Bool.and_eq_true, beq_iff_eq] at h
  exact h.1
theorem acq_size {s : ByteArray} (h : acqB s = true) : s.size = 6 := by
  unfold acqB at h
  simp only [Bool.and_eq_true, beq_iff_eq] at h
  exact h.1
theorem ref_size {s : ByteArray} (h : refB s = true) : s.size = 12 := by
  unfold refB at h
  simp only [Bool.and_eq_true, beq_iff_eq] at h
  exact h.1
theorem not_nil {s : ByteArray} {n : Nat} (h : s.size = n + 1) : s ≠ bs [] := fun e => by
  rw [e] at h
  simp [bs_size] at h
theorem orL_nil (w : Nat) : orL (bs []) w = List.replicate w 48 := by unfold orL; rw [decide_eq_true rfl]; rfl
theorem orL_some {s : ByteArray} {n w : Nat} (h : s.size = n + 1) : orL s w = s.data.toList := by unfold orL; rw [decide_eq_false (not_nil h)]; rfl
theorem own_zero (w : Nat) : ownL (List.replicate w 48) = [] := by
  unfold ownL
  have : (List.replicate w (48 : UInt8)).all n48 = true := by
    rw [List.all_eq_true]
    intro c hc
    rw [(List.mem_replicate.1 hc).2]; rfl
  rw [this]; rfl
theorem own_fix (X : List UInt8) : (bif decide (ownL X = []) then X else ownL X) = X := by
  unfold ownL
  cases h : X.all n48
  · by_cases hx : X = []
    · subst hx; rfl
    · simp [hx]
  · rfl
theorem mayP_small {p : Po} (h : mayP p = true) : smallP p := by
  obtain ⟨a1, a2, a3⟩ := mayP_parts h
  rcases mayP_kind h with hk | hk | hk | hk | hk | hk
  · obtain ⟨h1, h2, h3⟩ := a1 hk
    exact ⟨by have := card_size h1; omega, by rw [h2]; decide, by rw [h3]; decide⟩
  · obtain ⟨h1, h2, h3⟩ := a3 (by omega)
    exact ⟨by have := card_size h1; omega, by have := acq_size h2; omega, by have := ref_size h3; omega⟩
  · obtain ⟨h1, h2, h3⟩ := a3 (by omega)
    exact ⟨by have := card_size h1; omega, by have := acq_size h2; omega, by have := ref_size h3; omega⟩
  · obtain ⟨h1, h2, h3⟩ := a3 (by omega)
    exact ⟨by have := card_size h1; omega, by have := acq_size h2; omega, by have := ref_size h3; omega⟩
  · obtain ⟨h1, h2, h3⟩ := a2 (.inl hk)
    exact ⟨by rw [h1]; decide, by have := acq_size h2; omega, by rw [h3]; decide⟩
  · obtain ⟨h1, h2, h3⟩ := a2 (.inr hk)
    exact ⟨by rw [h1]; decide, by have := acq_size h2; omega, by rw [h3]; decide⟩
theorem dig_padD (k n : Nat) : digL (padD k n) := fun c h => padD_dig k n c h
structure Cut (p : Po) (l : List UInt8) : Prop where
  len : l.length = 59
  k0 : l.getD 0 0 = dgt p.1.toNat
  k : part l 0 1 = [dgt p.1.toNat]
  b : part l 1 11 = padD 10 p.2.1.toNat
  x : part l 11 27 = orL p.2.2.1 16
  y : part l 27 33 = orL p.2.2.2.1 6
  z : part l 33 45 = orL p.2.2.2.2.1 12
  n : part l 45 59 = padD 14 p.2.2.2.2.2.toNat
theorem orL_16 {s : ByteArray} {w : Nat} (h : s = bs [] ∨ s.size = w) : (orL s w).length = w := by
  rcases h with rfl | h
  · rw [orL_nil]; simp
  · unfold orL
    by_cases hs : s = bs []
    · rw [decide_eq_true hs]; simp
    · rw [decide_eq_false hs]; exact h
theorem cut_txt {p : Po} (h : mayP p = true) : Cut p (txtP p) := by
  have sz : (p.2.2.1 = bs [] ∨ p.2.2.1.size = 16) ∧ (p.2.2.2.1 = bs [] ∨ p.2.2.2.1.size = 6) ∧ (p.2.2.2.2.1 = bs [] ∨ p.2.2.2.2.1.size = 12) := by
    obtain ⟨a1, a2, a3⟩ := mayP_parts h
    rcases mayP_kind h with hk | hk | hk | hk | hk | hk
    · obtain ⟨h1, h2, h3⟩ := a1 hk; exact ⟨.inr (card_size h1), .inl h2, .inl h3⟩
    · obtain ⟨h1, h2, h3⟩ := a3 (by omega); exact ⟨.inr (card_size h1), .inr (acq_size h2), .inr (ref_size h3)⟩
    · obtain ⟨h1, h2, h3⟩ := a3 (by omega); exact ⟨.inr (card_size h1), .inr (acq_size h2), .inr (ref_size h3)⟩
    · obtain ⟨h1, h2, h3⟩ := a3 (by omega); exact ⟨.inr (card_size h1), .inr (acq_size h2), .inr (ref_size h3)⟩
    · obtain ⟨h1, h2, h3⟩ := a2 (.inl hk); exact ⟨.inl h1, .inr (acq_size h2), .inl h3⟩
    · obtain ⟨h1, h2, h3⟩ := a2 (.inr hk); exact ⟨.inl h1, .inr (acq_size h2), .inl h3⟩
  obtain ⟨X, hX⟩ : ∃ X, orL p.2.2.1 16 = X := ⟨_, rfl⟩
  obtain ⟨Y, hY⟩ : ∃ Y, orL p.2.2.2.1 6 = Y := ⟨_, rfl⟩
  obtain ⟨Z, hZ⟩ : ∃ Z, orL p.2.2.2.2.1 12 = Z := ⟨_, rfl⟩
  obtain ⟨B, hB⟩ : ∃ B, padD 10 p.2.1.toNat = B := ⟨_, rfl⟩
  obtain ⟨C, hC⟩ : ∃ C, padD 14 p.2.2.2.2.2.toNat = C := ⟨_, rfl⟩
  have l1 : X.length = 16 := hX ▸ orL_16 sz.1
  have l2 : Y.length = 6 := hY ▸ orL_16 sz.2.1
  have l3 : Z.length = 12 := hZ ▸ orL_16 sz.2.2
  have l4 : B.length = 10 := hB ▸ padD_len 10 _
  have l5 : C.length = 14 := hC ▸ padD_len 14 _
  have ht : txtP p = [dgt p.1.toNat] ++ B ++ X ++ Y ++ Z ++ C := by unfold txtP; rw [hX, hY, hZ, hB, hC]
  refine ⟨by rw [ht]; simp [l1, l2, l3, l4, l5], by rw [ht]; rfl, ?_, ?_, ?_, ?_, ?_, ?_⟩
  · rw [ht, show [dgt p.1.toNat] ++ B ++ X ++ Y ++ Z ++ C = [] ++ [dgt p.1.toNat] ++ (B ++ X ++ Y ++ Z ++ C) by simp]
    exact part_mid rfl rfl
  · rw [ht, hB, show [dgt p.1.toNat] ++ B ++ X ++ Y ++ Z ++ C = [dgt p.1.toNat] ++ B ++ (X ++ Y ++ Z ++ C) by simp]
    exact part_mid rfl (by simp [l4])
  · rw [ht, hX, show [dgt p.1.toNat] ++ B ++ X ++ Y ++ Z ++ C = ([dgt p.1.toNat] ++ B) ++ X ++ (Y ++ Z ++ C) by simp]
    exact part_mid (by simp [l4]) (by simp [l4, l1])
  · rw [ht, hY, show [dgt p.1.toNat] ++ B ++ X ++ Y ++ Z ++ C = ([dgt p.1.toNat] ++ B ++ X) ++ Y ++ (Z ++ C) by simp]
    exact part_mid (by simp [l4, l1]) (by simp [l4, l1, l2])
  · rw [ht, hZ]
    exact part_mid (by simp [l4, l1, l2]) (by simp [l4, l1, l2, l3])
  · rw [ht, hC, show [dgt p.1.toNat] ++ B ++ X ++ Y ++ Z ++ C = ([dgt p.1.toNat] ++ B ++ X ++ Y ++ Z) ++ C ++ [] by simp]
    exact part_mid (by simp [l4, l1, l2, l3]) (by simp [l4, l1, l2, l3, l5])
theorem dgt_pad {k : Int} (hk : k = 1 ∨ k = 2 ∨ k = 3 ∨ k = 4 ∨ k = 5 ∨ k = 6) : padD 1 k.toNat = [dgt k.toNat] := by
  rw [padD, padD, List.nil_append, show k.toNat % 10 = k.toNat by omega]
theorem raw_back {p : Po} (h : mayP p = true) : rawP (txtP p) = p := by
  obtain ⟨_, _, c1, c2, c3, c4, c5, c6⟩ := cut_txt h
  obtain ⟨⟨b0, b1⟩, n0, n1⟩ := mayP_num h
  have hk := mayP_kind h
  obtain ⟨a1, a2, a3⟩ := mayP_parts h
  have t10 : (10 : Nat) ^ 10 = 10000000000 := by decide
  have t14 : (10 : Nat) ^ 14 = 100000000000000 := by decide
  have g1 : digit_Get.f (bs [dgt p.1.toNat]) = some (((p.1.toNat : Nat) : Int), 0) := by
    rw [← dgt_pad hk, GetD_is (by rw [padD_len]; omega) (dig_padD _ _), numL_padD 1 _ (by omega)]
  have g2 : digit_Get.f (bs (padD 10 p.2.1.toNat)) = some (((p.2.1.toNat : Nat) : Int), 0) := by
    rw [GetD_is (by rw [padD_len]; omega) (dig_padD _ _), numL_padD 10 _ (by omega)]
  have g3 : digit_Get.f (bs (padD 14 p.2.2.2.2.2.toNat)) = some (((p.2.2.2.2.2.toNat : Nat) : Int), 0) := by
    rw [GetD_is (by rw [padD_len]; omega) (dig_padD _ _), numL_padD 14 _ (by omega)]
  have w1 : IntKind.wrap .i64 ((p.1.toNat : Nat) : Int) = p.1 := by rw [wrap_i64 (by omega) (by omega)]; omega
  have w2 : IntKind.wrap .i64 ((p.2.1.toNat : Nat) : Int) = p.2.1 := by rw [wrap_i64 (by omega) (by omega)]; omega
  have w3 : IntKind.wrap .i64 ((p.2.2.2.2.2.toNat : Nat) : Int) = p.2.2.2.2.2 := by rw [wrap_i64 (by omega) (by omega)]; omega
  unfold rawP
  rw [c1, c2, c3, c4, c5, c6, g1, g2, g3]
  simp only [Option.getD_some, w1, w2, w3]
  have ex : bs (fixN p.1 (ownL (orL p.2.2.1 16)) (orL p.2.2.1 16)) = p.2.2.1 ∧ bs (fixA p.1 (ownL (orL p.2.2.2.1 6)) (orL p.2.2.2.1 6)) = p.2.2.2.1 ∧ bs (fixR p.1 (ownL (orL p.2.2.2.2.1 12)) (orL p.2.2.2.2.1 12)) = p.2.2.2.2.1 := by
    unfold fixN fixA fixR
    have k1 : p.1 = 1 ∨ (2 ≤ p.1 ∧ p.1 ≤ 4) ∨ (p.1 = 5 ∨ p.1 = 6) := by omega
    rcases k1 with k1 | k1 | k1
    · obtain ⟨h1, h2, h3⟩ := a1 k1
      rw [h2, h3, orL_nil, orL_nil, own_zero, own_zero, orL_some (card_size h1), decide_eq_true (show p.1 < 5 by omega), decide_eq_false (show ¬ p.1 ≥ 2 by omega), Bool.true_and, own_fix, ← eq_bs]
      exact ⟨rfl, rfl, rfl⟩
    · obtain ⟨h1, h2, h3⟩ := a3 k1
      rw [orL_some (card_size h1), orL_some (acq_size h2), orL_some (ref_size h3), decide_eq_true (show p.1 < 5 by omega), decide_eq_true (show p.1 ≥ 2 by omega)]
      simp only [Bool.true_and, own_fix]
      rw [← eq_bs, ← eq_bs, ← eq_bs]
      exact ⟨rfl, rfl, rfl⟩
    · obtain ⟨h1, h2, h3⟩ := a2 k1
      rw [h1, h3, orL_nil, orL_nil, own_zero, own_zero, orL_some (acq_size h2), decide_eq_false (show ¬ p.1 < 5 by omega), decide_eq_true (show p.1 ≥ 2 by omega), Bool.true_and, own_fix, ← eq_bs]
      exact ⟨rfl, rfl, rfl⟩
  rw [ex.1, ex.2.1, ex.2.2]
theorem rawR_back {p : Po} (h : mayP p = true) : rawR (txtP p) = p ∧ okR (txtP p) = true := by
  obtain ⟨_, c0, c1, c2, c3, c4, c5, c6⟩ := cut_txt h
  obtain ⟨⟨b0, b1⟩, n0, n1⟩ := mayP_num h
  have hk := mayP_kind h
  obtain ⟨a1, a2, a3⟩ := mayP_parts h
  have t10 : (10 : Nat) ^ 10 = 10000000000 := by decide
  have t14 : (10 : Nat) ^ 14 = 100000000000000 := by decide
  have g2 : bursarref02_Get.f (bs (padD 10 p.2.1.toNat)) = some (((p.2.1.toNat : Nat) : Int), 0) := by
    rw [RefGet_is (by rw [padD_len]; omega) (dig_padD _ _), numL_padD 10 _ (by omega)]
  have g3 : bursarref02_Get.f (bs (padD 14 p.2.2.2.2.2.toNat)) = some (((p.2.2.2.2.2.toNat : Nat) : Int), 0) := by
    rw [RefGet_is (by rw [padD_len]; omega) (dig_padD _ _), numL_padD 14 _ (by omega)]
  have w1 : kR (txtP p) = p.1 := by
    unfold kR
    have e : IntKind.wrap .i64 ((48 + p.1.toNat : Nat) : Int) = ((48 + p.1.toNat : Nat) : Int) := wrap_i64 (by omega) (by omega)
    rw [bt_bs, c0, dgt_nat (by omega), e, wrap_i64 (by omega) (by omega)]
    omega
  have w2 : IntKind.wrap .i64 ((p.2.1.toNat : Nat) : Int) = p.2.1 := by rw [wrap_i64 (by omega) (by omega)]; omega
  have w3 : IntKind.wrap .i64 ((p.2.2.2.2.2.toNat : Nat) : Int) = p.2.2.2.2.2 := by rw [wrap_i64 (by omega) (by omega)]; omega
  unfold rawR okR
  rw [c2, c3, c4, c5, c6, g2, g3, w1]
  simp only [Option.getD_some, w2, w3]
  refine ⟨?_, rfl⟩
  have ex : bs (bif decide (p.1 < 5) then orL p.2.2.1 16 else []) = p.2.2.1 ∧ bs (bif p.1 != 1 then orL p.2.2.2.1 6 else []) = p.2.2.2.1 ∧ bs (bif p.1 != 1 && decide (p.1 < 5) then orL p.2.2.2.2.1 12 else []) = p.2.2.2.2.1 := by
    have k1 : p.1 = 1 ∨ (2 ≤ p.1 ∧ p.1 ≤ 4) ∨ (p.1 = 5 ∨ p.1 = 6) := by omega
    rcases k1 with k1 | k1 | k1
    · obtain ⟨h1, h2, h3⟩ := a1 k1
      have e1 : (p.1 != 1) = false := by simp [k1]
      rw [h2, h3, orL_some (card_size h1), decide_eq_true (show p.1 < 5 by omega), e1, cond_true, ← eq_bs]
      exact ⟨rfl, rfl, rfl⟩
    · obtain ⟨h1, h2, h3⟩ := a3 k1
      have e1 : (p.1 != 1) = true := by simp; omega
      rw [orL_some (card_size h1), orL_some (acq_size h2), orL_some (ref_size h3), decide_eq_true (show p.1 < 5 by omega), e1, Bool.and_self, cond_true, cond_true, cond_true, ← eq_bs, ← eq_bs, ← eq_bs]
      exact ⟨rfl, rfl, rfl⟩
    · obtain ⟨h1, h2, h3⟩ := a2 k1
      have e1 : (p.1 != 1) = true := by simp; omega
      rw [h1, h3, orL_some (acq_size h2), decide_eq_false (show ¬ p.1 < 5 by omega), e1, cond_true, ← eq_bs]
      exact ⟨rfl, rfl, rfl⟩
  rw [ex.1, ex.2.1, ex.2.2]
theorem back_is {p : Po} (h : mayP p = true) : trade_Parse.f (bs (txtP p)) = some (p, 0) := by
  rw [tradeParse_is (cut_txt h).len, raw_back h, h, decide_eq_true rfl]
  rfl
theorem both_parse (s : ByteArray) : (∃ p, mayP p = true ∧ trade_Parse.f s = some (p, 0) ∧ bursarref20_Parse.f s = some (p, true)) ∨ (trade_Parse.f s = some (zP, 4) ∧ bursarref20_Parse.f s = some (zP, false)) := by
  obtain ⟨l, rfl⟩ : ∃ l, s = bs l := ⟨_, eq_bs s⟩
  by_cases hl : l.length = 59
  · by_cases hx : ∃ p, mayP p = true ∧ txtP p = l
    · obtain ⟨p, hm, rfl⟩ := hx
      refine .inl ⟨p, hm, back_is hm, ?_⟩
      rw [refTParse_is hl, (rawR_back hm).1, (rawR_back hm).2, hm, decide_eq_true rfl]
      rfl
    · refine .inr ⟨?_, ?_⟩
      · rw [tradeParse_is hl]
        cases hm : mayP (rawP l)
        · rfl
        · rw [decide_eq_false (fun e => hx ⟨_, hm, e⟩)]; rfl
      · rw [refTParse_is hl]
        cases hm : mayP (rawR l)
        · rw [Bool.false_and, Bool.and_false]; rfl
        · rw [decide_eq_false (fun e => hx ⟨_, hm, e⟩), Bool.and_false, Bool.and_false]; rfl
  · have hsz : (((bs l).size : Int) != 59) = true := by rw [bs_size]; simp; omega
    refine .inr ⟨?_, ?_⟩
    · unfold trade_Parse.f
      rw [hsz]; rfl
    · unfold bursarref20_Parse.f
      rw [hsz]; rfl
end Go.Proofs.YtpoiijkodpnobaaGreatDoor
end
section
namespace Go.Proofs
open Go.Shelf
def Tryz.lays157_ren : Go.Shelf.Ren := ⟨fun | 157 => 191 | 229 => 197 | 199 => 198 | 261 => 208 | 311 => 213 | 312 => 214 | n => n, fun | 9 => 9 | 31 => 123 | 3 => 3 | 5 => 5 | 4 => 4 | 119 => 228 | 0 => 0 | 40 => 188 | 152 => 260 | 21 => 21 | 154 => 262 | 51 => 200 | 141 => 264 | 196 => 268 | 193 => 265 | 198 => 271 | 49 => 269 | 194 => 266 | 201 => 274 | 226 => 276 | 46 => 163 | 227 => 277 | n => n, fun | 0 => 8 | 6 => 9 | n => n⟩
theorem Tryz.lays157 : Go.Proofs.Lays.n157 Tryz.prog Tryz.lays157_ren := {
  mixed := by kernel_rfl
  f157 := Tryz.func191.trans (congrArg some (by kernel_rfl))
  f199 := Tryz.func198.trans (congrArg some (by kernel_rfl))
  f229 := Tryz.func197.trans (congrArg some (by kernel_rfl))
  f261 := Tryz.func208.trans (congrArg some (by kernel_rfl))
  f311 := Tryz.func213.trans (congrArg some (by kernel_rfl))
  f312 := Tryz.func214.trans (congrArg some (by kernel_rfl))
  t0 := Tryz.underlying0
  a0 := Tryz.isAgg0
  z0 := Tryz.sizeOf0
  v0 := Tryz.zeroValue0
  t3 := Tryz.underlying3
  a3 := Tryz.isAgg3
  z3 := Tryz.sizeOf3
  v3 := Tryz.zeroValue3
  t4 := Tryz.underlying4
  a4 := Tryz.isAgg4
  z4 := Tryz.sizeOf4
  v4 := Tryz.zeroValue4
  t5 := Tryz.underlying5
  a5 := Tryz.isAgg5
  z5 := Tryz.sizeOf5
  v5 := Tryz.zeroValue5
  t9 := Tryz.underlying9
  a9 := Tryz.isAgg9
  z9 := Tryz.sizeOf9
  v9 := Tryz.zeroValue9
  t21 := Tryz.underlying21
  a21 := Tryz.isAgg21
  z21 := Tryz.sizeOf21
  v21 := Tryz.zeroValue21
  t31 := Tryz.underlying123
  a31 := Tryz.isAgg123
  z31 := Tryz.sizeOf123
  v31 := Tryz.zeroValue123
  t40 := Tryz.underlying188
  a40 := Tryz.isAgg188
  z40 := Tryz.sizeOf188
  v40 := Tryz.zeroValue188
  t46 := Tryz.underlying163
  a46 := Tryz.isAgg163
  z46 := Tryz.sizeOf163
  v46 := Tryz.zeroValue163
  t49 := Tryz.underlying269
  a49 := Tryz.isAgg269
  z49 := Tryz.sizeOf269
  v49 := Tryz.zeroValue269
  t51 := Tryz.underlying200
  a51 := Tryz.isAgg200
  z51 := Tryz.sizeOf200
  v51 := Tryz.zeroValue200
  t119 := Tryz.underlying228
  a119 := Tryz.isAgg228
  z119 := Tryz.sizeOf228
  t141 := Tryz.underlying264
  a141 := Tryz.isAgg264
  z141 := Tryz.sizeOf264
  v141 := Tryz.zeroValue264
  t152 := Tryz.underlying260
  a152 := Tryz.isAgg260
  z152 := Tryz.sizeOf260
  v152 := Tryz.zeroValue260
  t154 := Tryz.underlying262
  a154 := Tryz.isAgg262
  z154 := Tryz.sizeOf262
  v154 := Tryz.zeroValue262
  t193 := Tryz.underlying265
  a193 := Tryz.isAgg265
  z193 := Tryz.sizeOf265
  v193 := Tryz.zeroValue265
  t194 := Tryz.underlying266
  a194 := Tryz.isAgg266
  z194 := Tryz.sizeOf266
  v194 := Tryz.zeroValue266
  t196 := Tryz.underlying268
  a196 := Tryz.isAgg268
  z196 := Tryz.sizeOf268
  v196 := Tryz.zeroValue268
  t198 := Tryz.underlying271
  a198 := Tryz.isAgg271
  z198 := Tryz.sizeOf271
  v198 := Tryz.zeroValue271
  t201 := Tryz.underlying274
  a201 := Tryz.isAgg274
  z201 := Tryz.sizeOf274
  v201 := Tryz.zeroValue274
  t226 := Tryz.underlying276
  a226 := Tryz.isAgg276
  z226 := Tryz.sizeOf276
  v226 := Tryz.zeroValue276
  t227 := Tryz.underlying277
  a227 := Tryz.isAgg277
  z227 := Tryz.sizeOf277
  v227 := Tryz.zeroValue277
  g0 := by kernel_rfl
  g6 := by kernel_rfl }
end Go.Proofs
end
section
set_option linter.unusedVariables false
namespace Go.Proofs.YtpoiijkodpnobaaGreatDoor
open Go Go.Fw Go.RowKit Go.Shelf
abbrev strings_Fields.As : Shs := .cons (.x .s) .nil
abbrev strings_Fields.m : Back := [(true, .l .s)]
abbrev strings_Fields.f (a : ByteArray) : Option (List ByteArray) := bif decide (a.size < 4294967281) && a.data.toList.all (fun b => decide (b.toNat < 128)) then some ((Lib.fields a.data.toList).map fun l => bs l) else none
noncomputable abbrev strings_Fields.row : Row := fnRow 191 strings_Fields.As strings_Fields.m strings_Fields.f
theorem strings_Fields.row_ok : RowOK P G0 strings_Fields.row := by
  have key : ∀ (ds : List D) (a : ByteArray) (q : List ByteArray), decArgs strings_Fields.As ds = some a → strings_Fields.f a = some q → Fw.Enters P 191 ∧ PCall P G0 191 ds (.fr 1 (.t .s q)) := by
    intro ds a q ha hq
    refine ⟨ent_of Tryz.func191 (by kernel_rfl) (by kernel_rfl), ?_⟩
    have hds := (decArgs_argD ha).symm
    refine PCall.coe (ds' := argD strings_Fields.As a) ?_ (by rw [← hds]; exact coeA_len) fun w I f hf => by rw [← hds]; exact coeA_rel hf
    refine pcall_belowI fun w I K vs hg hI hK hsz hr => ?_
    have h0 := hr 0 (.s a) rfl
    have hvs : vs = #[.string a] := by
      have hs : vs.size = 1 := hsz
      rw [Array.getD_eq_getD_getElem?, Array.getElem?_eq_getElem (by omega)] at h0
      simp only [Option.getD_some] at h0
      refine Array.ext (by simpa using hs) fun i hi hi' => ?_
      match i, hi with
      | 0, _ => cases h : vs[0] <;> rw [h] at h0 <;> cases h0; rfl
      | i + 1, hi => omega
    subst hvs
    unfold strings_Fields.f at hq
    obtain ⟨hb, hq⟩ := cond_some hq
    simp only [Bool.and_eq_true, decide_eq_true_eq, List.all_eq_true] at hb
    injection hq with hq
    subst hq
    refine (Any.strings_Fields Tryz.lays157 (by kernel_rfl) (by kernel_rfl) a w hb.1 (fun j b hj => hb.2 b (List.mem_of_getElem? hj)) (tab_of_glob hg (g := 8) (by kernel_rfl) (by kernel_rfl))).mono ?_
    rintro e w' ⟨rfl, rfl⟩
    refine ⟨_, rfl, alloc_below _ _, ?_⟩
    obtain ⟨l, hl⟩ : ∃ l, Lib.fields a.data.toList = l := ⟨_, rfl⟩
    rw [hl]
    have := frOK_alloc (w := w) (I := I) (K := K) (xs := (l.map fun l => bs l).map D.s) (vs := l.map fun l => Value.string ⟨l.toArray⟩) (t := 9) hI hK (by simp) (fun x hx => by
      obtain ⟨y, _, rfl⟩ := List.mem_map.1 hx; rfl) (fun v hv => by
      obtain ⟨y, _, rfl⟩ := List.mem_map.1 hv; rfl) (fun j d hj => by
      simp only [List.getElem?_map] at hj
      obtain ⟨y, hy, rfl⟩ := Option.map_eq_some_iff.1 hj
      obtain ⟨z, hz, rfl⟩ := Option.map_eq_some_iff.1 hy
      simp only [Array.getD_eq_getD_getElem?, List.getElem?_toArray, List.getElem?_map, hz, Option.map_some, Option.getD_some]
      exact RelD.s _)
    simp only [List.length_map] at this
    exact .inl this
  exact fun ds a q => key ds a q
end Go.Proofs.YtpoiijkodpnobaaGreatDoor
end
section
namespace Go.Proofs
open Go.Shelf
def Tryz.laysC172_ren : Go.Shelf.Ren := ⟨fun | 172 => 193 | 244 => 200 | 245 => 122 | 247 => 142 | 279 => 153 | 280 => 154 | 281 => 155 | 282 => 156 | 287 => 121 | 316 => 177 | 171 => 52 | 205 => 178 | 321 => 151 | 322 => 152 | 243 => 90 | 246 => 124 | 283 => 157 | 284 => 158 | 285 => 159 | 286 => 160 | 129 => 180 | 317 => 179 | 318 => 181 | 319 => 182 | 320 => 183 | 337 => 189 | 338 => 190 | n => n, fun | 9 => 9 | 3 => 3 | 75 => 141 | 76 => 170 | 4 => 4 | 5 => 5 | 167 => 206 | 37 => 132 | 0 => 0 | 85 => 161 | 2 => 2 | 168 => 208 | 53 => 95 | 175 => 142 | 46 => 163 | 210 => 234 | 127 => 204 | 145 => 247 | 143 => 245 | 21 => 21 | 171 => 211 | 173 => 214 | 212 => 237 | 51 => 200 | 20 => 20 | 213 => 238 | 232 => 257 | 233 => 258 | 80 => 173 | n => n, fun | 15 => 2 | 16 => 3 | 17 => 4 | 18 => 6 | 19 => 7 | n => n⟩
theorem Tryz.laysC172 : Go.Proofs.LaysC.n172 Tryz.prog Tryz.laysC172_ren := {
  mixed := by kernel_rfl
  f129 := Tryz.func180.trans (congrArg some (by kernel_rfl))
  f171 := Tryz.func52.trans (congrArg some (by kernel_rfl))
  f172 := Tryz.func193.trans (congrArg some (by kernel_rfl))
  f205 := Tryz.func178.trans (congrArg some (by kernel_rfl))
  f243 := Tryz.func90.trans (congrArg some (by kernel_rfl))
  f244 := Tryz.func200.trans (congrArg some (by kernel_rfl))
  f245 := Tryz.func122.trans (congrArg some (by kernel_rfl))
  f246 := Tryz.func124.trans (congrArg some (by kernel_rfl))
  f247 := Tryz.func142.trans (congrArg some (by kernel_rfl))
  f279 := Tryz.func153.trans (congrArg some (by kernel_rfl))
  f280 := Tryz.func154.trans (congrArg some (by kernel_rfl))
  f281 := Tryz.func155.trans (congrArg some (by kernel_rfl))
  f282 := Tryz.func156.trans (congrArg some (by kernel_rfl))
  f283 := Tryz.func157.trans (congrArg some (by kernel_rfl))
  f284 := Tryz.func158.trans (congrArg some (by kernel_rfl))
  f285 := Tryz.func159.trans (congrArg some (by kernel_rfl))
  f286 := Tryz.func160.trans (congrArg some (by kernel_rfl))
  f287 := Tryz.func121.trans (congrArg some (by kernel_rfl))
  f316 := Tryz.func177.trans (congrArg some (by kernel_rfl))
  f317 := Tryz.func179.trans (congrArg some (by kernel_rfl))
  f318 := Tryz.func181.trans (congrArg some (by kernel_rfl))
  f319 := Tryz.func182.trans (congrArg some (by kernel_rfl))
  f320 := Tryz.func183.trans (congrArg some (by kernel_rfl))
  f321 := Tryz.func151.trans (congrArg some (by kernel_rfl))
  f322 := Tryz.func152.trans (congrArg some (by kernel_rfl))
  f337 := Tryz.func189.trans (congrArg some (by kernel_rfl))
  f338 := Tryz.func190.trans (congrArg some (by kernel_rfl))
  t0 := Tryz.underlying0
  a0 := Tryz.isAgg0
  z0 := Tryz.sizeOf0
  v0 := Tryz.zeroValue0
  t2 := Tryz.underlying2
  a2 := Tryz.isAgg2
  z2 := Tryz.sizeOf2
  v2 := Tryz.zeroValue2
  t3 := Tryz.underlying3
  a3 := Tryz.isAgg3
  z3 := Tryz.sizeOf3
  v3 := Tryz.zeroValue3
  t4 := Tryz.underlying4
  a4 := Tryz.isAgg4
  z4 := Tryz.sizeOf4
  v4 := Tryz.zeroValue4
  t5 := Tryz.underlying5
  a5 := Tryz.isAgg5
  z5 := Tryz.sizeOf5
  v5 := Tryz.zeroValue5
  t9 := Tryz.underlying9
  a9 := Tryz.isAgg9
  z9 := Tryz.sizeOf9
  v9 := Tryz.zeroValue9
  t20 := Tryz.underlying20
  a20 := Tryz.isAgg20
  z20 := Tryz.sizeOf20
  v20 := Tryz.zeroValue20
  t21 := Tryz.underlying21
  a21 := Tryz.isAgg21
  z21 := Tryz.sizeOf21
  v21 := Tryz.zeroValue21
  t37 := Tryz.underlying132
  a37 := Tryz.isAgg132
  z37 := Tryz.sizeOf132
  v37 := Tryz.zeroValue132
  t46 := Tryz.underlying163
  a46 := Tryz.isAgg163
  z46 := Tryz.sizeOf163
  v46 := Tryz.zeroValue163
  t51 := Tryz.underlying200
  a51 := Tryz.isAgg200
  z51 := Tryz.sizeOf200
  v51 := Tryz.zeroValue200
  t53 := Tryz.underlying95
  a53 := Tryz.isAgg95
  z53 := Tryz.sizeOf95
  v53 := Tryz.zeroValue95
  t75 := Tryz.underlying141
  a75 := Tryz.isAgg141
  z75 := Tryz.sizeOf141
  v75 := Tryz.zeroValue141
  t76 := Tryz.underlying170
  a76 := Tryz.isAgg170
  z76 := Tryz.sizeOf170
  v76 := Tryz.zeroValue170
  t85 := Tryz.underlying161
  a85 := Tryz.isAgg161
  z85 := Tryz.sizeOf161
  v85 := Tryz.zeroValue161
  t127 := Tryz.underlying204
  a127 := Tryz.isAgg204
  z127 := Tryz.sizeOf204
  v127 := Tryz.zeroValue204
  t143 := Tryz.underlying245
  a143 := Tryz.isAgg245
  z143 := Tryz.sizeOf245
  v143 := Tryz.zeroValue245
  t145 := Tryz.underlying247
  a145 := Tryz.isAgg247
  z145 := Tryz.sizeOf247
  v145 := Tryz.zeroValue247
  t167 := Tryz.underlying206
  a167 := Tryz.isAgg206
  z167 := Tryz.sizeOf206
  v167 := Tryz.zeroValue206
  t168 := Tryz.underlying208
  a168 := Tryz.isAgg208
  z168 := Tryz.sizeOf208
  v168 := Tryz.zeroValue208
  t171 := Tryz.underlying211
  a171 := Tryz.isAgg211
  z171 := Tryz.sizeOf211
  v171 := Tryz.zeroValue211
  t173 := Tryz.underlying214
  a173 := Tryz.isAgg214
  z173 := Tryz.sizeOf214
  v173 := Tryz.zeroValue214
  t175 := Tryz.underlying142
  a175 := Tryz.isAgg142
  z175 := Tryz.sizeOf142
  v175 := Tryz.zeroValue142
  t210 := Tryz.underlying234
  a210 := Tryz.isAgg234
  z210 := Tryz.sizeOf234
  v210 := Tryz.zeroValue234
  t212 := Tryz.underlying237
  a212 := Tryz.isAgg237
  z212 := Tryz.sizeOf237
  v212 := Tryz.zeroValue237
  t213 := Tryz.underlying238
  a213 := Tryz.isAgg238
  z213 := Tryz.sizeOf238
  t232 := Tryz.underlying257
  a232 := Tryz.isAgg257
  z232 := Tryz.sizeOf257
  v232 := Tryz.zeroValue257
  t233 := Tryz.underlying258
  a233 := Tryz.isAgg258
  z233 := Tryz.sizeOf258
  v233 := Tryz.zeroValue258
  g15 := by kernel_rfl
  g16 := by kernel_rfl
  g17 := by kernel_rfl
  g18 := by kernel_rfl
  g19 := by kernel_rfl
  t80 := Tryz.underlying173
  a80 := Tryz.isAgg173
  z80 := Tryz.sizeOf173
  v80 := Tryz.zeroValue173
  i0 := by kernel_rfl
  i2 := by kernel_rfl
  i3 := by kernel_rfl
  i4 := by kernel_rfl
  i5 := by kernel_rfl
  i9 := by kernel_rfl
  i20 := by kernel_rfl
  i21 := by kernel_rfl
  i37 := by kernel_rfl
  i46 := by kernel_rfl
  i51 := by kernel_rfl
  i53 := by kernel_rfl
  i75 := by kernel_rfl
  i76 := by kernel_rfl
  i80 := by kernel_rfl
  i85 := by kernel_rfl
  i127 := by kernel_rfl
  i143 := by kernel_rfl
  i145 := by kernel_rfl
  i167 := by kernel_rfl
  i168 := by kernel_rfl
  i171 := by kernel_rfl
  i173 := by kernel_rfl
  i175 := by kernel_rfl
  i210 := by kernel_rfl
  i212 := by kernel_rfl
  i232 := by kernel_rfl
  i233 := by kernel_rfl
  m15 := by kernel_rfl
  m16 := by kernel_rfl
  m17 := by kernel_rfl
  m18 := by kernel_rfl
  m19 := by kernel_rfl
  c0 := by kernel_rfl
  c2 := by kernel_rfl
  c3 := by kernel_rfl
  c4 := by kernel_rfl
  c5 := by kernel_rfl
  c9 := by kernel_rfl
  c20 := by kernel_rfl
  c21 := by kernel_rfl
  c37 := by kernel_rfl
  c46 := by kernel_rfl
  c51 := by kernel_rfl
  c53 := by kernel_rfl
  c75 := by kernel_rfl
  c76 := by kernel_rfl
  c80 := by kernel_rfl
  c85 := by kernel_rfl
  c127 := by kernel_rfl
  c143 := by kernel_rfl
  c145 := by kernel_rfl
  c167 := by kernel_rfl
  c168 := by kernel_rfl
  c171 := by kernel_rfl
  c173 := by kernel_rfl
  c175 := by kernel_rfl
  c210 := by kernel_rfl
  c212 := by kernel_rfl
  c213 := by kernel_rfl
  c232 := by kernel_rfl
  c233 := by kernel_rfl }
end Go.Proofs
end
section
set_option linter.unusedVariables false
namespace Go.Proofs.YtpoiijkodpnobaaGreatDoor
open Go Go.Fw Go.RowKit Go.Shelf
def atoiU (l : List UInt8) : Int × Bool := match Lib.atoiAll l with
  | .ok v => (v, false)
  | .«syntax» => (0, true)
  | .range => (Lib.atoiSat l, true)
abbrev strconv_Atoi.As : Shs := .cons (.x .s) .nil
abbrev strconv_Atoi.m : Back := [(false, .i .i64), (false, .e)]
abbrev strconv_Atoi.f (a : ByteArray) : Option (Int × Bool) := bif decide (a.size ≤ 281474976710656) then some (atoiU a.data.toList) else none
noncomputable abbrev strconv_Atoi.row : Row := fnRow 193 strconv_Atoi.As strconv_Atoi.m strconv_Atoi.f
theorem atoi_bytes_below (w : World) (t : TypeId) (s : ByteArray) : Below w.heap.size w (Lib.bytesWorld w t s) := by
  unfold Lib.bytesWorld World.freeze
  rw [if_neg (by decide)]
  refine ⟨rfl, rfl, rfl, by simp, fun k hk => ?_⟩
  show ((w.heap.push _).modify _ _)[k]? = _
  rw [Array.getElem?_modify, if_neg (by show ¬ w.heap.size = k; omega), Array.getElem?_push, if_neg (by omega)]
theorem strconv_Atoi.row_ok : RowOK P G1 strconv_Atoi.row := by
  have key : ∀ (ds : List D) (a : ByteArray) (q : Int × Bool), decArgs strconv_Atoi.As ds = some a → strconv_Atoi.f a = some q → Fw.Enters P 193 ∧ PCall P G1 193 ds (.tp [.i .i64 q.1, .er q.2]) := by
    intro ds a q ha hq
    refine ⟨ent_of Tryz.func193 (by kernel_rfl) (by kernel_rfl), ?_⟩
    have hds := (decArgs_argD ha).symm
    refine PCall.coe (ds' := argD strconv_Atoi.As a) ?_ (by rw [← hds]; exact coeA_len) fun w I f hf => by rw [← hds]; exact coeA_rel hf
    refine pcall_below fun w I K vs hg hsz hr => ?_
    have h0 := hr 0 (.s a) rfl
    have hvs : vs = #[.string a] := by
      have hs : vs.size = 1 := hsz
      rw [Array.getD_eq_getD_getElem?, Array.getElem?_eq_getElem (by omega)] at h0
      simp only [Option.getD_some] at h0
      refine Array.ext (by simpa using hs) fun i hi hi' => ?_
      match i, hi with
      | 0, _ => cases h : vs[0] <;> rw [h] at h0 <;> cases h0; rfl
      | i + 1, hi => omega
    subst hvs
    unfold strconv_Atoi.f at hq
    obtain ⟨hb, hq⟩ := cond_some hq
    simp only [decide_eq_true_eq] at hb
    injection hq with hq
    subst hq
    unfold atoiU
    have tup : ∀ (w' : World) (n : Int) (b : Bool) (v : Value), RelD w' I (.er b) v → RelX w' I K (.tp [.i .i64 n, .er b]) (.tuple #[.int .i64 n, v]) := fun w' n b v hv => ⟨_, rfl, RelD.i .i64 n, ⟨hv, trivial, fun b h => by cases b <;> cases h⟩, fun b h => by cases h⟩
    cases hp : Lib.atoiAll a.data.toList with
    | ok u =>
      refine (Any.strconv_Atoi_ok Tryz.laysC172 a (by omega) u hp w).mono ?_
      rintro e w' ⟨rfl, hw⟩
      refine ⟨_, rfl, ?_, tup w' u false _ .er0⟩
      rcases hw with rfl | ⟨t, rfl⟩
      · exact .refl _ _
      · exact atoi_bytes_below _ _ _
    | «syntax» =>
      obtain ⟨tp, p, hv⟩ := err_of_glob (P := P) hg (g := 2) (name := "strconv.ErrSyntax") (by kernel_rfl) rfl
      refine (Any.strconv_Atoi_syntax_var Tryz.laysC172 a hb hp tp p w hv).mono ?_
      rintro e w' ⟨N, rfl, _, _, hb⟩
      exact ⟨_, rfl, hb, tup w' 0 true _ (.er1 _ _)⟩
    | range =>
      obtain ⟨tp, p, hv⟩ := err_of_glob (P := P) hg (g := 3) (name := "strconv.ErrRange") (by kernel_rfl) rfl
      refine (Any.strconv_Atoi_range_var Tryz.laysC172 a hb hp tp p w hv).mono ?_
      rintro e w' ⟨N, rfl, _, _, hb⟩
      exact ⟨_, rfl, hb, tup w' _ true _ (.er1 _ _)⟩
  exact fun ds a q => key ds a q
end Go.Proofs.YtpoiijkodpnobaaGreatDoor
end
section
set_option linter.unusedVariables false
set_option maxRecDepth 100000
namespace Go.Proofs.YtpoiijkodpnobaaGreatDoor
open Go Go.Fw
abbrev spec_kinds.row : Row := closedRow 195 (.ag [.s (bs []), .nF, .s (bs [110]), .fn 203 [], .s (bs [97, 110]), .fn 204 [], .s (bs [97, 110, 115]), .fn 206 [], .s (bs [98]), .fn 207 []])
theorem spec_kinds.row_ok : RowOK P G0 spec_kinds.row := closed_ok e0_ok j0_ok (T := []) trivial 60 (by kernel_rfl)
noncomputable abbrev spec_read.tab : List (ByteArray × Int × Int × Int) := [(bs [110, 46, 46, 49, 57], (1, 2, 19)), (bs [110, 54], (1, 0, 6)), (bs [110, 49, 50], (1, 0, 12)), (bs [110, 49, 48], (1, 0, 10)), (bs [110, 56], (1, 0, 8)), (bs [110, 52], (1, 0, 4)), (bs [110, 51], (1, 0, 3)), (bs [110, 50], (1, 0, 2)), (bs [110, 49], (1, 0, 1)), (bs [97, 110, 57], (2, 0, 9)), (bs [110, 46, 46, 49, 49], (1, 2, 11)), (bs [97, 110, 46, 46, 50, 56], (2, 2, 28)), (bs [97, 110, 115, 46, 46, 51, 55], (3, 2, 37)), (bs [97, 110, 115, 46, 46, 46, 49, 48, 52], (3, 3, 104)), (bs [97, 110, 49, 50], (2, 0, 12)), (bs [97, 110, 54], (2, 0, 6)), (bs [97, 110, 50], (2, 0, 2)), (bs [97, 110, 51], (2, 0, 3)), (bs [97, 110, 115, 56], (3, 0, 8)), (bs [97, 110, 115, 49, 53], (3, 0, 15)), (bs [97, 110, 115, 52, 48], (3, 0, 40)), (bs [97, 110, 115, 46, 46, 50, 53], (3, 2, 25)), (bs [97, 110, 115, 46, 46, 55, 54], (3, 2, 76)), (bs [97, 110, 115, 46, 46, 46, 57, 57, 57], (3, 3, 999)), (bs [98, 56], (4, 0, 8)), (bs [110, 49, 54], (1, 0, 16)), (bs [97, 110, 46, 46, 46, 49, 50, 48], (2, 3, 120)), (bs [110, 52, 50], (1, 0, 42)), (bs [97, 110, 49], (2, 0, 1)), (bs [97, 110, 53], (2, 0, 5)), (bs [97, 110, 55], (2, 0, 7)), (bs [97, 110, 52, 50], (2, 0, 42)), (bs [97, 110, 49, 55], (2, 0, 17)), (bs [97, 110, 115, 50, 53], (3, 0, 25)), (bs [97, 110, 115, 46, 46, 49, 55], (3, 2, 17)), (bs [97, 110, 115, 46, 46, 50, 56], (3, 2, 28)), (bs [97, 110, 115, 46, 46, 46, 49, 48, 48], (3, 3, 100))]
abbrev spec_read.m : Back := [(false, T_api_Spec)]
noncomputable def spec_read.f : ByteArray → Option (Int × Int × Int) := lookT spec_read.tab
noncomputable abbrev spec_read.row : Row := fnRow 194 AsT spec_read.m spec_read.f
theorem spec_read.row_ok : RowOK P G1 spec_read.row := told_texts e0_ok j0_ok (T := [strconv_Atoi.row, spec_kinds.row]) ⟨strconv_Atoi.row_ok, ⟨(spec_kinds.row_ok.more g01), trivial⟩⟩ (m := spec_read.m) spec_read.tab 60 (by kernel_rfl)
abbrev spec_table.row : Row := closedRow 186 (.ag [.i .i64 0, .i .i64 0, .i .i64 0, .i .i64 0, .i .i64 0, .i .i64 0, .i .i64 1, .i .i64 2, .i .i64 19, .i .i64 1, .i .i64 0, .i .i64 6, .i .i64 1, .i .i64 0, .i .i64 12, .i .i64 1, .i .i64 0, .i .i64 12, .i .i64 1, .i .i64 0, .i .i64 12, .i .i64 1, .i .i64 0, .i .i64 10, .i .i64 1, .i .i64 0, .i .i64 8, .i .i64 1, .i .i64 0, .i .i64 8, .i .i64 1, .i .i64 0, .i .i64 8, .i .i64 1, .i .i64 0, .i .i64 6, .i .i64 1, .i .i64 0, .i .i64 6, .i .i64 1, .i .i64 0, .i .i64 4, .i .i64 1, .i .i64 0, .i .i64 4, .i .i64 1, .i .i64 0, .i .i64 4, .i .i64 1, .i .i64 0, .i .i64 4, .i .i64 1, .i .i64 0, .i .i64 4, .i .i64 1, .i .i64 0, .i .i64 4, .i .i64 1, .i .i64 0, .i .i64 3, .i .i64 1, .i .i64 0, .i .i64 3, .i .i64 1, .i .i64 0, .i .i64 3, .i .i64 1, .i .i64 0, .i .i64 3, .i .i64 1, .i .i64 0, .i .i64 3, .i .i64 1, .i .i64 0, .i .i64 3, .i .i64 1, .i .i64 0, .i .i64 2, .i .i64 1, .i .i64 0, .i .i64 2, .i .i64 1, .i .i64 0, .i .i64 1, .i .i64 2, .i .i64 0, .i .i64 9, .i .i64 2, .i .i64 0, .i .i64 9, .i .i64 2, .i .i64 0, .i .i64 9, .i .i64 2, .i .i64 0, .i .i64 9, .i .i64 1, .i .i64 2, .i .i64 11, .i .i64 1, .i .i64 2, .i .i64 11, .i .i64 2, .i .i64 2, .i .i64 28, .i .i64 3, .i .i64 2, .i .i64 37, .i .i64 3, .i .i64 3, .i .i64 104, .i .i64 2, .i .i64 0, .i .i64 12, .i .i64 2, .i .i64 0, .i .i64 6, .i .i64 2, .i .i64 0, .i .i64 2, .i .i64 2, .i .i64 0, .i .i64 3, .i .i64 3, .i .i64 0, .i .i64 8, .i .i64 3, .i .i64 0, .i .i64 15, .i .i64 3, .i .i64 0, .i .i64 40, .i .i64 3, .i .i64 2, .i .i64 25, .i .i64 3, .i .i64 2, .i .i64 76, .i .i64 3, .i .i64 3, .i .i64 999, .i .i64 3, .i .i64 3, .i .i64 999, .i .i64 3, .i .i64 3, .i .i64 999, .i .i64 2, .i .i64 0, .i .i64 3, .i .i64 2, .i .i64 0, .i .i64 3, .i .i64 2, .i .i64 0, .i .i64 3, .i .i64 4, .i .i64 0, .i .i64 8, .i .i64 1, .i .i64 0, .i .i64 16, .i .i64 2, .i .i64 3, .i .i64 120, .i .i64 3, .i .i64 3, .i .i64 999, .i .i64 3, .i .i64 3, .i .i64 999, .i .i64 3, .i .i64 3, .i .i64 999, .i .i64 3, .i .i64 3, .i .i64 999, .i .i64 3, .i .i64 3, .i .i64 999, .i .i64 3, .i .i64 3, .i .i64 999, .i .i64 3, .i .i64 3, .i .i64 999, .i .i64 3, .i .i64 3, .i .i64 999, .i .i64 3, .i .i64 3, .i .i64 999, .i .i64 4, .i .i64 0, .i .i64 8, .i .i64 0, .i .i64 0, .i .i64 0, .i .i64 1, .i .i64 0, .i .i64 1, .i .i64 1, .i .i64 0, .i .i64 2, .i .i64 1, .i .i64 0, .i .i64 3, .i .i64 1, .i .i64 0, .i .i64 3, .i .i64 1, .i .i64 0, .i .i64 3, .i .i64 1, .i .i64 0, .i .i64 4, .i .i64 1, .i .i64 0, .i .i64 4, .i .i64 1, .i .i64 0, .i .i64 6, .i .i64 1, .i .i64 0, .i .i64 10, .i .i64 1, .i .i64 0, .i .i64 10, .i .i64 1, .i .i64 0, .i .i64 10, .i .i64 1, .i .i64 0, .i .i64 10, .i .i64 1, .i .i64 0, .i .i64 10, .i .i64 1, .i .i64 0, .i .i64 10, .i .i64 1, .i .i64 0, .i .i64 10, .i .i64 1, .i .i64 0, .i .i64 10, .i .i64 1, .i .i64 0, .i .i64 12, .i .i64 1, .i .i64 0, .i .i64 12, .i .i64 1, .i .i64 0, .i .i64 12, .i .i64 1, .i .i64 0, .i .i64 12, .i .i64 1, .i .i64 0, .i .i64 16, .i .i64 1, .i .i64 0, .i .i64 16, .i .i64 1, .i .i64 0, .i .i64 16, .i .i64 1, .i .i64 0, .i .i64 16, .i .i64 1, .i .i64 0, .i .i64 42, .i .i64 2, .i .i64 0, .i .i64 1, .i .i64 2, .i .i64 0, .i .i64 2, .i .i64 2, .i .i64 0, .i .i64 5, .i .i64 2, .i .i64 0, .i .i64 7, .i .i64 2, .i .i64 0, .i .i64 42, .i .i64 4, .i .i64 0, .i .i64 8, .i .i64 2, .i .i64 0, .i .i64 17, .i .i64 3, .i .i64 0, .i .i64 25, .i .i64 1, .i .i64 2, .i .i64 11, .i .i64 1, .i .i64 2, .i .i64 11, .i .i64 3, .i .i64 2, .i .i64 17, .i .i64 3, .i .i64 2, .i .i64 28, .i .i64 3, .i .i64 2, .i .i64 28, .i .i64 3, .i .i64 3, .i .i64 100, .i .i64 3, .i .i64 3, .i .i64 999, .i .i64 3, .i .i64 3, .i .i64 999, .i .i64 3, .i .i64 3, .i .i64 999, .i .i64 3, .i .i64 3, .i .i64 999, .i .i64 3, .i .i64 3, .i .i64 999, .i .i64 3, .i .i64 3, .i .i64 999, .i .i64 3, .i .i64 3, .i .i64 999, .i .i64 3, .i .i64 3, .i .i64 999, .i .i64 3, .i .i64 3, .i .i64 999, .i .i64 3, .i .i64 3, .i .i64 999, .i .i64 3, .i .i64 3, .i .i64 999, .i .i64 3, .i .i64 3, .i .i64 999, .i .i64 3, .i .i64 3, .i .i64 999, .i .i64 3, .i .i64 3, .i .i64 999, .i .i64 3, .i .i64 3, .i .i64 999, .i .i64 3, .i .i64 3, .i .i64 999, .i .i64 3, .i .i64 3, .i .i64 999, .i .i64 3, .i .i64 3, .i .i64 999, .i .i64 3, .i .i64 3, .i .i64 999, .i .i64 3, .i .i64 3, .i .i64 999, .i .i64 3, .i .i64 3, .i .i64 999, .i .i64 3, .i .i64 3, .i .i64 999, .i .i64 3, .i .i64 3, .i .i64 999, .i .i64 4, .i .i64 0, .i .i64 8])
theorem spec_table.row_ok : RowOK P G1 spec_table.row := closed_ok e0_ok j0_ok (T := [strings_Fields.row, strconv_Atoi.row, spec_read.row]) ⟨(strings_Fields.row_ok.more g01), ⟨strconv_Atoi.row_ok, ⟨spec_read.row_ok, trivial⟩⟩⟩ 400 (by kernel_rfl)
abbrev spec_Of.As : Shs := (.cons (.x (.i .i64)) .nil)
abbrev spec_Of.m : Back := [(false, T_api_Spec), (false, (.i .i64))]
noncomputable abbrev spec_Of.H : HK := hk P G1 E0 J0 [spec_table.row] noLoops 4
theorem spec_Of.rows : TabOK P G1 (tabF [spec_table.row]) := rows_ok (ws := [spec_table.row]) ⟨spec_table.row_ok, trivial⟩
theorem spec_Of.hok : HKOK P spec_Of.H := hk_ok e0_ok j0_ok spec_Of.rows (fun g n => noLoops_ok g n) 4
noncomputable def spec_Of.f (a : Int) : Option ((Int × (Int × Int)) × Int) := (bif (decide ((a < (0 : Int)))) then (some (((0 : Int), ((0 : Int), (0 : Int))), (7 : Int))) else (bif (decide ((a > (128 : Int)))) then (some (((0 : Int), ((0 : Int), (0 : Int))), (7 : Int))) else (bif ((decide (((0 : Int) ≤ a))) && (decide ((a < (129 : Int))))) then (bif (((List.getD [((0 : Int), ((0 : Int), (0 : Int))), ((0 : Int), ((0 : Int), (0 : Int))), ((1 : Int), ((2 : Int), (19 : Int))), ((1 : Int), ((0 : Int), (6 : Int))), ((1 : Int), ((0 : Int), (12 : Int))), ((1 : Int), ((0 : Int), (12 : Int))), ((1 : Int), ((0 : Int), (12 : Int))), ((1 : Int), ((0 : Int), (10 : Int))), ((1 : Int), ((0 : Int), (8 : Int))), ((1 : Int), ((0 : Int), (8 : Int))), ((1 : Int), ((0 : Int), (8 : Int))), ((1 : Int), ((0 : Int), (6 : Int))), ((1 : Int), ((0 : Int), (6 : Int))), ((1 : Int), ((0 : Int), (4 : Int))), ((1 : Int), ((0 : Int), (4 : Int))), ((1 : Int), ((0 : Int), (4 : Int))), ((1 : Int), ((0 : Int), (4 : Int))), ((1 : Int), ((0 : Int), (4 : Int))), ((1 : Int), ((0 : Int), (4 : Int))), ((1 : Int), ((0 : Int), (3 : Int))), ((1 : Int), ((0 : Int), (3 : Int))), ((1 : Int), ((0 : Int), (3 : Int))), ((1 : Int), ((0 : Int), (3 : Int))), ((1 : Int), ((0 : Int), (3 : Int))), ((1 : Int), ((0 : Int), (3 : Int))), ((1 : Int), ((0 : Int), (2 : Int))), ((1 : Int), ((0 : Int), (2 : Int))), ((1 : Int), ((0 : Int), (1 : Int))), ((2 : Int), ((0 : Int), (9 : Int))), ((2 : Int), ((0 : Int), (9 : Int))), ((2 : Int), ((0 : Int), (9 : Int))), ((2 : Int), ((0 : Int), (9 : Int))), ((1 : Int), ((2 : Int), (11 : Int))), ((1 : Int), ((2 : Int), (11 : Int))), ((2 : Int), ((2 : Int), (28 : Int))), ((3 : Int), ((2 : Int), (37 : Int))), ((3 : Int), ((3 : Int), (104 : Int))), ((2 : Int), ((0 : Int), (12 : Int))), ((2 : Int), ((0 : Int), (6 : Int))), ((2 : Int), ((0 : Int), (2 : Int))), ((2 : Int), ((0 : Int), (3 : Int))), ((3 : Int), ((0 : Int), (8 : Int))), ((3 : Int), ((0 : Int), (15 : Int))), ((3 : Int), ((0 : Int), (40 : Int))), ((3 : Int), ((2 : Int), (25 : Int))), ((3 : Int), ((2 : Int), (76 : Int))), ((3 : Int), ((3 : Int), (999 : Int))), ((3 : Int), ((3 : Int), (999 : Int))), ((3 : Int), ((3 : Int), (999 : Int))), ((2 : Int), ((0 : Int), (3 : Int))), ((2 : Int), ((0 : Int), (3 : Int))), ((2 : Int), ((0 : Int), (3 : Int))), ((4 : Int), ((0 : Int), (8 : Int))), ((1 : Int), ((0 : Int), (16 : Int))), ((2 : Int), ((3 : Int), (120 : Int))), ((3 : Int), ((3 : Int), (999 : Int))), ((3 : Int), ((3 : Int), (999 : Int))), ((3 : Int), ((3 : Int), (999 : Int))), ((3 : Int), ((3 : Int), (999 : Int))), ((3 : Int), ((3 : Int), (999 : Int))), ((3 : Int), ((3 : Int), (999 : Int))), ((3 : Int), ((3 : Int), (999 : Int))), ((3 : Int), ((3 : Int), (999 : Int))), ((3 : Int), ((3 : Int), (999 : Int))), ((4 : Int), ((0 : Int), (8 : Int))), ((0 : Int), ((0 : Int), (0 : Int))), ((1 : Int), ((0 : Int), (1 : Int))), ((1 : Int), ((0 : Int), (2 : Int))), ((1 : Int), ((0 : Int), (3 : Int))), ((1 : Int), ((0 : Int), (3 : Int))), ((1 : Int), ((0 : Int), (3 : Int))), ((1 : Int), ((0 : Int), (4 : Int))), ((1 : Int), ((0 : Int), (4 : Int))), ((1 : Int), ((0 : Int), (6 : Int))), ((1 : Int), ((0 : Int), (10 : Int))), ((1 : Int), ((0 : Int), (10 : Int))), ((1 : Int), ((0 : Int), (10 : Int))), ((1 : Int), ((0 : Int), (10 : Int))), ((1 : Int), ((0 : Int), (10 : Int))), ((1 : Int), ((0 : Int), (10 : Int))), ((1 : Int), ((0 : Int), (10 : Int))), ((1 : Int), ((0 : Int), (10 : Int))), ((1 : Int), ((0 : Int), (12 : Int))), ((1 : Int), ((0 : Int), (12 : Int))), ((1 : Int), ((0 : Int), (12 : Int))), ((1 : Int), ((0 : Int), (12 : Int))), ((1 : Int), ((0 : Int), (16 : Int))), ((1 : Int), ((0 : Int), (16 : Int))), ((1 : Int), ((0 : Int), (16 : Int))), ((1 : Int), ((0 : Int), (16 : Int))), ((1 : Int), ((0 : Int), (42 : Int))), ((2 : Int), ((0 : Int), (1 : Int))), ((2 : Int), ((0 : Int), (2 : Int))), ((2 : Int), ((0 : Int), (5 : Int))), ((2 : Int), ((0 : Int), (7 : Int))), ((2 : Int), ((0 : Int), (42 : Int))), ((4 : Int), ((0 : Int), (8 : Int))), ((2 : Int), ((0 : Int), (17 : Int))), ((3 : Int), ((0 : Int), (25 : Int))), ((1 : Int), ((2 : Int), (11 : Int))), ((1 : Int), ((2 : Int), (11 : Int))), ((3 : Int), ((2 : Int), (17 : Int))), ((3 : Int), ((2 : Int), (28 : Int))), ((3 : Int), ((2 : Int), (28 : Int))), ((3 : Int), ((3 : Int), (100 : Int))), ((3 : Int), ((3 : Int), (999 : Int))), ((3 : Int), ((3 : Int), (999 : Int))), ((3 : Int), ((3 : Int), (999 : Int))), ((3 : Int), ((3 : Int), (999 : Int))), ((3 : Int), ((3 : Int), (999 : Int))), ((3 : Int), ((3 : Int), (999 : Int))), ((3 : Int), ((3 : Int), (999 : Int))), ((3 : Int), ((3 : Int), (999 : Int))), ((3 : Int), ((3 : Int), (999 : Int))), ((3 : Int), ((3 : Int), (999 : Int))), ((3 : Int), ((3 : Int), (999 : Int))), ((3 : Int), ((3 : Int), (999 : Int))), ((3 : Int), ((3 : Int), (999 : Int))), ((3 : Int), ((3 : Int), (999 : Int))), ((3 : Int), ((3 : Int), (999 : Int))), ((3 : Int), ((3 : Int), (999 : Int))), ((3 : Int), ((3 : Int), (999 : Int))), ((3 : Int), ((3 : Int), (999 : Int))), ((3 : Int), ((3 : Int), (999 : Int))), ((3 : Int), ((3 : Int), (999 : Int))), ((3 : Int), ((3 : Int), (999 : Int))), ((3 : Int), ((3 : Int), (999 : Int))), ((3 : Int), ((3 : Int), (999 : Int))), ((4 : Int), ((0 : Int), (8 : Int)))] (Int.toNat a) (Ty.dflt T_api_Spec)).1 == (0 : Int)) && (((List.getD [((0 : Int), ((0 : Int), (0 : Int))), ((0 : Int), ((0 : Int), (0 : Int))), ((1 : Int), ((2 : Int), (19 : Int))), ((1 : Int), ((0 : Int), (6 : Int))), ((1 : Int), ((0 : Int), (12 : Int))), ((1 : Int), ((0 : Int), (12 : Int))), ((1 : Int), ((0 : Int), (12 : Int))), ((1 : Int), ((0 : Int), (10 : Int))), ((1 : Int), ((0 : Int), (8 : Int))), ((1 : Int), ((0 : Int), (8 : Int))), ((1 : Int), ((0 : Int), (8 : Int))), ((1 : Int), ((0 : Int), (6 : Int))), ((1 : Int), ((0 : Int), (6 : Int))), ((1 : Int), ((0 : Int), (4 : Int))), ((1 : Int), ((0 : Int), (4 : Int))), ((1 : Int), ((0 : Int), (4 : Int))), ((1 : Int), ((0 : Int), (4 : Int))), ((1 : Int), ((0 : Int), (4 : Int))), ((1 : Int), ((0 : Int), (4 : Int))), ((1 : Int), ((0 : Int), (3 : Int))), ((1 : Int), ((0 : Int), (3 : Int))), ((1 : Int), ((0 : Int), (3 : Int))), ((1 : Int), ((0 : Int), (3 : Int))), ((1 : Int), ((0 : Int), (3 : Int))), ((1 : Int), ((0 : Int), (3 : Int))), ((1 : Int), ((0 : Int), (2 : Int))), ((1 : Int), ((0 : Int), (2 : Int))), ((1 : Int), ((0 : Int), (1 : Int))), ((2 : Int), ((0 : Int), (9 : Int))), ((2 : Int), ((0 : Int), (9 : Int))), ((2 : Int), ((0 : Int), (9 : Int))), ((2 : Int), ((0 : Int), (9 : Int))), ((1 : Int), ((2 : Int), (11 : Int))), ((1 : Int), ((2 : Int), (11 : Int))), ((2 : Int), ((2 : Int), (28 : Int))), ((3 : Int), ((2 : Int), (37 : Int))), ((3 : Int), ((3 : Int), (104 : Int))), ((2 : Int), ((0 : Int), (12 : Int))), ((2 : Int), ((0 : Int), (6 : Int))), ((2 : Int), ((0 : Int), (2 : Int))), ((2 : Int), ((0 : Int), (3 : Int))), ((3 : Int), ((0 : Int), (8 : Int))), ((3 : Int), ((0 : Int), (15 : Int))), ((3 : Int), ((0 : Int), (40 : Int))), ((3 : Int), ((2 : Int), (25 : Int))), ((3 : Int), ((2 : Int), (76 : Int))), ((3 : Int), ((3 : Int), (999 : Int))), ((3 : Int), ((3 : Int), (999 : Int))), ((3 : Int), ((3 : Int), (999 : Int))), ((2 : Int), ((0 : Int), (3 : Int))), ((2 : Int), ((0 : Int), (3 : Int))), ((2 : Int), ((0 : Int), (3 : Int))), ((4 : Int), ((0 : Int), (8 : Int))), ((1 : Int), ((0 : Int), (16 : Int))), ((2 : Int), ((3 : Int), (120 : Int))), ((3 : Int), ((3 : Int), (999 : Int))), ((3 : Int), ((3 : Int), (999 : Int))), ((3 : Int), ((3 : Int), (999 : Int))), ((3 : Int), ((3 : Int), (999 : Int))), ((3 : Int), ((3 : Int), (999 : Int))), ((3 : Int), ((3 : Int), (999 : Int))), ((3 : Int), ((3 : Int), (999 : Int))), ((3 : Int), ((3 : Int), (999 : Int))), ((3 : Int), ((3 : Int), (999 : Int))), ((4 : Int), ((0 : Int), (8 : Int))), ((0 : Int), ((0 : Int), (0 : Int))), ((1 : Int), ((0 : Int), (1 : Int))), ((1 : Int), ((0 : Int), (2 : Int))), ((1 : Int), ((0 : Int), (3 : Int))), ((1 : Int), ((0 : Int), (3 : Int))), ((1 : Int), ((0 : Int), (3 : Int))), ((1 : Int), ((0 : Int), (4 : Int))), ((1 : Int), ((0 : Int), (4 : Int))), ((1 : Int), ((0 : Int), (6 : Int))), ((1 : Int), ((0 : Int), (10 : Int))), ((1 : Int), ((0 : Int), (10 : Int))), ((1 : Int), ((0 : Int), (10 : Int))), ((1 : Int), ((0 : Int), (10 : Int))), ((1 : Int), ((0 : Int), (10 : Int))), ((1 : Int), ((0 : Int), (10 : Int))), ((1 : Int), ((0 : Int), (10 : Int))), ((1 : Int), ((0 : Int), (10 : Int))), ((1 : Int), ((0 : Int), (12 : Int))), ((1 : Int), ((0 : Int), (12 : Int))), ((1 : Int), ((0 : Int), (12 : Int))), ((1 : Int), ((0 : Int), (12 : Int))), ((1 : Int), ((0 : Int), (16 : Int))), ((1 : Int), ((0 : Int), (16 : Int))), ((1 : Int), ((0 : Int), (16 : Int))), ((1 : Int), ((0 : Int), (16 : Int))), ((1 : Int), ((0 : Int), (42 : Int))), ((2 : Int), ((0 : Int), (1 : Int))), ((2 : Int), ((0 : Int), (2 : Int))), ((2 : Int), ((0 : Int), (5 : Int))), ((2 : Int), ((0 : Int), (7 : Int))), ((2 : Int), ((0 : Int), (42 : Int))), ((4 : Int), ((0 : Int), (8 : Int))), ((2 : Int), ((0 : Int), (17 : Int))), ((3 : Int), ((0 : Int), (25 : Int))), ((1 : Int), ((2 : Int), (11 : Int))), ((1 : Int), ((2 : Int), (11 : Int))), ((3 : Int), ((2 : Int), (17 : Int))), ((3 : Int), ((2 : Int), (28 : Int))), ((3 : Int), ((2 : Int), (28 : Int))), ((3 : Int), ((3 : Int), (100 : Int))), ((3 : Int), ((3 : Int), (999 : Int))), ((3 : Int), ((3 : Int), (999 : Int))), ((3 : Int), ((3 : Int), (999 : Int))), ((3 : Int), ((3 : Int), (999 : Int))), ((3 : Int), ((3 : Int), (999 : Int))), ((3 : Int), ((3 : Int), (999 : Int))), ((3 : Int), ((3 : Int), (999 : Int))), ((3 : Int), ((3 : Int), (999 : Int))), ((3 : Int), ((3 : Int), (999 : Int))), ((3 : Int), ((3 : Int), (999 : Int))), ((3 : Int), ((3 : Int), (999 : Int))), ((3 : Int), ((3 : Int), (999 : Int))), ((3 : Int), ((3 : Int), (999 : Int))), ((3 : Int), ((3 : Int), (999 : Int))), ((3 : Int), ((3 : Int), (999 : Int))), ((3 : Int), ((3 : Int), (999 : Int))), ((3 : Int), ((3 : Int), (999 : Int))), ((3 : Int), ((3 : Int), (999 : Int))), ((3 : Int), ((3 : Int), (999 : Int))), ((3 : Int), ((3 : Int), (999 : Int))), ((3 : Int), ((3 : Int), (999 : Int))), ((3 : Int), ((3 : Int), (999 : Int))), ((3 : Int), ((3 : Int), (999 : Int))), ((4 : Int), ((0 : Int), (8 : Int)))] (Int.toNat a) (Ty.dflt T_api_Spec)).2.1 == (0 : Int)) && (((List.getD [((0 : Int), ((0 : Int), (0 : Int))), ((0 : Int), ((0 : Int), (0 : Int))), ((1 : Int), ((2 : Int), (19 : Int))), ((1 : Int), ((0 : Int), (6 : Int))), ((1 : Int), ((0 : Int), (12 : Int))), ((1 : Int), ((0 : Int), (12 : Int))), ((1 : Int), ((0 : Int), (12 : Int))), ((1 : Int), ((0 : Int), (10 : Int))), ((1 : Int), ((0 : Int), (8 : Int))), ((1 : Int), ((0 : Int), (8 : Int))), ((1 : Int), ((0 : Int), (8 : Int))), ((1 : Int), ((0 : Int), (6 : Int))), ((1 : Int), ((0 : Int), (6 : Int))), ((1 : Int), ((0 : Int), (4 : Int))), ((1 : Int), ((0 : Int), (4 : Int))), ((1 : Int), ((0 : Int), (4 : Int))), ((1 : Int), ((0 : Int), (4 : Int))), ((1 : Int), ((0 : Int), (4 : Int))), ((1 : Int), ((0 : Int), (4 : Int))), ((1 : Int), ((0 : Int), (3 : Int))), ((1 : Int), ((0 : Int), (3 : Int))), ((1 : Int), ((0 : Int), (3 : Int))), ((1 : Int), ((0 : Int), (3 : Int))), ((1 : Int), ((0 : Int), (3 : Int))), ((1 : Int), ((0 : Int), (3 : Int))), ((1 : Int), ((0 : Int), (2 : Int))), ((1 : Int), ((0 : Int), (2 : Int))), ((1 : Int), ((0 : Int), (1 : Int))), ((2 : Int), ((0 : Int), (9 : Int))), ((2 : Int), ((0 : Int), (9 : Int))), ((2 : Int), ((0 : Int), (9 : Int))), ((2 : Int), ((0 : Int), (9 : Int))), ((1 : Int), ((2 : Int), (11 : Int))), ((1 : Int), ((2 : Int), (11 : Int))), ((2 : Int), ((2 : Int), (28 : Int))), ((3 : Int), ((2 : Int), (37 : Int))), ((3 : Int), ((3 : Int), (104 : Int))), ((2 : Int), ((0 : Int), (12 : Int))), ((2 : Int), ((0 : Int), (6 : Int))), ((2 : Int), ((0 : Int), (2 : Int))), ((2 : Int), ((0 : Int), (3 : Int))), ((3 : Int), ((0 : Int), (8 : Int))), ((3 : Int), ((0 : Int), (15 : Int))), ((3 : Int), ((0 : Int), (40 : Int))), ((3 : Int), ((2 : Int), (25 : Int))), ((3 : Int), ((2 : Int), (76 : Int))), ((3 : Int), ((3 : Int), (999 : Int))), ((3 : Int), ((3 : Int), (999 : Int))), ((3 : Int), ((3 : Int), (999 : Int))), ((2 : Int), ((0 : Int), (3 : Int))), ((2 : Int), ((0 : Int), (3 : Int))), ((2 : Int), ((0 : Int), (3 : Int))), ((4 : Int), ((0 : Int), (8 : Int))), ((1 : Int), ((0 : Int), (16 : Int))), ((2 : Int), ((3 : Int), (120 : Int))), ((3 : Int), ((3 : Int), (999 : Int))), ((3 : Int), ((3 : Int), (999 : Int))), ((3 : Int), ((3 : Int), (999 : Int))), ((3 : Int), ((3 : Int), (999 : Int))), ((3 : Int), ((3 : Int), (999 : Int))), ((3 : Int), ((3 : Int), (999 : Int))), ((3 : Int), ((3 : Int), (999 : Int))), ((3 : Int), ((3 : Int), (999 : Int))), ((3 : Int), ((3 : Int), (999 : Int))), ((4 : Int), ((0 : Int), (8 : Int))), ((0 : Int), ((0 : Int), (0 : Int))), ((1 : Int), ((0 : Int), (1 : Int))), ((1 : Int), ((0 : Int), (2 : Int))), ((1 : Int), ((0 : Int), (3 : Int))), ((1 : Int), ((0 : Int), (3 : Int))), ((1 : Int), ((0 : Int), (3 : Int))), ((1 : Int), ((0 : Int), (4 : Int))), ((1 : Int), ((0 : Int), (4 : Int))), ((1 : Int), ((0 : Int), (6 : Int))), ((1 : Int), ((0 : Int), (10 : Int))), ((1 : Int), ((0 : Int), (10 : Int))), ((1 : Int), ((0 : Int), (10 : Int))), ((1 : Int), ((0 : Int), (10 : Int))), ((1 : Int), ((0 : Int), (10 : Int))), ((1 : Int), ((0 : Int), (10 : Int))), ((1 : Int), ((0 : Int), (10 : Int))), ((1 : Int), ((0 : Int), (10 : Int))), ((1 : Int), ((0 : Int), (12 : Int))), ((1 : Int), ((0 : Int), (12 : Int))), ((1 : Int), ((0 : Int), (12 : Int))), ((1 : Int), ((0 : Int), (12 : Int))), ((1 : Int), ((0 : Int), (16 : Int))), ((1 : Int), ((0 : Int), (16 : Int))), ((1 : Int), ((0 : Int), (16 : Int))), ((1 : Int), ((0 : Int), (16 : Int))), ((1 : Int), ((0 : Int), (42 : Int))), ((2 : Int), ((0 : Int), (1 : Int))), ((2 : Int), ((0 : Int), (2 : Int))), ((2 : Int), ((0 : Int), (5 : Int))), ((2 : Int), ((0 : Int), (7 : Int))), ((2 : Int), ((0 : Int), (42 : Int))), ((4 : Int), ((0 : Int), (8 : Int))), ((2 : Int), ((0 : Int), (17 : Int))), ((3 : Int), ((0 : Int), (25 : Int))), ((1 : Int), ((2 : Int), (11 : Int))), ((1 : Int), ((2 : Int), (11 : Int))), ((3 : Int), ((2 : Int), (17 : Int))), ((3 : Int), ((2 : Int), (28 : Int))), ((3 : Int), ((2 : Int), (28 : Int))), ((3 : Int), ((3 : Int), (100 : Int))), ((3 : Int), ((3 : Int), (999 : Int))), ((3 : Int), ((3 : Int), (999 : Int))), ((3 : Int), ((3 : Int), (999 : Int))), ((3 : Int), ((3 : Int), (999 : Int))), ((3 : Int), ((3 : Int), (999 : Int))), ((3 : Int), ((3 : Int), (999 : Int))), ((3 : Int), ((3 : Int), (999 : Int))), ((3 : Int), ((3 : Int), (999 : Int))), ((3 : Int), ((3 : Int), (999 : Int))), ((3 : Int), ((3 : Int), (999 : Int))), ((3 : Int), ((3 : Int), (999 : Int))), ((3 : Int), ((3 : Int), (999 : Int))), ((3 : Int), ((3 : Int), (999 : Int))), ((3 : Int), ((3 : Int), (999 : Int))), ((3 : Int), ((3 : Int), (999 : Int))), ((3 : Int), ((3 : Int), (999 : Int))), ((3 : Int), ((3 : Int), (999 : Int))), ((3 : Int), ((3 : Int), (999 : Int))), ((3 : Int), ((3 : Int), (999 : Int))), ((3 : Int), ((3 : Int), (999 : Int))), ((3 : Int), ((3 : Int), (999 : Int))), ((3 : Int), ((3 : Int), (999 : Int))), ((3 : Int), ((3 : Int), (999 : Int))), ((4 : Int), ((0 : Int), (8 : Int)))] (Int.toNat a) (Ty.dflt T_api_Spec)).2.2 == (0 : Int)) && true))) then (some ((List.getD [((0 : Int), ((0 : Int), (0 : Int))), ((0 : Int), ((0 : Int), (0 : Int))), ((1 : Int), ((2 : Int), (19 : Int))), ((1 : Int), ((0 : Int), (6 : Int))), ((1 : Int), ((0 : Int), (12 : Int))), ((1 : Int), ((0 : Int), (12 : Int))), ((1 : Int), ((0 : Int), (12 : Int))), ((1 : Int), ((0 : Int), (10 : Int))), ((1 : Int), ((0 : Int), (8 : Int))), ((1 : Int), ((0 : Int), (8 : Int))), ((1 : Int), ((0 : Int), (8 : Int))), ((1 : Int), ((0 : Int), (6 : Int))), ((1 : Int), ((0 : Int), (6 : Int))), ((1 : Int), ((0 : Int), (4 : Int))), ((1 : Int), ((0 : Int), (4 : Int))), ((1 : Int), ((0 : Int), (4 : Int))), ((1 : Int), ((0 : Int), (4 : Int))), ((1 : Int), ((0 : Int), (4 : Int))), ((1 : Int), ((0 : Int), (4 : Int))), ((1 : Int), ((0 : Int), (3 : Int))), ((1 : Int), ((0 : Int), (3 : Int))), ((1 : Int), ((0 : Int), (3 : Int))), ((1 : Int), ((0 : Int), (3 : Int))), ((1 : Int), ((0 : Int), (3 : Int))), ((1 : Int), ((0 : Int), (3 : Int))), ((1 : Int), ((0 : Int), (2 : Int))), ((1 : Int), ((0 : Int), (2 : Int))), ((1 : Int), ((0 : Int), (1 : Int))), ((2 : Int), ((0 : Int), (9 : Int))), ((2 : Int), ((0 : Int), (9 : Int))), ((2 : Int), ((0 : Int), (9 : Int))), ((2 : Int), ((0 : Int), (9 : Int))), ((1 : Int), ((2 : Int), (11 : Int))), ((1 : Int), ((2 : Int), (11 : Int))), ((2 : Int), ((2 : Int), (28 : Int))), ((3 : Int), ((2 : Int), (37 : Int))), ((3 : Int), ((3 : Int), (104 : Int))), ((2 : Int), ((0 : Int), (12 : Int))), ((2 : Int), ((0 : Int), (6 : Int))), ((2 : Int), ((0 : Int), (2 : Int))), ((2 : Int), ((0 : Int), (3 : Int))), ((3 : Int), ((0 : Int), (8 : Int))), ((3 : Int), ((0 : Int), (15 : Int))), ((3 : Int), ((0 : Int), (40 : Int))), ((3 : Int), ((2 : Int), (25 : Int))), ((3 : Int), ((2 : Int), (76 : Int))), ((3 : Int), ((3 : Int), (999 : Int))), ((3 : Int), ((3 : Int), (999 : Int))), ((3 : Int), ((3 : Int), (999 : Int))), ((2 : Int), ((0 : Int), (3 : Int))), ((2 : Int), ((0 : Int), (3 : Int))), ((2 : Int), ((0 : Int), (3 : Int))), ((4 : Int), ((0 : Int), (8 : Int))), ((1 : Int), ((0 : Int), (16 : Int))), ((2 : Int), ((3 : Int), (120 : Int))), ((3 : Int), ((3 : Int), (999 : Int))), ((3 : Int), ((3 : Int), (999 : Int))), ((3 : Int), ((3 : Int), (999 : Int))), ((3 : Int), ((3 : Int), (999 : Int))), ((3 : Int), ((3 : Int), (999 : Int))), ((3 : Int), ((3 : Int), (999 : Int))), ((3 : Int), ((3 : Int), (999 : Int))), ((3 : Int), ((3 : Int), (999 : Int))), ((3 : Int), ((3 : Int), (999 : Int))), ((4 : Int), ((0 : Int), (8 : Int))), ((0 : Int), ((0 : Int), (0 : Int))), ((1 : Int), ((0 : Int), (1 : Int))), ((1 : Int), ((0 : Int), (2 : Int))), ((1 : Int), ((0 : Int), (3 : Int))), ((1 : Int), ((0 : Int), (3 : Int))), ((1 : Int), ((0 : Int), (3 : Int))), ((1 : Int), ((0 : Int), (4 : Int))), ((1 : Int), ((0 : Int), (4 : Int))), ((1 : Int), ((0 : Int), (6 : Int))), ((1 : Int), ((0 : Int), (10 : Int))), ((1 : Int), ((0 : Int), (10 : Int))), ((1 : Int), ((0 : Int), (10 : Int))), ((1 : Int), ((0 : Int), (10 : Int))), ((1 : Int), ((0 : Int), (10 : Int))), ((1 : Int), ((0 : Int), (10 : Int))), ((1 : Int), ((0 : Int), (10 : Int))), ((1 : Int), ((0 : Int), (10 : Int))), ((1 : Int), ((0 : Int), (12 : Int))), ((1 : Int), ((0 : Int), (12 : Int))), ((1 : Int), ((0 : Int), (12 : Int))), ((1 : Int), ((0 : Int), (12 : Int))), ((1 : Int), ((0 : Int), (16 : Int))), ((1 : Int), ((0 : Int), (16 : Int))), ((1 : Int), ((0 : Int), (16 : Int))), ((1 : Int), ((0 : Int), (16 : Int))), ((1 : Int), ((0 : Int), (42 : Int))), ((2 : Int), ((0 : Int), (1 : Int))), ((2 : Int), ((0 : Int), (2 : Int))), ((2 : Int), ((0 : Int), (5 : Int))), ((2 : Int), ((0 : Int), (7 : Int))), ((2 : Int), ((0 : Int), (42 : Int))), ((4 : Int), ((0 : Int), (8 : Int))), ((2 : Int), ((0 : Int), (17 : Int))), ((3 : Int), ((0 : Int), (25 : Int))), ((1 : Int), ((2 : Int), (11 : Int))), ((1 : Int), ((2 : Int), (11 : Int))), ((3 : Int), ((2 : Int), (17 : Int))), ((3 : Int), ((2 : Int), (28 : Int))), ((3 : Int), ((2 : Int), (28 : Int))), ((3 : Int), ((3 : Int), (100 : Int))), ((3 : Int), ((3 : Int), (999 : Int))), ((3 : Int), ((3 : Int), (999 : Int))), ((3 : Int), ((3 : Int), (999 : Int))), ((3 : Int), ((3 : Int), (999 : Int))), ((3 : Int), ((3 : Int), (999 : Int))), ((3 : Int), ((3 : Int), (999 : Int))), ((3 : Int), ((3 : Int), (999 : Int))), ((3 : Int), ((3 : Int), (999 : Int))), ((3 : Int), ((3 : Int), (999 : Int))), ((3 : Int), ((3 : Int), (999 : Int))), ((3 : Int), ((3 : Int), (999 : Int))), ((3 : Int), ((3 : Int), (999 : Int))), ((3 : Int), ((3 : Int), (999 : Int))), ((3 : Int), ((3 : Int), (999 : Int))), ((3 : Int), ((3 : Int), (999 : Int))), ((3 : Int), ((3 : Int), (999 : Int))), ((3 : Int), ((3 : Int), (999 : Int))), ((3 : Int), ((3 : Int), (999 : Int))), ((3 : Int), ((3 : Int), (999 : Int))), ((3 : Int), ((3 : Int), (999 : Int))), ((3 : Int), ((3 : Int), (999 : Int))), ((3 : Int), ((3 : Int), (999 : Int))), ((3 : Int), ((3 : Int), (999 : Int))), ((4 : Int), ((0 : Int), (8 : Int)))] (Int.toNat a) (Ty.dflt T_api_Spec)), (7 : Int))) else (some ((List.getD [((0 : Int), ((0 : Int), (0 : Int))), ((0 : Int), ((0 : Int), (0 : Int))), ((1 : Int), ((2 : Int), (19 : Int))), ((1 : Int), ((0 : Int), (6 : Int))), ((1 : Int), ((0 : Int), (12 : Int))), ((1 : Int), ((0 : Int), (12 : Int))), ((1 : Int), ((0 : Int), (12 : Int))), ((1 : Int), ((0 : Int), (10 : Int))), ((1 : Int), ((0 : Int), (8 : Int))), ((1 : Int), ((0 : Int), (8 : Int))), ((1 : Int), ((0 : Int), (8 : Int))), ((1 : Int), ((0 : Int), (6 : Int))), ((1 : Int), ((0 : Int), (6 : Int))), ((1 : Int), ((0 : Int), (4 : Int))), ((1 : Int), ((0 : Int), (4 : Int))), ((1 : Int), ((0 : Int), (4 : Int))), ((1 : Int), ((0 : Int), (4 : Int))), ((1 : Int), ((0 : Int), (4 : Int))), ((1 : Int), ((0 : Int), (4 : Int))), ((1 : Int), ((0 : Int), (3 : Int))), ((1 : Int), ((0 : Int), (3 : Int))), ((1 : Int), ((0 : Int), (3 : Int))), ((1 : Int), ((0 : Int), (3 : Int))), ((1 : Int), ((0 : Int), (3 : Int))), ((1 : Int), ((0 : Int), (3 : Int))), ((1 : Int), ((0 : Int), (2 : Int))), ((1 : Int), ((0 : Int), (2 : Int))), ((1 : Int), ((0 : Int), (1 : Int))), ((2 : Int), ((0 : Int), (9 : Int))), ((2 : Int), ((0 : Int), (9 : Int))), ((2 : Int), ((0 : Int), (9 : Int))), ((2 : Int), ((0 : Int), (9 : Int))), ((1 : Int), ((2 : Int), (11 : Int))), ((1 : Int), ((2 : Int), (11 : Int))), ((2 : Int), ((2 : Int), (28 : Int))), ((3 : Int), ((2 : Int), (37 : Int))), ((3 : Int), ((3 : Int), (104 : Int))), ((2 : Int), ((0 : Int), (12 : Int))), ((2 : Int), ((0 : Int), (6 : Int))), ((2 : Int), ((0 : Int), (2 : Int))), ((2 : Int), ((0 : Int), (3 : Int))), ((3 : Int), ((0 : Int), (8 : Int))), ((3 : Int), ((0 : Int), (15 : Int))), ((3 : Int), ((0 : Int), (40 : Int))), ((3 : Int), ((2 : Int), (25 : Int))), ((3 : Int), ((2 : Int), (76 : Int))), ((3 : Int), ((3 : Int), (999 : Int))), ((3 : Int), ((3 : Int), (999 : Int))), ((3 : Int), ((3 : Int), (999 : Int))), ((2 : Int), ((0 : Int), (3 : Int))), ((2 : Int), ((0 : Int), (3 : Int))), ((2 : Int), ((0 : Int), (3 : Int))), ((4 : Int), ((0 : Int), (8 : Int))), ((1 : Int), ((0 : Int), (16 : Int))), ((2 : Int), ((3 : Int), (120 : Int))), ((3 : Int), ((3 : Int), (999 : Int))), ((3 : Int), ((3 : Int), (999 : Int))), ((3 : Int), ((3 : Int), (999 : Int))), ((3 : Int), ((3 : Int), (999 : Int))), ((3 : Int), ((3 : Int), (999 : Int))), ((3 : Int), ((3 : Int), (999 : Int))), ((3 : Int), ((3 : Int), (999 : Int))), ((3 : Int), ((3 : Int), (999 : Int))), ((3 : Int), ((3 : Int), (999 : Int))), ((4 : Int), ((0 : Int), (8 : Int))), ((0 : Int), ((0 : Int), (0 : Int))), ((1 : Int), ((0 : Int), (1 : Int))), ((1 : Int), ((0 : Int), (2 : Int))), ((1 : Int), ((0 : Int), (3 : Int))), ((1 : Int), ((0 : Int), (3 : Int))), ((1 : Int), ((0 : Int), (3 : Int))), ((1 : Int), ((0 : Int), (4 : Int))), ((1 : Int), ((0 : Int), (4 : Int))), ((1 : Int), ((0 : Int), (6 : Int))), ((1 : Int), ((0 : Int), (10 : Int))), ((1 : Int), ((0 : Int), (10 : Int))), ((1 : Int), ((0 : Int), (10 : Int))), ((1 : Int), ((0 : Int), (10 : Int))), ((1 : Int), ((0 : Int), (10 : Int))), ((1 : Int), ((0 : Int), (10 : Int))), ((1 : Int), ((0 : Int), (10 : Int))), ((1 : Int), ((0 : Int), (10 : Int))), ((1 : Int), ((0 : Int), (12 : Int))), ((1 : Int), ((0 : Int), (12 : Int))), ((1 : Int), ((0 : Int), (12 : Int))), ((1 : Int), ((0 : Int), (12 : Int))), ((1 : Int), ((0 : Int), (16 : Int))), ((1 : Int), ((0 : Int), (16 : Int))), ((1 : Int), ((0 : Int), (16 : Int))), ((1 : Int), ((0 : Int), (16 : Int))), ((1 : Int), ((0 : Int), (42 : Int))), ((2 : Int), ((0 : Int), (1 : Int))), ((2 : Int), ((0 : Int), (2 : Int))), ((2 : Int), ((0 : Int), (5 : Int))), ((2 : Int), ((0 : Int), (7 : Int))), ((2 : Int), ((0 : Int), (42 : Int))), ((4 : Int), ((0 : Int), (8 : Int))), ((2 : Int), ((0 : Int), (17 : Int))), ((3 : Int), ((0 : Int), (25 : Int))), ((1 : Int), ((2 : Int), (11 : Int))), ((1 : Int), ((2 : Int), (11 : Int))), ((3 : Int), ((2 : Int), (17 : Int))), ((3 : Int), ((2 : Int), (28 : Int))), ((3 : Int), ((2 : Int), (28 : Int))), ((3 : Int), ((3 : Int), (100 : Int))), ((3 : Int), ((3 : Int), (999 : Int))), ((3 : Int), ((3 : Int), (999 : Int))), ((3 : Int), ((3 : Int), (999 : Int))), ((3 : Int), ((3 : Int), (999 : Int))), ((3 : Int), ((3 : Int), (999 : Int))), ((3 : Int), ((3 : Int), (999 : Int))), ((3 : Int), ((3 : Int), (999 : Int))), ((3 : Int), ((3 : Int), (999 : Int))), ((3 : Int), ((3 : Int), (999 : Int))), ((3 : Int), ((3 : Int), (999 : Int))), ((3 : Int), ((3 : Int), (999 : Int))), ((3 : Int), ((3 : Int), (999 : Int))), ((3 : Int), ((3 : Int), (999 : Int))), ((3 : Int), ((3 : Int), (999 : Int))), ((3 : Int), ((3 : Int), (999 : Int))), ((3 : Int), ((3 : Int), (999 : Int))), ((3 : Int), ((3 : Int), (999 : Int))), ((3 : Int), ((3 : Int), (999 : Int))), ((3 : Int), ((3 : Int), (999 : Int))), ((3 : Int), ((3 : Int), (999 : Int))), ((3 : Int), ((3 : Int), (999 : Int))), ((3 : Int), ((3 : Int), (999 : Int))), ((3 : Int), ((3 : Int), (999 : Int))), ((4 : Int), ((0 : Int), (8 : Int)))] (Int.toNat a) (Ty.dflt T_api_Spec)), (0 : Int)))) else none)))
theorem spec_Of.ok : ∀ a : Vals spec_Of.As.tys, fnK P spec_Of.H (lp []) 169 spec_Of.As spec_Of.m a some = spec_Of.f a := fun a => by kernel_rfl
noncomputable abbrev spec_Of.row : Row := fnRow 169 spec_Of.As spec_Of.m spec_Of.f
theorem spec_Of.row_ok : RowOK P G1 spec_Of.row := row_told spec_Of.hok (lp_of (l := []) trivial) (fun _ => rfl) spec_Of.ok
abbrev spec_pure.As : Shs := (.cons (.x T_api_Spec) (.cons (.x .s) .nil))
abbrev spec_pure.m : Back := [(false, .b)]
noncomputable abbrev spec_pure.H : HK := hk P G0 E0 J0 [spec_kinds.row] noLoops 4
theorem spec_pure.rows : TabOK P G0 (tabF [spec_kinds.row]) := rows_ok (ws := [spec_kinds.row]) ⟨spec_kinds.row_ok, trivial⟩
theorem spec_pure.hok : HKOK P spec_pure.H := hk_ok e0_ok j0_ok spec_pure.rows (fun g n => noLoops_ok g n) 4
noncomputable abbrev spec_pure.sh4 : SSh := ⟨[(1, (.x .s)), (5, (.c 1)), (13, (.x (.i .i64))), (14, (.x (.i .i64)))], []⟩
noncomputable abbrev spec_pure.os4 : PEnds := [((.exit 0), ⟨[], []⟩)]
noncomputable def spec_pure.t4 (s : (ByteArray × (Int × Int))) : Option ((ByteArray × (Int × Int)) ⊕ (Unit)) := (bif (decide ((s.2.2 < s.2.1))) then (bif ((decide (((0 : Int) ≤ s.2.2))) && (decide ((s.2.2 < (s.1.size : Int))))) then none else none) else (some (.inr ())))
theorem spec_pure.t4_ok : ∀ s : Vals spec_pure.sh4.tys, turnK P spec_pure.H (lp []) (bodyAt (codeOf P 187) 4) 0 spec_pure.sh4 spec_pure.os4 s some = spec_pure.t4 s := fun s => by kernel_rfl
noncomputable def spec_pure.l4 : (ByteArray × (Int × Int)) → Option (Unit) := rounds spec_pure.t4
noncomputable abbrev spec_pure.sh4b : SSh := ⟨[(1, (.x .s)), (5, (.fn 203 .nil)), (13, (.x (.i .i64))), (14, (.x (.i .i64)))], []⟩
noncomputable abbrev spec_pure.os4b : PEnds := [(.ret, ⟨[(4, (.x .b))], []⟩), ((.exit 0), ⟨[], []⟩)]
noncomputable def spec_pure.t4b (s : (ByteArray × (Int × Int))) : Option ((ByteArray × (Int × Int)) ⊕ (Bool ⊕ Unit)) := (bif (decide ((s.2.2 < s.2.1))) then (bif ((decide (((0 : Int) ≤ s.2.2))) && (decide ((s.2.2 < (s.1.size : Int))))) then (bif (decide (((bt s.1 (Int.toNat s.2.2)) ≥ (48 : Int)))) then (bif (!(decide (((bt s.1 (Int.toNat s.2.2)) ≤ (57 : Int))))) then (some (.inr (.inl false))) else (some (.inl (s.1, (s.2.1, (IntKind.wrap .i64 (s.2.2 + (1 : Int)))))))) else (some (.inr (.inl false)))) else none) else (some (.inr (.inr ()))))
theorem spec_pure.t4b_ok : ∀ s : Vals spec_pure.sh4b.tys, turnK P spec_pure.H (lp []) (bodyAt (codeOf P 187) 4) 0 spec_pure.sh4b spec_pure.os4b s some = spec_pure.t4b s := fun s => by kernel_rfl
noncomputable def spec_pure.l4b : (ByteArray × (Int × Int)) → Option (Bool ⊕ Unit) := rounds spec_pure.t4b
noncomputable abbrev spec_pure.sh4c : SSh := ⟨[(1, (.x .s)), (5, (.fn 204 .nil)), (13, (.x (.i .i64))), (14, (.x (.i .i64)))], []⟩
noncomputable abbrev spec_pure.os4c : PEnds := [(.ret, ⟨[(4, (.x .b))], []⟩), ((.exit 0), ⟨[], []⟩)]
noncomputable def spec_pure.t4c (s : (ByteArray × (Int × Int))) : Option ((ByteArray × (Int × Int)) ⊕ (Bool ⊕ Unit)) := (bif (decide ((s.2.2 < s.2.1))) then (bif ((decide (((0 : Int) ≤ s.2.2))) && (decide ((s.2.2 < (s.1.size : Int))))) then (bif (decide (((bt s.1 (Int.toNat s.2.2)) ≥ (48 : Int)))) then (bif (decide (((bt s.1 (Int.toNat s.2.2)) ≤ (57 : Int)))) then (some (.inl (s.1, (s.2.1, (IntKind.wrap .i64 (s.2.2 + (1 : Int))))))) else (bif (decide (((bitsOp Go.BinOp.or Go.IntKind.u8 (bt s.1 (Int.toNat s.2.2)) (32 : Int)) ≥ (97 : Int)))) then (bif (decide (((bitsOp Go.BinOp.or Go.IntKind.u8 (bt s.1 (Int.toNat s.2.2)) (32 : Int)) ≤ (122 : Int)))) then (some (.inl (s.1, (s.2.1, (IntKind.wrap .i64 (s.2.2 + (1 : Int))))))) else (bif (!((bt s.1 (Int.toNat s.2.2)) == (32 : Int))) then (some (.inr (.inl false))) else (some (.inl (s.1, (s.2.1, (IntKind.wrap .i64 (s.2.2 + (1 : Int))))))))) else (bif (!((bt s.1 (Int.toNat s.2.2)) == (32 : Int))) then (some (.inr (.inl false))) else (some (.inl (s.1, (s.2.1, (IntKind.wrap .i64 (s.2.2 + (1 : Int)))))))))) else (bif (decide (((bitsOp Go.BinOp.or Go.IntKind.u8 (bt s.1 (Int.toNat s.2.2)) (32 : Int)) ≥ (97 : Int)))) then (bif (decide (((bitsOp Go.BinOp.or Go.IntKind.u8 (bt s.1 (Int.toNat s.2.2)) (32 : Int)) ≤ (122 : Int)))) then (some (.inl (s.1, (s.2.1, (IntKind.wrap .i64 (s.2.2 + (1 : Int))))))) else (bif (!((bt s.1 (Int.toNat s.2.2)) == (32 : Int))) then (some (.inr (.inl false))) else (some (.inl (s.1, (s.2.1, (IntKind.wrap .i64 (s.2.2 + (1 : Int))))))))) else (bif (!((bt s.1 (Int.toNat s.2.2)) == (32 : Int))) then (some (.inr (.inl false))) else (some (.inl (s.1, (s.2.1, (IntKind.wrap .i64 (s.2.2 + (1 : Int)))))))))) else none) else (some (.inr (.inr ()))))
theorem spec_pure.t4c_ok : ∀ s : Vals spec_pure.sh4c.tys, turnK P spec_pure.H (lp []) (bodyAt (codeOf P 187) 4) 0 spec_pure.sh4c spec_pure.os4c s some = spec_pure.t4c s := fun s => by kernel_rfl
noncomputable def spec_pure.l4c : (ByteArray × (Int × Int)) → Option (Bool ⊕ Unit) := rounds spec_pure.t4c
noncomputable abbrev spec_pure.sh4d : SSh := ⟨[(1, (.x .s)), (5, (.fn 206 .nil)), (13, (.x (.i .i64))), (14, (.x (.i .i64)))], []⟩
noncomputable abbrev spec_pure.os4d : PEnds := [(.ret, ⟨[(4, (.x .b))], []⟩), ((.exit 0), ⟨[], []⟩)]
noncomputable def spec_pure.t4d (s : (ByteArray × (Int × Int))) : Option ((ByteArray × (Int × Int)) ⊕ (Bool ⊕ Unit)) := (bif (decide ((s.2.2 < s.2.1))) then (bif ((decide (((0 : Int) ≤ s.2.2))) && (decide ((s.2.2 < (s.1.size : Int))))) then (bif (decide (((bt s.1 (Int.toNat s.2.2)) ≥ (32 : Int)))) then (bif (!(decide (((bt s.1 (Int.toNat s.2.2)) ≤ (126 : Int))))) then (some (.inr (.inl false))) else (some (.inl (s.1, (s.2.1, (IntKind.wrap .i64 (s.2.2 + (1 : Int)))))))) else (some (.inr (.inl false)))) else none) else (some (.inr (.inr ()))))
theorem spec_pure.t4d_ok : ∀ s : Vals spec_pure.sh4d.tys, turnK P spec_pure.H (lp []) (bodyAt (codeOf P 187) 4) 0 spec_pure.sh4d spec_pure.os4d s some = spec_pure.t4d s := fun s => by kernel_rfl
noncomputable def spec_pure.l4d : (ByteArray × (Int × Int)) → Option (Bool ⊕ Unit) := rounds spec_pure.t4d
noncomputable abbrev spec_pure.sh4e : SSh := ⟨[(1, (.x .s)), (5, (.fn 207 .nil)), (13, (.x (.i .i64))), (14, (.x (.i .i64)))], []⟩
noncomputable abbrev spec_pure.os4e : PEnds := [((.exit 0), ⟨[], []⟩)]
noncomputable def spec_pure.t4e (s : (ByteArray × (Int × Int))) : Option ((ByteArray × (Int × Int)) ⊕ (Unit)) := (bif (decide ((s.2.2 < s.2.1))) then (bif ((decide (((0 : Int) ≤ s.2.2))) && (decide ((s.2.2 < (s.1.size : Int))))) then (some (.inl (s.1, (s.2.1, (IntKind.wrap .i64 (s.2.2 + (1 : Int))))))) else none) else (some (.inr ())))
theorem spec_pure.t4e_ok : ∀ s : Vals spec_pure.sh4e.tys, turnK P spec_pure.H (lp []) (bodyAt (codeOf P 187) 4) 0 spec_pure.sh4e spec_pure.os4e s some = spec_pure.t4e s := fun s => by kernel_rfl
noncomputable def spec_pure.l4e : (ByteArray × (Int × Int)) → Option (Unit) := rounds spec_pure.t4e
noncomputable def spec_pure.f (a : ((Int × (Int × Int)) × ByteArray)) : Option Bool := (bif (a.1.1 == (0 : Int)) then (((spec_pure.l4 (a.2, ((a.2.size : Int), (0 : Int))))).bind fun x2 => (some true)) else (bif (a.1.1 == (1 : Int)) then (((spec_pure.l4b (a.2, ((a.2.size : Int), (0 : Int))))).bind fun x2 => (match x2 with | .inl x3 => (some x3) | .inr x3 => (some true))) else (bif (a.1.1 == (2 : Int)) then (((spec_pure.l4c (a.2, ((a.2.size : Int), (0 : Int))))).bind fun x2 => (match x2 with | .inl x3 => (some x3) | .inr x3 => (some true))) else (bif (a.1.1 == (3 : Int)) then (((spec_pure.l4d (a.2, ((a.2.size : Int), (0 : Int))))).bind fun x2 => (match x2 with | .inl x3 => (some x3) | .inr x3 => (some true))) else (bif (a.1.1 == (4 : Int)) then (((spec_pure.l4e (a.2, ((a.2.size : Int), (0 : Int))))).bind fun x2 => (some true)) else none)))))
theorem spec_pure.ok : ∀ a : Vals spec_pure.As.tys, fnK P spec_pure.H (lp [(4, (orS 0 spec_pure.sh4 (NodeT.summ ⟨spec_pure.sh4, spec_pure.os4, spec_pure.l4⟩ 0) (orS 0 spec_pure.sh4b (NodeT.summ ⟨spec_pure.sh4b, spec_pure.os4b, spec_pure.l4b⟩ 0) (orS 0 spec_pure.sh4c (NodeT.summ ⟨spec_pure.sh4c, spec_pure.os4c, spec_pure.l4c⟩ 0) (orS 0 spec_pure.sh4d (NodeT.summ ⟨spec_pure.sh4d, spec_pure.os4d, spec_pure.l4d⟩ 0) (NodeT.summ ⟨spec_pure.sh4e, spec_pure.os4e, spec_pure.l4e⟩ 0))))))]) 187 spec_pure.As spec_pure.m a some = spec_pure.f a := fun a => by kernel_rfl
noncomputable abbrev spec_pure.row : Row := fnRow 187 spec_pure.As spec_pure.m spec_pure.f
theorem spec_pure.row_ok : RowOK P G0 spec_pure.row := row_told spec_pure.hok (lp_of (l := [(4, (orS 0 spec_pure.sh4 (NodeT.summ ⟨spec_pure.sh4, spec_pure.os4, spec_pure.l4⟩ 0) (orS 0 spec_pure.sh4b (NodeT.summ ⟨spec_pure.sh4b, spec_pure.os4b, spec_pure.l4b⟩ 0) (orS 0 spec_pure.sh4c (NodeT.summ ⟨spec_pure.sh4c, spec_pure.os4c, spec_pure.l4c⟩ 0) (orS 0 spec_pure.sh4d (NodeT.summ ⟨spec_pure.sh4d, spec_pure.os4d, spec_pure.l4d⟩ 0) (NodeT.summ ⟨spec_pure.sh4e, spec_pure.os4e, spec_pure.l4e⟩ 0))))))]) ⟨(or_sum (loop_sum spec_pure.hok (by kernel_rfl) (by kernel_rfl) (l := []) trivial spec_pure.sh4 spec_pure.os4 (by kernel_rfl) spec_pure.t4 spec_pure.t4_ok) (or_sum (loop_sum spec_pure.hok (by kernel_rfl) (by kernel_rfl) (l := []) trivial spec_pure.sh4b spec_pure.os4b (by kernel_rfl) spec_pure.t4b spec_pure.t4b_ok) (or_sum (loop_sum spec_pure.hok (by kernel_rfl) (by kernel_rfl) (l := []) trivial spec_pure.sh4c spec_pure.os4c (by kernel_rfl) spec_pure.t4c spec_pure.t4c_ok) (or_sum (loop_sum spec_pure.hok (by kernel_rfl) (by kernel_rfl) (l := []) trivial spec_pure.sh4d spec_pure.os4d (by kernel_rfl) spec_pure.t4d spec_pure.t4d_ok) (loop_sum spec_pure.hok (by kernel_rfl) (by kernel_rfl) (l := []) trivial spec_pure.sh4e spec_pure.os4e (by kernel_rfl) spec_pure.t4e spec_pure.t4e_ok))))), trivial⟩) (fun _ => rfl) spec_pure.ok
noncomputable def bursarref16_in.f (a : (Int × (Int × Int))) : Option Bool := (bif (decide ((a.2.1 ≤ a.1))) then (some (decide ((a.1 ≤ a.2.2)))) else (some false))
noncomputable def bursarref16_Of.f (a : Int) : Option (Int × (Int × Int)) := (bif (a == (2 : Int)) then (some ((1 : Int), ((2 : Int), (19 : Int)))) else (bif (a == (3 : Int)) then (some ((1 : Int), ((0 : Int), (6 : Int)))) else (bif (a == (11 : Int)) then (some ((1 : Int), ((0 : Int), (6 : Int)))) else (bif (a == (12 : Int)) then (some ((1 : Int), ((0 : Int), (6 : Int)))) else (bif (a == (73 : Int)) then (some ((1 : Int), ((0 : Int), (6 : Int)))) else (((bursarref16_in.f (a, ((4 : Int), (6 : Int))))).bind fun x1 => (bif x1 then (some ((1 : Int), ((0 : Int), (12 : Int)))) else (((bursarref16_in.f (a, ((82 : Int), (85 : Int))))).bind fun x2 => (bif x2 then (some ((1 : Int), ((0 : Int), (12 : Int)))) else (bif (a == (7 : Int)) then (some ((1 : Int), ((0 : Int), (10 : Int)))) else (((bursarref16_in.f (a, ((74 : Int), (81 : Int))))).bind fun x3 => (bif x3 then (some ((1 : Int), ((0 : Int), (10 : Int)))) else (((bursarref16_in.f (a, ((8 : Int), (10 : Int))))).bind fun x4 => (bif x4 then (some ((1 : Int), ((0 : Int), (8 : Int)))) else (((bursarref16_in.f (a, ((13 : Int), (18 : Int))))).bind fun x5 => (bif x5 then (some ((1 : Int), ((0 : Int), (4 : Int)))) else (bif (a == (71 : Int)) then (some ((1 : Int), ((0 : Int), (4 : Int)))) else (bif (a == (72 : Int)) then (some ((1 : Int), ((0 : Int), (4 : Int)))) else (((bursarref16_in.f (a, ((19 : Int), (24 : Int))))).bind fun x6 => (bif x6 then (some ((1 : Int), ((0 : Int), (3 : Int)))) else (((bursarref16_in.f (a, ((68 : Int), (70 : Int))))).bind fun x7 => (bif x7 then (some ((1 : Int), ((0 : Int), (3 : Int)))) else (bif (a == (25 : Int)) then (some ((1 : Int), ((0 : Int), (2 : Int)))) else (bif (a == (26 : Int)) then (some ((1 : Int), ((0 : Int), (2 : Int)))) else (bif (a == (67 : Int)) then (some ((1 : Int), ((0 : Int), (2 : Int)))) else (bif (a == (27 : Int)) then (some ((1 : Int), ((0 : Int), (1 : Int)))) else (bif (a == (66 : Int)) then (some ((1 : Int), ((0 : Int), (1 : Int)))) else (((bursarref16_in.f (a, ((28 : Int), (31 : Int))))).bind fun x8 => (bif x8 then (some ((2 : Int), ((0 : Int), (9 : Int)))) else (bif (a == (32 : Int)) then (some ((1 : Int), ((2 : Int), (11 : Int)))) else (bif (a == (33 : Int)) then (some ((1 : Int), ((2 : Int), (11 : Int)))) else (bif (a == (99 : Int)) then (some ((1 : Int), ((2 : Int), (11 : Int)))) else (bif (a == (100 : Int)) then (some ((1 : Int), ((2 : Int), (11 : Int)))) else (bif (a == (34 : Int)) then (some ((2 : Int), ((2 : Int), (28 : Int)))) else (bif (a == (35 : Int)) then (some ((3 : Int), ((2 : Int), (37 : Int)))) else (bif (a == (36 : Int)) then (some ((3 : Int), ((3 : Int), (104 : Int)))) else (bif (a == (37 : Int)) then (some ((2 : Int), ((0 : Int), (12 : Int)))) else (bif (a == (38 : Int)) then (some ((2 : Int), ((0 : Int), (6 : Int)))) else (bif (a == (39 : Int)) then (some ((2 : Int), ((0 : Int), (2 : Int)))) else (bif (a == (92 : Int)) then (some ((2 : Int), ((0 : Int), (2 : Int)))) else (bif (a == (40 : Int)) then (some ((2 : Int), ((0 : Int), (3 : Int)))) else (((bursarref16_in.f (a, ((49 : Int), (51 : Int))))).bind fun x9 => (bif x9 then (some ((2 : Int), ((0 : Int), (3 : Int)))) else (bif (a == (41 : Int)) then (some ((3 : Int), ((0 : Int), (8 : Int)))) else (bif (a == (42 : Int)) then (some ((3 : Int), ((0 : Int), (15 : Int)))) else (bif (a == (43 : Int)) then (some ((3 : Int), ((0 : Int), (40 : Int)))) else (bif (a == (44 : Int)) then (some ((3 : Int), ((2 : Int), (25 : Int)))) else (bif (a == (45 : Int)) then (some ((3 : Int), ((2 : Int), (76 : Int)))) else (((bursarref16_in.f (a, ((46 : Int), (48 : Int))))).bind fun x10 => (bif x10 then (some ((3 : Int), ((3 : Int), (999 : Int)))) else (((bursarref16_in.f (a, ((55 : Int), (63 : Int))))).bind fun x11 => (bif x11 then (some ((3 : Int), ((3 : Int), (999 : Int)))) else (((bursarref16_in.f (a, ((105 : Int), (127 : Int))))).bind fun x12 => (bif x12 then (some ((3 : Int), ((3 : Int), (999 : Int)))) else (bif (a == (52 : Int)) then (some ((4 : Int), ((0 : Int), (8 : Int)))) else (bif (a == (64 : Int)) then (some ((4 : Int), ((0 : Int), (8 : Int)))) else (bif (a == (96 : Int)) then (some ((4 : Int), ((0 : Int), (8 : Int)))) else (bif (a == (128 : Int)) then (some ((4 : Int), ((0 : Int), (8 : Int)))) else (bif (a == (53 : Int)) then (some ((1 : Int), ((0 : Int), (16 : Int)))) else (((bursarref16_in.f (a, ((86 : Int), (89 : Int))))).bind fun x13 => (bif x13 then (some ((1 : Int), ((0 : Int), (16 : Int)))) else (bif (a == (54 : Int)) then (some ((2 : Int), ((3 : Int), (120 : Int)))) else (bif (a == (90 : Int)) then (some ((1 : Int), ((0 : Int), (42 : Int)))) else (bif (a == (91 : Int)) then (some ((2 : Int), ((0 : Int), (1 : Int)))) else (bif (a == (93 : Int)) then (some ((2 : Int), ((0 : Int), (5 : Int)))) else (bif (a == (94 : Int)) then (some ((2 : Int), ((0 : Int), (7 : Int)))) else (bif (a == (95 : Int)) then (some ((2 : Int), ((0 : Int), (42 : Int)))) else (bif (a == (97 : Int)) then (some ((2 : Int), ((0 : Int), (17 : Int)))) else (bif (a == (98 : Int)) then (some ((3 : Int), ((0 : Int), (25 : Int)))) else (bif (a == (101 : Int)) then (some ((3 : Int), ((2 : Int), (17 : Int)))) else (bif (a == (102 : Int)) then (some ((3 : Int), ((2 : Int), (28 : Int)))) else (bif (a == (103 : Int)) then (some ((3 : Int), ((2 : Int), (28 : Int)))) else (bif (a == (104 : Int)) then (some ((3 : Int), ((3 : Int), (100 : Int)))) else (some ((0 : Int), ((0 : Int), (0 : Int)))))))))))))))))))))))))))))))))))))))))))))))))))))))))))))))))))))))))))))
end Go.Proofs.YtpoiijkodpnobaaGreatDoor
end
section
set_option linter.unusedVariables false
set_option linter.unusedSimpArgs false
namespace Go.Proofs.YtpoiijkodpnobaaGreatDoor
open Go Go.Fw
def okSpec (k v l : Int) : Bool := (decide (k = 0) && (decide (v = 0) && decide (l = 0))) || (decide (1 ≤ k) && (decide (k ≤ 4) && ((decide (v = 0) || (decide (v = 2) && decide (l ≤ 99)) || decide (v = 3)) && (decide (1 ≤ l) && decide (l ≤ 999)))))
noncomputable def tabCheck (n : Nat) : Bool := match bursarref16_Of.f (n : Int), spec_Of.f (n : Int) with
  | some (k, v, l), some ((k', v', l'), e) => (decide (k = k') && (decide (v = v') && decide (l = l'))) && (decide (e = bif decide (k = 0) then 7 else 0) && okSpec k v l)
  | _, _ => false
theorem tab_all : (List.range 129).all tabCheck = true := by kernel_rfl
theorem of_out {n : Int} (h : ¬ (0 ≤ n ∧ n ≤ 128)) : bursarref16_Of.f n = some (0, 0, 0) ∧ spec_Of.f n = some ((0, 0, 0), 7) := by
  constructor
  · have e : ∀ k : Int, 0 ≤ k → k ≤ 128 → (n == k) = false := fun k h0 h1 => by rw [beq_eq_false_iff_ne]; omega
    have i : ∀ lo hi : Int, 0 ≤ lo → hi ≤ 128 → bursarref16_in.f (n, lo, hi) = some false := fun lo hi h0 h1 => by
      unfold bursarref16_in.f
      by_cases hl : lo ≤ n
      · have : ¬ n ≤ hi := by omega
        simp [hl, this]
      · simp [hl]
    unfold bursarref16_Of.f
    simp [e, i]
  · unfold spec_Of.f
    by_cases h0 : n < 0
    · simp [h0]
    · have h1 : n > 128 := by omega
      simp [h0, h1]
theorem of_is (n : Int) : ∃ k v l : Int, bursarref16_Of.f n = some (k, v, l) ∧ spec_Of.f n = some ((k, v, l), bif decide (k = 0) then 7 else 0) ∧ okSpec k v l = true := by
  by_cases h : 0 ≤ n ∧ n ≤ 128
  · have := List.all_eq_true.1 tab_all n.toNat (List.mem_range.2 (by omega))
    unfold tabCheck at this
    rw [show ((n.toNat : Nat) : Int) = n by omega] at this
    split at this
    · rename_i k v l k' v' l' e h1 h2
      simp only [Bool.and_eq_true, decide_eq_true_eq] at this
      obtain ⟨⟨rfl, rfl, rfl⟩, rfl, h3⟩ := this
      exact ⟨k, v, l, h1, h2, h3⟩
    · cases this
  · obtain ⟨h1, h2⟩ := of_out h
    exact ⟨0, 0, 0, h1, h2, rfl⟩
def okN (c : UInt8) : Bool := decide (48 ≤ c.toNat) && decide (c.toNat ≤ 57)
def okA (c : UInt8) : Bool := okN c || (decide (65 ≤ c.toNat) && decide (c.toNat ≤ 90)) || (decide (97 ≤ c.toNat) && decide (c.toNat ≤ 122)) || decide (c.toNat = 32)
def okS (c : UInt8) : Bool := decide (32 ≤ c.toNat) && decide (c.toNat ≤ 126)
def okC (k : Int) (c : UInt8) : Bool := bif k == 1 then okN c else bif k == 2 then okA c else bif k == 3 then okS c else true
theorem or32 : (List.range 256).all (fun c => (decide (97 ≤ bitsOp .or .u8 (c : Int) 32) && decide (bitsOp .or .u8 (c : Int) 32 ≤ 122)) == ((decide (65 ≤ c) && decide (c ≤ 90)) || (decide (97 ≤ c) && decide (c ≤ 122)))) = true := by kernel_rfl
theorem or32_is (c : UInt8) : (decide (97 ≤ bitsOp .or .u8 (c.toNat : Int) 32) && decide (bitsOp .or .u8 (c.toNat : Int) 32 ≤ 122)) = ((decide (65 ≤ c.toNat) && decide (c.toNat ≤ 90)) || (decide (97 ≤ c.toNat) && decide (c.toNat ≤ 122))) := by
  have := List.all_eq_true.1 or32 c.toNat (List.mem_range.2 c.toNat_lt)
  exact eq_of_beq this
theorem text_rounds {S R : Type} {t : S → Option (S ⊕ R)} (st : Nat → S) (s : ByteArray) (ok : UInt8 → Bool) (out fin : R)
    (h : ∀ i, i < s.size → t (st i) = some (bif ok (s.data.toList.getD i 0) then .inl (st (i + 1)) else .inr out)) (hf : t (st s.size) = some (.inr fin)) : rounds t (st 0) = some (bif s.data.toList.all ok then fin else out) := by
  have := rounds_all st (fun i => ok (s.data.toList.getD i 0)) out fin s.size h hf
  rw [this]
  have e := range_all ok 0 s.data.toList
  rw [show s.data.toList.length = s.size from rfl] at e
  rw [e]
theorem ge0 (i : Nat) : decide ((0 : Int) ≤ (i : Int)) = true := by simp
theorem pure_is {k v l : Int} {s : ByteArray} (hk : 1 ≤ k ∧ k ≤ 4) (hs : s.size < 9223372036854775807) : spec_pure.f ((k, v, l), s) = some (s.data.toList.all (okC k)) := by
  have hk : k = 1 ∨ k = 2 ∨ k = 3 ∨ k = 4 := by omega
  have lt : ∀ i, i < s.size → decide ((i : Int) < (s.size : Int)) = true := fun i hi => by simp only [decide_eq_true_eq]; omega
  have end' : decide ((s.size : Int) < (s.size : Int)) = false := by simp
  rcases hk with rfl | rfl | rfl | rfl
  · have hl : spec_pure.l4b (s, (s.size : Int), 0) = some (bif s.data.toList.all (okC 1) then .inr () else .inl false) := by
      refine text_rounds (t := spec_pure.t4b) (fun i => (s, (s.size : Int), (i : Int))) s (okC 1) (.inl false) (.inr ()) (fun i hi => ?_) ?_
      · simp only [spec_pure.t4b, lt i hi, ge0 i, Bool.true_and, Bool.and_true, Bool.and_self, cond_true, Int.toNat_natCast, wrap_up (show i < 9223372036854775807 by omega), bt]
        obtain ⟨c, hc⟩ : ∃ c, s.data.toList.getD i 0 = c := ⟨_, rfl⟩
        have e1 : decide ((c.toNat : Int) ≥ 48) = decide (48 ≤ c.toNat) := by rw [Bool.eq_iff_iff]; simp; omega
        have e2 : decide ((c.toNat : Int) ≤ 57) = decide (c.toNat ≤ 57) := by rw [Bool.eq_iff_iff]; simp; omega
        simp only [hc, okC, okN, e1, e2]
        cases decide (48 ≤ c.toNat) <;> cases decide (c.toNat ≤ 57) <;> rfl
      · simp [spec_pure.t4b]
    unfold spec_pure.f
    simp only [hl, show ((1 : Int) == 0) = false from rfl, show ((1 : Int) == 1) = true from rfl, cond_true, cond_false, Option.bind_some]
    cases s.data.toList.all (okC 1) <;> rfl
  · have hl : spec_pure.l4c (s, (s.size : Int), 0) = some (bif s.data.toList.all (okC 2) then .inr () else .inl false) := by
      refine text_rounds (t := spec_pure.t4c) (fun i => (s, (s.size : Int), (i : Int))) s (okC 2) (.inl false) (.inr ()) (fun i hi => ?_) ?_
      · simp only [spec_pure.t4c, lt i hi, ge0 i, Bool.true_and, Bool.and_true, Bool.and_self, cond_true, Int.toNat_natCast, wrap_up (show i < 9223372036854775807 by omega), bt]
        obtain ⟨c, hc⟩ : ∃ c, s.data.toList.getD i 0 = c := ⟨_, rfl⟩
        have h32 := or32_is c
        simp only [hc, okC, okA, okN, ge_iff_le, show ((2 : Int) == 1) = false from rfl, show ((2 : Int) == 2) = true from rfl, cond_true, cond_false]
        have e0 : ((c.toNat : Int) == 32) = decide (c.toNat = 32) := by rw [Bool.eq_iff_iff]; simp; omega
        have e1 : decide ((48 : Int) ≤ (c.toNat : Int)) = decide (48 ≤ c.toNat) := by rw [Bool.eq_iff_iff]; simp; omega
        have e2 : decide ((c.toNat : Int) ≤ 57) = decide (c.toNat ≤ 57) := by rw [Bool.eq_iff_iff]; simp; omega
        rw [e0, e1, e2]
        obtain ⟨a, ha⟩ : ∃ a, decide (48 ≤ c.toNat) = a := ⟨_, rfl⟩
        obtain ⟨b, hb⟩ : ∃ a, decide (c.toNat ≤ 57) = a := ⟨_, rfl⟩
        obtain ⟨d, hd⟩ : ∃ a, decide (c.toNat = 32) = a := ⟨_, rfl⟩
        obtain ⟨x, hx⟩ : ∃ a, decide (97 ≤ bitsOp .or .u8 (c.toNat : Int) 32) = a := ⟨_, rfl⟩
        obtain ⟨y, hy⟩ : ∃ a, decide (bitsOp .or .u8 (c.toNat : Int) 32 ≤ 122) = a := ⟨_, rfl⟩
        rw [hx, hy] at h32
        rw [ha, hb, hd, hx, hy, Bool.or_assoc (a && b), ← h32]
        cases a <;> cases b <;> cases d <;> cases x <;> cases y <;> rfl
      · simp [spec_pure.t4c]
    unfold spec_pure.f
    simp only [hl, show ((2 : Int) == 0) = false from rfl, show ((2 : Int) == 1) = false from rfl, show ((2 : Int) == 2) = true from rfl, cond_true, cond_false, Option.bind_some]
    cases s.data.toList.all (okC 2) <;> rfl
  · have hl : spec_pure.l4d (s, (s.size : Int), 0) = some (bif s.data.toList.all (okC 3) then .inr () else .inl false) := by
      refine text_rounds (t := spec_pure.t4d) (fun i => (s, (s.size : Int), (i : Int))) s (okC 3) (.inl false) (.inr ()) (fun i hi => ?_) ?_
      · simp only [spec_pure.t4d, lt i hi, ge0 i, Bool.true_and, Bool.and_true, Bool.and_self, cond_true, Int.toNat_natCast, wrap_up (show i < 9223372036854775807 by omega), bt]
        obtain ⟨c, hc⟩ : ∃ c, s.data.toList.getD i 0 = c := ⟨_, rfl⟩
        have e1 : decide ((c.toNat : Int) ≥ 32) = decide (32 ≤ c.toNat) := by rw [Bool.eq_iff_iff]; simp; omega
        have e2 : decide ((c.toNat : Int) ≤ 126) = decide (c.toNat ≤ 126) := by rw [Bool.eq_iff_iff]; simp; omega
        simp only [hc, okC, okS, e1, e2]
        cases decide (32 ≤ c.toNat) <;> cases decide (c.toNat ≤ 126) <;> rfl
      · simp [spec_pure.t4d]
    unfold spec_pure.f
    simp only [hl, show ((3 : Int) == 0) = false from rfl, show ((3 : Int) == 1) = false from rfl, show ((3 : Int) == 2) = false from rfl, show ((3 : Int) == 3) = true from rfl, cond_true, cond_false, Option.bind_some]
    cases s.data.toList.all (okC 3) <;> rfl
  · have hl : spec_pure.l4e (s, (s.size : Int), 0) = some () := by
      have := rounds_to (t := spec_pure.t4e) (fun i => (s, (s.size : Int), (i : Int))) s.size fun i hi => by
        simp only [spec_pure.t4e, lt i hi, ge0 i, Bool.true_and, Bool.and_true, Bool.and_self, cond_true, wrap_up (show i < 9223372036854775807 by omega)]
      show rounds spec_pure.t4e _ = _
      refine this.trans (rounds_end ?_)
      simp [spec_pure.t4e]
    unfold spec_pure.f
    simp only [hl, show ((4 : Int) == 0) = false from rfl, show ((4 : Int) == 1) = false from rfl, show ((4 : Int) == 2) = false from rfl, show ((4 : Int) == 3) = false from rfl, show ((4 : Int) == 4) = true from rfl, cond_true, cond_false, Option.bind_some]
    have : s.data.toList.all (okC 4) = true := by rw [List.all_eq_true]; intro x _; rfl
    rw [this]
end Go.Proofs.YtpoiijkodpnobaaGreatDoor
end
section
set_option linter.unusedVariables false
set_option maxRecDepth 100000
namespace Go.Proofs.YtpoiijkodpnobaaGreatDoor
open Go Go.Fw
abbrev spec_Valid.As : Shs := (.cons (.x (.i .i64)) (.cons (.x .s) .nil))
abbrev spec_Valid.m : Back := [(false, .b)]
noncomputable abbrev spec_Valid.H : HK := hk P G1 E0 J0 [spec_Of.row, spec_pure.row] noLoops 4
theorem spec_Valid.rows : TabOK P G1 (tabF [spec_Of.row, spec_pure.row]) := rows_ok (ws := [spec_Of.row, spec_pure.row]) ⟨spec_Of.row_ok, ⟨(spec_pure.row_ok.more g01), trivial⟩⟩
theorem spec_Valid.hok : HKOK P spec_Valid.H := hk_ok e0_ok j0_ok spec_Valid.rows (fun g n => noLoops_ok g n) 4
noncomputable def spec_Valid.f (a : (Int × ByteArray)) : Option Bool := (((spec_Of.f a.1)).bind fun x2 => (bif ((a.2.size : Int) == x2.1.2.2) then (bif (x2.2 == (0 : Int)) then (((spec_pure.f (x2.1, a.2))).bind fun x3 => (some x3)) else (some false)) else (bif (decide ((x2.1.2.1 > (0 : Int)))) then (bif (x2.2 == (0 : Int)) then (bif (decide (((a.2.size : Int) < x2.1.2.2))) then (((spec_pure.f (x2.1, a.2))).bind fun x3 => (some x3)) else (some false)) else (some false)) else (bif (x2.2 == (0 : Int)) then (some false) else (some false)))))
theorem spec_Valid.ok : ∀ a : Vals spec_Valid.As.tys, fnK P spec_Valid.H (lp []) 170 spec_Valid.As spec_Valid.m a some = spec_Valid.f a := fun a => by kernel_rfl
noncomputable abbrev spec_Valid.row : Row := fnRow 170 spec_Valid.As spec_Valid.m spec_Valid.f
theorem spec_Valid.row_ok : RowOK P G1 spec_Valid.row := row_told spec_Valid.hok (lp_of (l := []) trivial) (fun _ => rfl) spec_Valid.ok
abbrev spec_Pack.As : Shs := (.cons (.x (.i .i64)) (.cons (.x .s) .nil))
abbrev spec_Pack.m : Back := [(false, .s), (false, (.i .i64))]
noncomputable abbrev spec_Pack.H : HK := hk P G1 E0 J0 [strconv_Itoa.row, spec_Of.row, spec_Valid.row] noLoops 4
theorem spec_Pack.rows : TabOK P G1 (tabF [strconv_Itoa.row, spec_Of.row, spec_Valid.row]) := rows_ok (ws := [strconv_Itoa.row, spec_Of.row, spec_Valid.row]) ⟨(strconv_Itoa.row_ok.more g01), ⟨spec_Of.row_ok, ⟨spec_Valid.row_ok, trivial⟩⟩⟩
theorem spec_Pack.hok : HKOK P spec_Pack.H := hk_ok e0_ok j0_ok spec_Pack.rows (fun g n => noLoops_ok g n) 4
noncomputable def spec_Pack.f (a : (Int × ByteArray)) : Option (ByteArray × Int) := (((spec_Of.f a.1)).bind fun x2 => (bif (x2.2 != (0 : Int)) then (some ((bs []), x2.2)) else (((spec_Valid.f a)).bind fun x3 => (bif (!x3) then (some ((bs []), (16 : Int))) else (((strconv_Itoa.f (IntKind.wrap .i64 ((1000 : Int) + (a.2.size : Int))))).bind fun x4 => (bif ((decide (((0 : Int) ≤ (IntKind.wrap .i64 ((4 : Int) - x2.1.2.1))))) && (decide (((IntKind.wrap .i64 ((4 : Int) - x2.1.2.1)) ≤ (x4.size : Int))))) then (bif (Nat.ble ((ByteArray.extract x4 (Int.toNat (IntKind.wrap .i64 ((4 : Int) - x2.1.2.1))) x4.size).size + a.2.size) 9223372036854775807) then (some (((ByteArray.extract x4 (Int.toNat (IntKind.wrap .i64 ((4 : Int) - x2.1.2.1))) x4.size) ++ a.2), (0 : Int))) else none) else none))))))
theorem spec_Pack.ok : ∀ a : Vals spec_Pack.As.tys, fnK P spec_Pack.H (lp []) 139 spec_Pack.As spec_Pack.m a some = spec_Pack.f a := fun a => by kernel_rfl
noncomputable abbrev spec_Pack.row : Row := fnRow 139 spec_Pack.As spec_Pack.m spec_Pack.f
theorem spec_Pack.row_ok : RowOK P G1 spec_Pack.row := row_told spec_Pack.hok (lp_of (l := []) trivial) (fun _ => rfl) spec_Pack.ok
end Go.Proofs.YtpoiijkodpnobaaGreatDoor
end
section
set_option linter.unusedVariables false
set_option linter.unusedSimpArgs false
namespace Go.Proofs.YtpoiijkodpnobaaGreatDoor
open Go Go.Fw
def mayF (k v l : Int) (s : List UInt8) : Bool := !decide (k = 0) && (decide ((s.length : Int) ≤ l) && (!(decide (v = 0) && decide ((s.length : Int) < l)) && s.all (okC k)))
theorem okSpec_is {k v l : Int} (h : okSpec k v l = true) : (k = 0 ∧ v = 0 ∧ l = 0) ∨ (1 ≤ k ∧ k ≤ 4 ∧ (v = 0 ∨ (v = 2 ∧ l ≤ 99) ∨ v = 3) ∧ 1 ≤ l ∧ l ≤ 999) := by
  simp only [okSpec, Bool.or_eq_true, Bool.and_eq_true, decide_eq_true_eq] at h
  omega
theorem valid_is {n k v l : Int} {s : List UInt8} (hO : spec_Of.f n = some ((k, v, l), bif decide (k = 0) then 7 else 0)) (hk : okSpec k v l = true) (hs : s.length ≤ 5000) : spec_Valid.f (n, bs s) = some (mayF k v l s) := by
  unfold spec_Valid.f
  simp only [hO, Option.bind_some, bs_size]
  rcases okSpec_is hk with ⟨rfl, rfl, rfl⟩ | ⟨h1, h2, h3, h4, h5⟩
  · cases h : ((s.length : Int) == 0) <;> simp [mayF, h]
  · have hp := pure_is (k := k) (v := v) (l := l) (s := bs s) ⟨h1, h2⟩ (by rw [bs_size]; omega)
    rw [bs_list] at hp
    have e' : decide (k = 0) = false := decide_eq_false (by omega)
    simp only [hp, Option.bind_some, mayF, e', Bool.not_false, Bool.true_and, cond_false, show ((0 : Int) == 0) = true from rfl, cond_true]
    by_cases he : (s.length : Int) = l
    · simp [he]
    · have hb : ((s.length : Int) == l) = false := by simpa using he
      simp only [hb, cond_false]
      by_cases hv : v > 0
      · have hv0 : ¬ v = 0 := by omega
        by_cases hlt : (s.length : Int) < l
        · have : (s.length : Int) ≤ l := by omega
          simp [hv, hlt, this, hv0]
        · have : ¬ (s.length : Int) ≤ l := by omega
          simp [hv, hlt, this]
      · have hv0 : v = 0 := by omega
        subst hv0
        by_cases hlt : (s.length : Int) < l
        · simp [hlt]
        · have : ¬ (s.length : Int) ≤ l := by omega
          simp [this]
def digs (v : Int) (n : Nat) : List UInt8 := bif decide (v = 2) then [dgt (n / 10 % 10), dgt (n % 10)] else bif decide (v = 3) then [dgt (n / 100 % 10), dgt (n / 10 % 10), dgt (n % 10)] else []
theorem digs_len {v : Int} (hv : v = 0 ∨ v = 2 ∨ v = 3) (n : Nat) : ((digs v n).length : Int) = v := by rcases hv with rfl | rfl | rfl <;> rfl
theorem itoa_all : (List.range 1000).all (fun n => decide (itoaI ((1000 : Int) + (n : Int)) = [dgt 1, dgt (n / 100 % 10), dgt (n / 10 % 10), dgt (n % 10)])) = true := by kernel_rfl
theorem itoa_is {n : Nat} (h : n ≤ 999) : itoaI ((1000 : Int) + (n : Int)) = [dgt 1, dgt (n / 100 % 10), dgt (n / 10 % 10), dgt (n % 10)] := of_decide_eq_true (List.all_eq_true.1 itoa_all n (List.mem_range.2 (by omega)))
theorem mayF_len {k v l : Int} {s : List UInt8} (hk : okSpec k v l = true) (h : mayF k v l s = true) : 1 ≤ k ∧ k ≤ 4 ∧ (v = 0 ∨ v = 2 ∨ v = 3) ∧ (s.length : Int) ≤ l ∧ s.length ≤ 999 ∧ (v = 2 → s.length ≤ 99) ∧ (v = 0 → (s.length : Int) = l) ∧ s.all (okC k) = true := by
  simp only [mayF, Bool.and_eq_true, Bool.not_eq_true', decide_eq_false_iff_not, Bool.and_eq_false_iff, decide_eq_true_eq] at h
  obtain ⟨h0, h1, h2, h3⟩ := h
  rcases okSpec_is hk with ⟨rfl, _⟩ | ⟨g1, g2, g3, g4, g5⟩
  · exact absurd rfl h0
  · refine ⟨g1, g2, by omega, h1, by omega, by omega, fun hv => ?_, h3⟩
    rcases h2 with h2 | h2
    · exact absurd hv h2
    · omega
theorem pack_is {n k v l : Int} {s : List UInt8} (hO : spec_Of.f n = some ((k, v, l), bif decide (k = 0) then 7 else 0)) (hk : okSpec k v l = true) (hs : s.length ≤ 5000) :
    spec_Pack.f (n, bs s) = some (bif decide (k = 0) then (bs [], 7) else bif mayF k v l s then (bs (digs v s.length ++ s), 0) else (bs [], 16)) := by
  unfold spec_Pack.f
  simp only [hO, Option.bind_some, valid_is hO hk hs]
  by_cases h0 : k = 0
  · subst h0; rfl
  · simp only [decide_eq_false h0, cond_false, show ((0 : Int) != 0) = false from rfl]
    cases hm : mayF k v l s
    · rfl
    · obtain ⟨_, _, h3, _, h5, _⟩ := mayF_len hk hm
      have w : IntKind.wrap .i64 ((1000 : Int) + (s.length : Int)) = (1000 : Int) + (s.length : Int) := wrap_i64 (by omega) (by omega)
      have w2 : IntKind.wrap .i64 ((4 : Int) - v) = 4 - v := wrap_i64 (by omega) (by omega)
      have it : strconv_Itoa.f ((1000 : Int) + (s.length : Int)) = some (bs [dgt 1, dgt (s.length / 100 % 10), dgt (s.length / 10 % 10), dgt (s.length % 10)]) := by
        unfold strconv_Itoa.f
        rw [decide_eq_true (by omega), decide_eq_true (by omega), itoa_is h5]
        rfl
      have le0 : decide ((0 : Int) ≤ 4 - v) = true := decide_eq_true (by omega)
      have le1 : decide (4 - v ≤ (([dgt 1, dgt (s.length / 100 % 10), dgt (s.length / 10 % 10), dgt (s.length % 10)] : List UInt8).length : Int)) = true := decide_eq_true (by simp only [List.length_cons, List.length_nil]; omega)
      simp only [Bool.not_true, cond_false, cond_true, bs_size, w, w2, it, Option.bind_some, le0, le1, Bool.and_self, bs_extract, bs_append]
      have cut : (([dgt 1, dgt (s.length / 100 % 10), dgt (s.length / 10 % 10), dgt (s.length % 10)] : List UInt8).take ([dgt 1, dgt (s.length / 100 % 10), dgt (s.length / 10 % 10), dgt (s.length % 10)] : List UInt8).length).drop (4 - v).toNat = digs v s.length := by
        rcases h3 with rfl | rfl | rfl <;> rfl
      have := digs_len h3 s.length
      rw [cut, Nat.ble_eq_true_of_le (by omega)]
      rfl
end Go.Proofs.YtpoiijkodpnobaaGreatDoor
end
section
set_option linter.unusedVariables false
set_option maxRecDepth 100000
namespace Go.Proofs.YtpoiijkodpnobaaGreatDoor
open Go Go.Fw
abbrev bitmap_bit.As : Shs := (.cons (.x (.i .i64)) .nil)
abbrev bitmap_bit.m : Back := [(false, (.i .i64)), (false, (.i .u8))]
noncomputable abbrev bitmap_bit.H : HK := hk P G0 E0 J0 [] noLoops 4
theorem bitmap_bit.rows : TabOK P G0 (tabF []) := rows_ok (ws := []) trivial
theorem bitmap_bit.hok : HKOK P bitmap_bit.H := hk_ok e0_ok j0_ok bitmap_bit.rows (fun g n => noLoops_ok g n) 4
noncomputable def bitmap_bit.f (a : Int) : Option (Int × Int) := (bif (decide (((Int.tmod (IntKind.wrap .i64 (a - (1 : Int))) (8 : Int)) < (0 : Int)))) then none else (some ((IntKind.wrap .i64 (Int.tdiv (IntKind.wrap .i64 (a - (1 : Int))) (8 : Int))), (Int.fdiv (128 : Int) ((2 : Int) ^ (Min.min (Int.toNat (Int.tmod (IntKind.wrap .i64 (a - (1 : Int))) (8 : Int))) 8))))))
theorem bitmap_bit.ok : ∀ a : Vals bitmap_bit.As.tys, fnK P bitmap_bit.H (lp []) 168 bitmap_bit.As bitmap_bit.m a some = bitmap_bit.f a := fun a => by kernel_rfl
noncomputable abbrev bitmap_bit.row : Row := fnRow 168 bitmap_bit.As bitmap_bit.m bitmap_bit.f
theorem bitmap_bit.row_ok : RowOK P G0 bitmap_bit.row := row_told bitmap_bit.hok (lp_of (l := []) trivial) (fun _ => rfl) bitmap_bit.ok
abbrev bitmap_may.As : Shs := (.cons (.x (.l (.i .i64))) .nil)
abbrev bitmap_may.m : Back := [(false, .b)]
noncomputable abbrev bitmap_may.H : HK := hk P G1 E0 J0 [spec_Of.row] noLoops 4
theorem bitmap_may.rows : TabOK P G1 (tabF [spec_Of.row]) := rows_ok (ws := [spec_Of.row]) ⟨spec_Of.row_ok, trivial⟩
theorem bitmap_may.hok : HKOK P bitmap_may.H := hk_ok e0_ok j0_ok bitmap_may.rows (fun g n => noLoops_ok g n) 4
noncomputable abbrev bitmap_may.sh3 : SSh := ⟨[(0, (.x (.l (.i .i64)))), (7, (.x (.l (.i .i64)))), (8, (.x (.i .i64))), (9, (.x (.i .i64)))], []⟩
noncomputable abbrev bitmap_may.os3 : PEnds := [(.ret, ⟨[(2, (.x .b))], []⟩), ((.exit 0), ⟨[], []⟩)]
noncomputable def bitmap_may.t3 (s : ((List Int) × ((List Int) × (Int × Int)))) : Option (((List Int) × ((List Int) × (Int × Int))) ⊕ (Bool ⊕ Unit)) := (bif (decide ((s.2.2.2 < s.2.2.1))) then (bif ((decide (((0 : Int) ≤ s.2.2.2))) && (decide ((s.2.2.2 < ((List.length s.2.1) : Int))))) then (((spec_Of.f (List.getD s.2.1 (Int.toNat s.2.2.2) (0 : Int)))).bind fun x4 => (bif (x4.2 != (0 : Int)) then (some (.inr (.inl false))) else (bif (decide ((s.2.2.2 > (0 : Int)))) then (bif ((decide (((0 : Int) ≤ (IntKind.wrap .i64 (s.2.2.2 - (1 : Int)))))) && (decide (((IntKind.wrap .i64 (s.2.2.2 - (1 : Int))) < ((List.length s.1) : Int))))) then (bif (decide (((List.getD s.1 (Int.toNat (IntKind.wrap .i64 (s.2.2.2 - (1 : Int)))) (0 : Int)) ≥ (List.getD s.2.1 (Int.toNat s.2.2.2) (0 : Int))))) then (some (.inr (.inl false))) else (some (.inl (s.1, (s.2.1, (s.2.2.1, (IntKind.wrap .i64 (s.2.2.2 + (1 : Int))))))))) else none) else (some (.inl (s.1, (s.2.1, (s.2.2.1, (IntKind.wrap .i64 (s.2.2.2 + (1 : Int))))))))))) else none) else (some (.inr (.inr ()))))
theorem bitmap_may.t3_ok : ∀ s : Vals bitmap_may.sh3.tys, turnK P bitmap_may.H (lp []) (bodyAt (codeOf P 167) 3) 0 bitmap_may.sh3 bitmap_may.os3 s some = bitmap_may.t3 s := fun s => by kernel_rfl
noncomputable def bitmap_may.l3 : ((List Int) × ((List Int) × (Int × Int))) → Option (Bool ⊕ Unit) := rounds bitmap_may.t3
noncomputable def bitmap_may.f (a : (List Int)) : Option Bool := (((bitmap_may.l3 (a, (a, (((List.length a) : Int), (0 : Int)))))).bind fun x1 => (match x1 with | .inl x2 => (some x2) | .inr x2 => (some true)))
theorem bitmap_may.ok : ∀ a : Vals bitmap_may.As.tys, fnK P bitmap_may.H (lp [(3, (NodeT.summ ⟨bitmap_may.sh3, bitmap_may.os3, bitmap_may.l3⟩ 0))]) 167 bitmap_may.As bitmap_may.m a some = bitmap_may.f a := fun a => by kernel_rfl
noncomputable abbrev bitmap_may.row : Row := fnRow 167 bitmap_may.As bitmap_may.m bitmap_may.f
theorem bitmap_may.row_ok : RowOK P G1 bitmap_may.row := row_told bitmap_may.hok (lp_of (l := [(3, (NodeT.summ ⟨bitmap_may.sh3, bitmap_may.os3, bitmap_may.l3⟩ 0))]) ⟨(loop_sum bitmap_may.hok (by kernel_rfl) (by kernel_rfl) (l := []) trivial bitmap_may.sh3 bitmap_may.os3 (by kernel_rfl) bitmap_may.t3 bitmap_may.t3_ok), trivial⟩) (fun _ => rfl) bitmap_may.ok
end Go.Proofs.YtpoiijkodpnobaaGreatDoor
end
section
set_option linter.unusedVariables false
set_option linter.unusedSimpArgs false
namespace Go.Proofs.YtpoiijkodpnobaaGreatDoor
open Go Go.Fw
noncomputable def hasF (n : Int) : Bool := match bursarref16_Of.f n with
  | some x => !(x.1 == 0)
  | none => false
theorem hasF_is (n : Int) : ∃ k v l : Int, bursarref16_Of.f n = some (k, v, l) ∧ spec_Of.f n = some ((k, v, l), bif hasF n then 0 else 7) ∧ (k == 0) = !hasF n := by
  obtain ⟨k, v, l, h1, h2, h3⟩ := of_is n
  have e : hasF n = !(k == 0) := by unfold hasF; rw [h1]
  refine ⟨k, v, l, h1, ?_, by rw [e]; simp⟩
  rw [h2, e]
  by_cases h : k = 0
  · subst h; rfl
  · have hb : (k == 0) = false := by simpa using h
    rw [hb, decide_eq_false h]; rfl
theorem has_all : (List.range 129).all (fun n => !hasF (n : Int) || decide (2 ≤ n)) = true := by kernel_rfl
theorem hasF_bound {n : Int} (h : hasF n = true) : 2 ≤ n ∧ n ≤ 128 := by
  by_cases hn : 0 ≤ n ∧ n ≤ 128
  · have := List.all_eq_true.1 has_all n.toNat (List.mem_range.2 (by omega))
    rw [show ((n.toNat : Nat) : Int) = n by omega, h] at this
    simp only [Bool.not_true, Bool.false_or, decide_eq_true_eq] at this
    omega
  · have := (of_out hn).1
    unfold hasF at h
    rw [this] at h
    cases h
noncomputable def okAt (l : List Int) (i : Nat) : Bool := hasF (l.getD i 0) && (decide (i = 0) || decide (l.getD (i - 1) 0 < l.getD i 0))
noncomputable def mayL (l : List Int) : Bool := (List.range l.length).all (okAt l)
theorem may_is {l : List Int} (hl : l.length < 9223372036854775807) : bitmap_may.f l = some (mayL l) := by
  have hr : bitmap_may.l3 (l, l, (l.length : Int), 0) = some (bif mayL l then .inr () else .inl false) := by
    refine rounds_all (t := bitmap_may.t3) (fun i => (l, l, (l.length : Int), (i : Int))) (okAt l) (.inl false) (.inr ()) l.length (fun i hi => ?_) ?_
    · obtain ⟨k, v, len, h1, h2, h3⟩ := hasF_is (l.getD i 0)
      simp only [bitmap_may.t3, decide_eq_true (show (i : Int) < (l.length : Int) by omega), ge0 i, Bool.and_self, cond_true, Int.toNat_natCast, h2, Option.bind_some, wrap_up (show i < 9223372036854775807 by omega)]
      cases hf : hasF (l.getD i 0)
      · simp only [okAt, hf, Bool.false_and, cond_false]; rfl
      · simp only [okAt, hf, cond_true, Bool.true_and, show ((0 : Int) != 0) = false from rfl, cond_false]
        by_cases h0 : i = 0
        · subst h0; rfl
        · have w : IntKind.wrap .i64 ((i : Int) - 1) = ((i - 1 : Nat) : Int) := by rw [wrap_i64 (by omega) (by omega)]; omega
          simp only [decide_eq_true (show (i : Int) > 0 by omega), cond_true, w, ge0 (i - 1), decide_eq_true (show ((i - 1 : Nat) : Int) < (l.length : Int) by omega), Bool.and_self, Int.toNat_natCast, decide_eq_false h0, Bool.false_or]
          by_cases hlt : l.getD (i - 1) 0 < l.getD i 0
          · rw [decide_eq_false (show ¬ l.getD (i - 1) 0 ≥ l.getD i 0 by omega), decide_eq_true hlt]; rfl
          · rw [decide_eq_true (show l.getD (i - 1) 0 ≥ l.getD i 0 by omega), decide_eq_false hlt]; rfl
    · simp [bitmap_may.t3]
  unfold bitmap_may.f
  simp only [hr, Option.bind_some]
  cases mayL l <;> rfl
theorem or_bound : (List.range 256).all (fun v => (List.range 8).all fun k => decide (0 ≤ bitsOp .or .u8 (v : Int) (Int.fdiv 128 (2 ^ (min k 8)))) && decide (bitsOp .or .u8 (v : Int) (Int.fdiv 128 (2 ^ (min k 8))) < 256)) = true := by kernel_rfl
end Go.Proofs.YtpoiijkodpnobaaGreatDoor
end
section
set_option linter.unusedVariables false
set_option maxRecDepth 100000
namespace Go.Proofs.YtpoiijkodpnobaaGreatDoor
open Go Go.Fw
abbrev bitmap_Map.As : Shs := (.cons (.x (.l (.i .i64))) .nil)
abbrev bitmap_Map.m : Back := [(false, .s), (false, (.i .i64))]
noncomputable abbrev bitmap_Map.H : HK := hk P G1 E0 J0 [bitmap_may.row, bitmap_bit.row] noLoops 4
theorem bitmap_Map.rows : TabOK P G1 (tabF [bitmap_may.row, bitmap_bit.row]) := rows_ok (ws := [bitmap_may.row, bitmap_bit.row]) ⟨bitmap_may.row_ok, ⟨(bitmap_bit.row_ok.more g01), trivial⟩⟩
theorem bitmap_Map.hok : HKOK P bitmap_Map.H := hk_ok e0_ok j0_ok bitmap_Map.rows (fun g n => noLoops_ok g n) 4
noncomputable abbrev bitmap_Map.sh11 : SSh := ⟨[(4, (.own 0 1)), (30, (.x (.l (.i .i64)))), (31, (.x (.i .i64))), (32, (.x (.i .i64)))], [.arr (.i .u8)]⟩
noncomputable abbrev bitmap_Map.os11 : PEnds := [((.exit 0), ⟨[(4, (.x (.l (.i .u8))))], []⟩)]
noncomputable def bitmap_Map.t11 (s : ((List Int) × (Int × (Int × (List Int))))) : Option (((List Int) × (Int × (Int × (List Int)))) ⊕ ((List Int))) := (bif (decide ((s.2.2.1 < s.2.1))) then (bif ((decide (((0 : Int) ≤ s.2.2.1))) && (decide ((s.2.2.1 < ((List.length s.1) : Int))))) then (((bitmap_bit.f (List.getD s.1 (Int.toNat s.2.2.1) (0 : Int)))).bind fun x4 => (bif ((decide (((0 : Int) ≤ x4.1))) && (decide ((x4.1 < ((List.length s.2.2.2) : Int))))) then (bif (true && (Nat.blt (0 + (Int.toNat x4.1)) (List.length s.2.2.2))) then (bif ((decide (((0 : Int) ≤ x4.1))) && (decide ((x4.1 < ((List.length s.2.2.2) : Int))))) then (bif (true && (Nat.blt (0 + (Int.toNat x4.1)) (List.length s.2.2.2))) then (some (.inl (s.1, (s.2.1, ((IntKind.wrap .i64 (s.2.2.1 + (1 : Int))), (List.set s.2.2.2 (0 + (Int.toNat x4.1)) (bitsOp Go.BinOp.or Go.IntKind.u8 (List.getD s.2.2.2 (0 + (Int.toNat x4.1)) (0 : Int)) x4.2))))))) else none) else none) else none) else none)) else none) else (some (.inr s.2.2.2)))
theorem bitmap_Map.t11_ok : ∀ s : Vals bitmap_Map.sh11.tys, turnK P bitmap_Map.H (lp []) (bodyAt (codeOf P 137) 11) 0 bitmap_Map.sh11 bitmap_Map.os11 s some = bitmap_Map.t11 s := fun s => by kernel_rfl
noncomputable def bitmap_Map.l11 : ((List Int) × (Int × (Int × (List Int)))) → Option ((List Int)) := rounds bitmap_Map.t11
noncomputable def bitmap_Map.f (a : (List Int)) : Option (ByteArray × Int) := (((bitmap_may.f a)).bind fun x1 => (bif (!x1) then (some ((bs []), (1 : Int))) else (bif (decide ((((List.length a) : Int) > (0 : Int)))) then (bif ((decide (((0 : Int) ≤ (IntKind.wrap .i64 (((List.length a) : Int) - (1 : Int)))))) && (decide (((IntKind.wrap .i64 (((List.length a) : Int) - (1 : Int))) < ((List.length a) : Int))))) then (bif (decide (((List.getD a (Int.toNat (IntKind.wrap .i64 (((List.length a) : Int) - (1 : Int)))) (0 : Int)) > (64 : Int)))) then (((bitmap_Map.l11 (a, (((List.length a) : Int), ((0 : Int), [(128 : Int), (0 : Int), (0 : Int), (0 : Int), (0 : Int), (0 : Int), (0 : Int), (0 : Int), (0 : Int), (0 : Int), (0 : Int), (0 : Int), (0 : Int), (0 : Int), (0 : Int), (0 : Int)]))))).bind fun x2 => (some ((ByteArray.mk (List.toArray (List.map (fun y3 => (UInt8.ofNat (Int.toNat y3))) x2))), (0 : Int)))) else (((bitmap_Map.l11 (a, (((List.length a) : Int), ((0 : Int), [(0 : Int), (0 : Int), (0 : Int), (0 : Int), (0 : Int), (0 : Int), (0 : Int), (0 : Int)]))))).bind fun x2 => (some ((ByteArray.mk (List.toArray (List.map (fun y3 => (UInt8.ofNat (Int.toNat y3))) x2))), (0 : Int))))) else none) else (((bitmap_Map.l11 (a, (((List.length a) : Int), ((0 : Int), [(0 : Int), (0 : Int), (0 : Int), (0 : Int), (0 : Int), (0 : Int), (0 : Int), (0 : Int)]))))).bind fun x2 => (some ((ByteArray.mk (List.toArray (List.map (fun y3 => (UInt8.ofNat (Int.toNat y3))) x2))), (0 : Int)))))))
theorem bitmap_Map.ok : ∀ a : Vals bitmap_Map.As.tys, fnK P bitmap_Map.H (lp [(11, (NodeT.summ ⟨bitmap_Map.sh11, bitmap_Map.os11, bitmap_Map.l11⟩ 0))]) 137 bitmap_Map.As bitmap_Map.m a some = bitmap_Map.f a := fun a => by kernel_rfl
noncomputable abbrev bitmap_Map.row : Row := fnRow 137 bitmap_Map.As bitmap_Map.m bitmap_Map.f
theorem bitmap_Map.row_ok : RowOK P G1 bitmap_Map.row := row_told bitmap_Map.hok (lp_of (l := [(11, (NodeT.summ ⟨bitmap_Map.sh11, bitmap_Map.os11, bitmap_Map.l11⟩ 0))]) ⟨(loop_sum bitmap_Map.hok (by kernel_rfl) (by kernel_rfl) (l := []) trivial bitmap_Map.sh11 bitmap_Map.os11 (by kernel_rfl) bitmap_Map.t11 bitmap_Map.t11_ok), trivial⟩) (fun _ => rfl) bitmap_Map.ok
end Go.Proofs.YtpoiijkodpnobaaGreatDoor
end
section
set_option linter.unusedVariables false
set_option linter.unusedSimpArgs false
namespace Go.Proofs.YtpoiijkodpnobaaGreatDoor
open Go Go.Fw
def orB (v k : Nat) : Nat := (bitsOp .or .u8 (v : Int) (Int.fdiv 128 (2 ^ (min k 8)))).toNat
theorem orB_is {v k : Nat} (hv : v < 256) (hk : k < 8) : bitsOp .or .u8 (v : Int) (Int.fdiv 128 (2 ^ (min k 8))) = (orB v k : Int) ∧ orB v k < 256 := by
  have := List.all_eq_true.1 (List.all_eq_true.1 or_bound v (List.mem_range.2 hv)) k (List.mem_range.2 hk)
  simp only [Bool.and_eq_true, decide_eq_true_eq] at this
  unfold orB
  omega
def stepB (b : List Nat) (n : Nat) : List Nat := b.set ((n - 1) / 8) (orB (b.getD ((n - 1) / 8) 0) ((n - 1) % 8))
abbrev ints (b : List Nat) : List Int := b.map fun (x : Nat) => (x : Int)
theorem ints_getD (b : List Nat) (j : Nat) : (ints b).getD j 0 = ((b.getD j 0 : Nat) : Int) := by
  simp only [List.getD_eq_getElem?_getD, List.getElem?_map]
  cases b[j]? <;> rfl
theorem bit_is {n : Nat} (h1 : 1 ≤ n) (h2 : n ≤ 1000) : bitmap_bit.f (n : Int) = some ((((n - 1) / 8 : Nat) : Int), Int.fdiv 128 (2 ^ (min ((n - 1) % 8) 8))) := by
  have w : IntKind.wrap .i64 ((n : Int) - 1) = ((n - 1 : Nat) : Int) := by rw [wrap_i64 (by omega) (by omega)]; omega
  have e1 : Int.tmod ((n - 1 : Nat) : Int) 8 = (((n - 1) % 8 : Nat) : Int) := by rw [Int.tmod_eq_emod_of_nonneg (by omega)]; rfl
  have e2 : Int.tdiv ((n - 1 : Nat) : Int) 8 = (((n - 1) / 8 : Nat) : Int) := by rw [Int.tdiv_eq_ediv_of_nonneg (by omega)]; rfl
  have w2 : IntKind.wrap .i64 (((n - 1) / 8 : Nat) : Int) = (((n - 1) / 8 : Nat) : Int) := wrap_i64 (by omega) (by omega)
  unfold bitmap_bit.f
  simp only [w, e1, e2, w2]
  rw [decide_eq_false (show ¬ (((n - 1) % 8 : Nat) : Int) < 0 by omega), cond_false, Int.toNat_natCast]
def okB (b : List Nat) : Prop := ∀ x ∈ b, x < 256
theorem okB_getD {b : List Nat} (h : okB b) (j : Nat) : b.getD j 0 < 256 := by
  rw [List.getD_eq_getElem?_getD]
  cases hj : b[j]? with
  | none => simp
  | some x => exact h x (List.mem_of_getElem? hj)
theorem stepB_len (b : List Nat) (n : Nat) : (stepB b n).length = b.length := List.length_set
theorem stepB_ok {b : List Nat} (h : okB b) (n : Nat) : okB (stepB b n) := fun x hx => by
  rcases List.mem_or_eq_of_mem_set hx with hx | rfl
  · exact h x hx
  · exact (orB_is (okB_getD h _) (by omega)).2
def putAll (l : List Int) (b : List Nat) : List Nat := l.foldl (fun b n => stepB b n.toNat) b
theorem putAll_len : ∀ (l : List Int) (b : List Nat), (putAll l b).length = b.length
  | [], b => rfl
  | n :: l, b => by
    show (putAll l (stepB b n.toNat)).length = _
    rw [putAll_len l, stepB_len]
theorem putAll_ok : ∀ (l : List Int) {b : List Nat}, okB b → okB (putAll l b)
  | [], b, h => h
  | n :: l, b, h => putAll_ok l (stepB_ok h _)
theorem map_rounds {l : List Int} {b : List Nat} (hb : okB b) (hl : ∀ n ∈ l, 1 ≤ n ∧ n ≤ 8 * (b.length : Int)) (hlen : l.length ≤ 1000) (hbl : b.length ≤ 100) : bitmap_Map.l11 (l, (l.length : Int), 0, ints b) = some (ints (putAll l b)) := by
  have st := rounds_to (t := bitmap_Map.t11) (fun i => (l, (l.length : Int), (i : Int), ints (putAll (l.take i) b))) l.length fun i hi => by
    have hm := hl _ (List.getElem_mem hi)
    obtain ⟨m, hm'⟩ : ∃ m : Nat, l.getD i 0 = m := ⟨(l.getD i 0).toNat, by rw [getD_at hi]; omega⟩
    have hmi : l[i] = (m : Int) := by rw [← getD_at hi (d := 0)]; exact hm'
    rw [hmi] at hm
    have hpl := putAll_len (l.take i) b
    have hpo := putAll_ok (l.take i) hb
    obtain ⟨c, hc⟩ : ∃ c, putAll (l.take i) b = c := ⟨_, rfl⟩
    have next : putAll (l.take (i + 1)) b = stepB c m := by
      rw [take_up 0 hi, hm', ← hc]
      unfold putAll
      rw [List.foldl_append]
      rfl
    rw [hc] at hpl hpo
    have hlt : (m - 1) / 8 < c.length := by omega
    simp only [bitmap_Map.t11, hc, hm', decide_eq_true (show (i : Int) < (l.length : Int) by omega), ge0 i, Bool.and_self, cond_true, Int.toNat_natCast, bit_is (show 1 ≤ m by omega) (show m ≤ 1000 by omega), Option.bind_some, ge0 ((m - 1) / 8), List.length_map, decide_eq_true (show (((m - 1) / 8 : Nat) : Int) < (c.length : Int) by omega), Nat.zero_add, Bool.true_and,
      ints_getD, (orB_is (okB_getD hpo ((m - 1) / 8)) (show (m - 1) % 8 < 8 by omega)).1, wrap_up (show i < 9223372036854775807 by omega), next]
    rw [show Nat.blt ((m - 1) / 8) c.length = true by rw [Nat.blt_eq]; exact hlt]
    simp only [cond_true, stepB, ints, List.map_set]
  have : bitmap_Map.l11 (l, (l.length : Int), 0, ints b) = rounds bitmap_Map.t11 (l, (l.length : Int), ((0 : Nat) : Int), ints (putAll (l.take 0) b)) := rfl
  rw [this, st]
  refine rounds_end ?_
  simp [bitmap_Map.t11]
end Go.Proofs.YtpoiijkodpnobaaGreatDoor
end
section
set_option linter.unusedVariables false
set_option linter.unusedSimpArgs false
namespace Go.Proofs.YtpoiijkodpnobaaGreatDoor
open Go Go.Fw
theorem mayL_at {l : List Int} (h : mayL l = true) {i : Nat} (hi : i < l.length) : hasF (l.getD i 0) = true ∧ (0 < i → l.getD (i - 1) 0 < l.getD i 0) := by
  have := List.all_eq_true.1 h i (List.mem_range.2 hi)
  simp only [okAt, Bool.and_eq_true, Bool.or_eq_true, decide_eq_true_eq] at this
  exact ⟨this.1, fun h0 => by omega⟩
theorem mayL_mem {l : List Int} (h : mayL l = true) {n : Int} (hn : n ∈ l) : 2 ≤ n ∧ n ≤ 128 := by
  obtain ⟨i, hi, rfl⟩ := List.getElem_of_mem hn
  have := (mayL_at h hi).1
  rw [getD_at hi] at this
  exact hasF_bound this
theorem mayL_rise {l : List Int} (h : mayL l = true) {i : Nat} : ∀ {j : Nat}, i < j → j < l.length → l.getD i 0 < l.getD j 0
  | 0, hij, hj => by omega
  | j + 1, hij, hj => by
    have h1 := (mayL_at h hj).2 (by omega)
    rw [Nat.add_sub_cancel] at h1
    by_cases he : i = j
    · subst he; exact h1
    · have := mayL_rise h (i := i) (j := j) (by omega) (by omega)
      omega
def wide (l : List Int) : Bool := l.any fun n => decide (64 < n)
theorem wide_last {l : List Int} (h : mayL l = true) (hl : 0 < l.length) : decide (l.getD (l.length - 1) 0 > 64) = wide l := by
  rw [Bool.eq_iff_iff, decide_eq_true_eq]
  unfold wide
  rw [List.any_eq_true]
  constructor
  · intro hw
    refine ⟨_, ?_, decide_eq_true hw⟩
    rw [getD_at (by omega)]
    exact List.getElem_mem _
  · rintro ⟨n, hn, hw⟩
    obtain ⟨i, hi, rfl⟩ := List.getElem_of_mem hn
    have hw := of_decide_eq_true hw
    by_cases he : i = l.length - 1
    · subst he; rw [getD_at (by omega)]; exact hw
    · have := mayL_rise h (i := i) (j := l.length - 1) (by omega) (by omega)
      rw [getD_at hi] at this
      omega
def w16 : List Nat := [128, 0, 0, 0, 0, 0, 0, 0, 0, 0, 0, 0, 0, 0, 0, 0]
def z8 : List Nat := [0, 0, 0, 0, 0, 0, 0, 0]
def startB (l : List Int) : List Nat := bif wide l then w16 else z8
def mapL (l : List Int) : List Nat := putAll l (startB l)
def octs8 (b : List Nat) : List UInt8 := b.map UInt8.ofNat
theorem start_ok (l : List Int) : okB (startB l) := by
  unfold startB
  cases wide l
  · intro x hx; simp only [cond_false, z8, List.mem_cons, List.not_mem_nil, or_false] at hx; omega
  · intro x hx; simp only [cond_true, w16, List.mem_cons, List.not_mem_nil, or_false] at hx; omega
theorem start_len (l : List Int) : (startB l).length = bif wide l then 16 else 8 := by
  unfold startB
  cases wide l <;> rfl
theorem start_in {l : List Int} (h : mayL l = true) : ∀ n ∈ l, 1 ≤ n ∧ n ≤ 8 * ((startB l).length : Int) := fun n hn => by
  have := mayL_mem h hn
  rw [start_len]
  cases hw : wide l
  · have h64 : ¬ 64 < n := fun h64 => by
      have : wide l = true := List.any_eq_true.2 ⟨n, hn, decide_eq_true h64⟩
      rw [hw] at this; cases this
    simp only [cond_false]; omega
  · simp only [cond_true]; omega
theorem mapL_len (l : List Int) : (mapL l).length = bif wide l then 16 else 8 := by unfold mapL; rw [putAll_len, start_len]
theorem mk_ints (x : List Nat) : ByteArray.mk (List.toArray (List.map (fun y3 => UInt8.ofNat (Int.toNat y3)) (ints x))) = bs (octs8 x) := by
  unfold octs8 bs
  rw [List.map_map]
  rfl
theorem map_is {l : List Int} (hl : l.length ≤ 1000) : bitmap_Map.f l = some (bif mayL l then (bs (octs8 (mapL l)), 0) else (bs [], 1)) := by
  unfold bitmap_Map.f
  simp only [may_is (l := l) (by omega), Option.bind_some]
  cases hm : mayL l
  · rfl
  · have mr := map_rounds (l := l) (start_ok l) (start_in hm) hl (by rw [start_len]; cases wide l <;> simp)
    simp only [Bool.not_true, cond_false, cond_true]
    by_cases h0 : l.length = 0
    · have : l = [] := List.eq_nil_of_length_eq_zero h0
      subst this
      have : bitmap_Map.l11 ([], ((([] : List Int).length : Nat) : Int), 0, ints z8) = some (ints (putAll [] z8)) := mr
      rw [decide_eq_false (show ¬ ((([] : List Int).length : Nat) : Int) > 0 by simp), cond_false]
      have e : ([0, 0, 0, 0, 0, 0, 0, 0] : List Int) = ints z8 := rfl
      rw [e, this, Option.bind_some, mk_ints]
      rfl
    · have w : IntKind.wrap .i64 ((l.length : Int) - 1) = ((l.length - 1 : Nat) : Int) := by rw [wrap_i64 (by omega) (by omega)]; omega
      rw [decide_eq_true (show ((l.length : Nat) : Int) > 0 by omega), cond_true]
      simp only [w, ge0 (l.length - 1), decide_eq_true (show ((l.length - 1 : Nat) : Int) < (l.length : Int) by omega), Bool.and_self, cond_true, Int.toNat_natCast]
      rw [wide_last hm (by omega)]
      have e8 : ([0, 0, 0, 0, 0, 0, 0, 0] : List Int) = ints z8 := rfl
      have e16 : ([128, 0, 0, 0, 0, 0, 0, 0, 0, 0, 0, 0, 0, 0, 0, 0] : List Int) = ints w16 := rfl
      rw [e16, e8]
      unfold mapL
      unfold startB at mr ⊢
      cases hw : wide l <;> rw [hw] at mr <;> simp only [cond_false, cond_true] at mr ⊢ <;> rw [mr, Option.bind_some, mk_ints]
end Go.Proofs.YtpoiijkodpnobaaGreatDoor
end
section
set_option linter.unusedVariables false
set_option linter.unusedSimpArgs false
namespace Go.Proofs.YtpoiijkodpnobaaGreatDoor
open Go Go.Fw
theorem octs_len (b : List Nat) : (octs8 b).length = b.length := List.length_map ..
end Go.Proofs.YtpoiijkodpnobaaGreatDoor
end
section
set_option linter.unusedVariables false
set_option linter.unusedSimpArgs false
namespace Go.Proofs.YtpoiijkodpnobaaGreatDoor
open Go Go.Fw
theorem octs_size {l : List Int} : (octs8 (mapL l)).length = bif wide l then 16 else 8 := by rw [octs_len, mapL_len]
end Go.Proofs.YtpoiijkodpnobaaGreatDoor
end
section
set_option linter.unusedVariables false
set_option maxRecDepth 100000
namespace Go.Proofs.YtpoiijkodpnobaaGreatDoor
open Go Go.Fw
abbrev mti_May.As : Shs := (.cons (.x T_api_Mti) .nil)
abbrev mti_May.m : Back := [(false, .b)]
noncomputable abbrev mti_May.H : HK := hk P G0 E0 J0 [] noLoops 4
theorem mti_May.rows : TabOK P G0 (tabF []) := rows_ok (ws := []) trivial
theorem mti_May.hok : HKOK P mti_May.H := hk_ok e0_ok j0_ok mti_May.rows (fun g n => noLoops_ok g n) 4
noncomputable def mti_May.f (a : (Int × (Bool × (Bool × Bool)))) : Option Bool := (bif (a.1 == (1 : Int)) then (bif (a.1 == (1 : Int)) then (bif (!a.2.2.1) then (some true) else (some (!a.2.2.2))) else (bif (a.1 == (6 : Int)) then (bif (a.1 == (6 : Int)) then (bif a.2.1 then (some false) else (bif (!a.2.2.1) then (some true) else (some (!a.2.2.2)))) else (some false)) else (bif (a.1 == (8 : Int)) then (bif a.2.1 then (some false) else (bif (!a.2.2.1) then (some true) else (some (!a.2.2.2)))) else (some false)))) else (bif (a.1 == (2 : Int)) then (bif (a.1 == (2 : Int)) then (bif (!a.2.2.1) then (some true) else (some (!a.2.2.2))) else (bif (a.1 == (6 : Int)) then (bif (a.1 == (6 : Int)) then (bif a.2.1 then (some false) else (bif (!a.2.2.1) then (some true) else (some (!a.2.2.2)))) else (some false)) else (bif (a.1 == (8 : Int)) then (bif a.2.1 then (some false) else (bif (!a.2.2.1) then (some true) else (some (!a.2.2.2)))) else (some false)))) else (bif (a.1 == (4 : Int)) then (bif (a.1 == (4 : Int)) then (bif (!a.2.2.1) then (some true) else (some (!a.2.2.2))) else (bif (a.1 == (6 : Int)) then (bif (a.1 == (6 : Int)) then (bif a.2.1 then (some false) else (bif (!a.2.2.1) then (some true) else (some (!a.2.2.2)))) else (some false)) else (bif (a.1 == (8 : Int)) then (bif a.2.1 then (some false) else (bif (!a.2.2.1) then (some true) else (some (!a.2.2.2)))) else (some false)))) else (bif (a.1 == (5 : Int)) then (bif (!a.2.2.1) then (some true) else (some (!a.2.2.2))) else (bif (a.1 == (6 : Int)) then (bif (a.1 == (6 : Int)) then (bif a.2.1 then (some false) else (bif (!a.2.2.1) then (some true) else (some (!a.2.2.2)))) else (some false)) else (bif (a.1 == (8 : Int)) then (bif a.2.1 then (some false) else (bif (!a.2.2.1) then (some true) else (some (!a.2.2.2)))) else (some false)))))))
theorem mti_May.ok : ∀ a : Vals mti_May.As.tys, fnK P mti_May.H (lp []) 63 mti_May.As mti_May.m a some = mti_May.f a := fun a => by kernel_rfl
noncomputable abbrev mti_May.row : Row := fnRow 63 mti_May.As mti_May.m mti_May.f
theorem mti_May.row_ok : RowOK P G0 mti_May.row := row_told mti_May.hok (lp_of (l := []) trivial) (fun _ => rfl) mti_May.ok
abbrev mti_bits.As : Shs := (.cons (.x (.l .b)) .nil)
abbrev mti_bits.m : Back := [(false, (.i .i64))]
noncomputable abbrev mti_bits.H : HK := hk P G0 E0 J0 [] noLoops 4
theorem mti_bits.rows : TabOK P G0 (tabF []) := rows_ok (ws := []) trivial
theorem mti_bits.hok : HKOK P mti_bits.H := hk_ok e0_ok j0_ok mti_bits.rows (fun g n => noLoops_ok g n) 4
noncomputable abbrev mti_bits.sh4 : SSh := ⟨[(3, (.x (.i .i64))), (6, (.x (.l .b))), (7, (.x (.i .i64))), (8, (.x (.i .i64)))], []⟩
noncomputable abbrev mti_bits.os4 : PEnds := [((.exit 0), ⟨[(3, (.x (.i .i64)))], []⟩)]
noncomputable def mti_bits.t4 (s : (Int × ((List Bool) × (Int × Int)))) : Option ((Int × ((List Bool) × (Int × Int))) ⊕ (Int)) := (bif (decide ((s.2.2.2 < s.2.2.1))) then (bif ((decide (((0 : Int) ≤ s.2.2.2))) && (decide ((s.2.2.2 < ((List.length s.2.1) : Int))))) then (bif (List.getD s.2.1 (Int.toNat s.2.2.2) false) then (bif (decide ((s.2.2.2 < (0 : Int)))) then none else (some (.inl ((bitsOp Go.BinOp.or Go.IntKind.i64 s.1 (IntKind.wrap .i64 ((1 : Int) * ((2 : Int) ^ (Min.min (Int.toNat s.2.2.2) 64))))), (s.2.1, (s.2.2.1, (IntKind.wrap .i64 (s.2.2.2 + (1 : Int))))))))) else (some (.inl (s.1, (s.2.1, (s.2.2.1, (IntKind.wrap .i64 (s.2.2.2 + (1 : Int))))))))) else none) else (some (.inr s.1)))
theorem mti_bits.t4_ok : ∀ s : Vals mti_bits.sh4.tys, turnK P mti_bits.H (lp []) (bodyAt (codeOf P 106) 4) 0 mti_bits.sh4 mti_bits.os4 s some = mti_bits.t4 s := fun s => by kernel_rfl
noncomputable def mti_bits.l4 : (Int × ((List Bool) × (Int × Int))) → Option (Int) := rounds mti_bits.t4
noncomputable def mti_bits.f (a : (List Bool)) : Option Int := (((mti_bits.l4 ((0 : Int), (a, (((List.length a) : Int), (0 : Int)))))).bind fun x1 => (some x1))
theorem mti_bits.ok : ∀ a : Vals mti_bits.As.tys, fnK P mti_bits.H (lp [(4, (NodeT.summ ⟨mti_bits.sh4, mti_bits.os4, mti_bits.l4⟩ 0))]) 106 mti_bits.As mti_bits.m a some = mti_bits.f a := fun a => by kernel_rfl
noncomputable abbrev mti_bits.row : Row := fnRow 106 mti_bits.As mti_bits.m mti_bits.f
theorem mti_bits.row_ok : RowOK P G0 mti_bits.row := row_told mti_bits.hok (lp_of (l := [(4, (NodeT.summ ⟨mti_bits.sh4, mti_bits.os4, mti_bits.l4⟩ 0))]) ⟨(loop_sum mti_bits.hok (by kernel_rfl) (by kernel_rfl) (l := []) trivial mti_bits.sh4 mti_bits.os4 (by kernel_rfl) mti_bits.t4 mti_bits.t4_ok), trivial⟩) (fun _ => rfl) mti_bits.ok
abbrev mti_text.As : Shs := (.cons (.x T_api_Mti) .nil)
abbrev mti_text.m : Back := [(false, .s)]
noncomputable abbrev mti_text.H : HK := hk P G0 E0 J0 [mti_bits.row] noLoops 4
theorem mti_text.rows : TabOK P G0 (tabF [mti_bits.row]) := rows_ok (ws := [mti_bits.row]) ⟨mti_bits.row_ok, trivial⟩
theorem mti_text.hok : HKOK P mti_text.H := hk_ok e0_ok j0_ok mti_text.rows (fun g n => noLoops_ok g n) 4
noncomputable def mti_text.f (a : (Int × (Bool × (Bool × Bool)))) : Option ByteArray := (((mti_bits.f (a.2.2.1 :: (a.2.1 :: [])))).bind fun x1 => (((mti_bits.f (a.2.2.2 :: []))).bind fun x2 => (some (ByteArray.mk (List.toArray (List.map (fun y3 => (UInt8.ofNat (Int.toNat y3))) ((48 : Int) :: ((IntKind.wrap .u8 (IntKind.wrap .i64 ((48 : Int) + a.1))) :: ((IntKind.wrap .u8 (IntKind.wrap .i64 ((48 : Int) + x1))) :: ((IntKind.wrap .u8 (IntKind.wrap .i64 ((48 : Int) + x2))) :: []))))))))))
theorem mti_text.ok : ∀ a : Vals mti_text.As.tys, fnK P mti_text.H (lp []) 64 mti_text.As mti_text.m a some = mti_text.f a := fun a => by kernel_rfl
noncomputable abbrev mti_text.row : Row := fnRow 64 mti_text.As mti_text.m mti_text.f
theorem mti_text.row_ok : RowOK P G0 mti_text.row := row_told mti_text.hok (lp_of (l := []) trivial) (fun _ => rfl) mti_text.ok
abbrev mti_Text.As : Shs := (.cons (.x T_api_Mti) .nil)
abbrev mti_Text.m : Back := [(false, .s), (false, (.i .i64))]
noncomputable abbrev mti_Text.H : HK := hk P G0 E0 J0 [mti_May.row, mti_text.row] noLoops 4
theorem mti_Text.rows : TabOK P G0 (tabF [mti_May.row, mti_text.row]) := rows_ok (ws := [mti_May.row, mti_text.row]) ⟨mti_May.row_ok, ⟨mti_text.row_ok, trivial⟩⟩
theorem mti_Text.hok : HKOK P mti_Text.H := hk_ok e0_ok j0_ok mti_Text.rows (fun g n => noLoops_ok g n) 4
noncomputable def mti_Text.f (a : (Int × (Bool × (Bool × Bool)))) : Option (ByteArray × Int) := (((mti_May.f a)).bind fun x1 => (bif (!x1) then (some ((bs []), (1 : Int))) else (((mti_text.f a)).bind fun x2 => (some (x2, (0 : Int))))))
theorem mti_Text.ok : ∀ a : Vals mti_Text.As.tys, fnK P mti_Text.H (lp []) 29 mti_Text.As mti_Text.m a some = mti_Text.f a := fun a => by kernel_rfl
noncomputable abbrev mti_Text.row : Row := fnRow 29 mti_Text.As mti_Text.m mti_Text.f
theorem mti_Text.row_ok : RowOK P G0 mti_Text.row := row_told mti_Text.hok (lp_of (l := []) trivial) (fun _ => rfl) mti_Text.ok
abbrev mti_Parse.As : Shs := (.cons (.x .s) .nil)
abbrev mti_Parse.m : Back := [(false, T_api_Mti), (false, (.i .i64))]
noncomputable abbrev mti_Parse.H : HK := hk P G0 E0 J0 [mti_May.row, mti_text.row] noLoops 4
theorem mti_Parse.rows : TabOK P G0 (tabF [mti_May.row, mti_text.row]) := rows_ok (ws := [mti_May.row, mti_text.row]) ⟨mti_May.row_ok, ⟨mti_text.row_ok, trivial⟩⟩
theorem mti_Parse.hok : HKOK P mti_Parse.H := hk_ok e0_ok j0_ok mti_Parse.rows (fun g n => noLoops_ok g n) 4
noncomputable def mti_Parse.f (a : ByteArray) : Option ((Int × (Bool × (Bool × Bool))) × Int) := (bif ((a.size : Int) != (4 : Int)) then (some (((0 : Int), (false, (false, false))), (17 : Int))) else (bif (true && (decide (((2 : Int) < (a.size : Int))))) then (bif (true && (decide (((1 : Int) < (a.size : Int))))) then (bif (true && (decide (((3 : Int) < (a.size : Int))))) then (((mti_May.f ((IntKind.wrap .i64 (IntKind.wrap .u8 ((bt a 1) - (48 : Int)))), (((bitsOp Go.BinOp.and Go.IntKind.u8 (IntKind.wrap .u8 ((bt a 2) - (48 : Int))) (2 : Int)) != (0 : Int)), (((bitsOp Go.BinOp.and Go.IntKind.u8 (IntKind.wrap .u8 ((bt a 2) - (48 : Int))) (1 : Int)) != (0 : Int)), ((bt a 3) == (49 : Int))))))).bind fun x1 => (bif (!x1) then (some (((0 : Int), (false, (false, false))), (17 : Int))) else (((mti_text.f ((IntKind.wrap .i64 (IntKind.wrap .u8 ((bt a 1) - (48 : Int)))), (((bitsOp Go.BinOp.and Go.IntKind.u8 (IntKind.wrap .u8 ((bt a 2) - (48 : Int))) (2 : Int)) != (0 : Int)), (((bitsOp Go.BinOp.and Go.IntKind.u8 (IntKind.wrap .u8 ((bt a 2) - (48 : Int))) (1 : Int)) != (0 : Int)), ((bt a 3) == (49 : Int))))))).bind fun x2 => (bif (!((ByteArray.toList x2) == (ByteArray.toList a))) then (some (((0 : Int), (false, (false, false))), (17 : Int))) else (some (((IntKind.wrap .i64 (IntKind.wrap .u8 ((bt a 1) - (48 : Int)))), (((bitsOp Go.BinOp.and Go.IntKind.u8 (IntKind.wrap .u8 ((bt a 2) - (48 : Int))) (2 : Int)) != (0 : Int)), (((bitsOp Go.BinOp.and Go.IntKind.u8 (IntKind.wrap .u8 ((bt a 2) - (48 : Int))) (1 : Int)) != (0 : Int)), ((bt a 3) == (49 : Int))))), (0 : Int))))))) else none) else none) else none))
theorem mti_Parse.ok : ∀ a : Vals mti_Parse.As.tys, fnK P mti_Parse.H (lp []) 28 mti_Parse.As mti_Parse.m a some = mti_Parse.f a := fun a => by kernel_rfl
noncomputable abbrev mti_Parse.row : Row := fnRow 28 mti_Parse.As mti_Parse.m mti_Parse.f
theorem mti_Parse.row_ok : RowOK P G0 mti_Parse.row := row_told mti_Parse.hok (lp_of (l := []) trivial) (fun _ => rfl) mti_Parse.ok
end Go.Proofs.YtpoiijkodpnobaaGreatDoor
end
section
set_option linter.unusedVariables false
set_option linter.unusedSimpArgs false
namespace Go.Proofs.YtpoiijkodpnobaaGreatDoor
open Go Go.Fw
abbrev M := Int × (Bool × (Bool × Bool))
def mayM (m : M) : Bool := ((m.1 == 1 || m.1 == 2 || m.1 == 4 || m.1 == 5) || ((m.1 == 6 || m.1 == 8) && !m.2.1)) && (!m.2.2.1 || !m.2.2.2)
theorem May_is (m : M) : mti_May.f m = some (mayM m) := by
  obtain ⟨c, a, b, d⟩ := m
  simp only [mti_May.f, mayM]
  by_cases h1 : c = 1
  · subst h1; cases a <;> cases b <;> cases d <;> rfl
  by_cases h2 : c = 2
  · subst h2; cases a <;> cases b <;> cases d <;> rfl
  by_cases h4 : c = 4
  · subst h4; cases a <;> cases b <;> cases d <;> rfl
  by_cases h5 : c = 5
  · subst h5; cases a <;> cases b <;> cases d <;> rfl
  by_cases h6 : c = 6
  · subst h6; cases a <;> cases b <;> cases d <;> rfl
  by_cases h8 : c = 8
  · subst h8; cases a <;> cases b <;> cases d <;> rfl
  have e1 : (c == 1) = false := by simp [h1]
  have e2 : (c == 2) = false := by simp [h2]
  have e4 : (c == 4) = false := by simp [h4]
  have e5 : (c == 5) = false := by simp [h5]
  have e6 : (c == 6) = false := by simp [h6]
  have e8 : (c == 8) = false := by simp [h8]
  simp only [e1, e2, e4, e5, e6, e8]
  rfl
def bI (b : Bool) : Int := bif b then 1 else 0
theorem bits1 (a : Bool) : mti_bits.f [a] = some (bI a) := by
  unfold mti_bits.f mti_bits.l4
  have h1 : mti_bits.t4 (0, ([a], (((List.length [a] : Nat) : Int), 0))) = some (.inl (bI a, ([a], (((List.length [a] : Nat) : Int), 1)))) := by cases a <;> decide +kernel
  have h2 : mti_bits.t4 (bI a, ([a], (((List.length [a] : Nat) : Int), 1))) = some (.inr (bI a)) := by cases a <;> decide +kernel
  rw [rounds_next h1, rounds_end h2]; rfl
theorem bits2 (a b : Bool) : mti_bits.f [a, b] = some (bI a + 2 * bI b) := by
  unfold mti_bits.f mti_bits.l4
  have h1 : mti_bits.t4 (0, ([a, b], (((List.length [a, b] : Nat) : Int), 0))) = some (.inl (bI a, ([a, b], (((List.length [a, b] : Nat) : Int), 1)))) := by cases a <;> cases b <;> decide +kernel
  have h2 : mti_bits.t4 (bI a, ([a, b], (((List.length [a, b] : Nat) : Int), 1))) = some (.inl (bI a + 2 * bI b, ([a, b], (((List.length [a, b] : Nat) : Int), 2)))) := by cases a <;> cases b <;> decide +kernel
  have h3 : mti_bits.t4 (bI a + 2 * bI b, ([a, b], (((List.length [a, b] : Nat) : Int), 2))) = some (.inr (bI a + 2 * bI b)) := by cases a <;> cases b <;> decide +kernel
  rw [rounds_next h1, rounds_next h2, rounds_end h3]; rfl
def textM (m : M) : ByteArray := ByteArray.mk (List.toArray (List.map (fun y => UInt8.ofNat (Int.toNat y)) [48, IntKind.wrap .u8 (IntKind.wrap .i64 (48 + m.1)), IntKind.wrap .u8 (IntKind.wrap .i64 (48 + (bI m.2.2.1 + 2 * bI m.2.1))), IntKind.wrap .u8 (IntKind.wrap .i64 (48 + bI m.2.2.2))]))
theorem text_M (m : M) : mti_text.f m = some (textM m) := by
  unfold mti_text.f
  rw [bits2, bits1]; rfl
theorem mtiText_is (m : M) : mti_Text.f m = some (bif mayM m then (textM m, 0) else (bs [], 1)) := by
  unfold mti_Text.f
  rw [May_is]
  cases mayM m with
  | false => rfl
  | true => simp only [Option.bind_some, Bool.not_true, cond_false, text_M]; rfl
end Go.Proofs.YtpoiijkodpnobaaGreatDoor
end
section
set_option linter.unusedVariables false
set_option linter.unusedSimpArgs false
namespace Go.Proofs.YtpoiijkodpnobaaGreatDoor
open Go Go.Fw
def allT : List ByteArray := [bs [48, 49, 48, 48], bs [48, 49, 48, 49], bs [48, 49, 49, 48], bs [48, 49, 50, 48], bs [48, 49, 50, 49], bs [48, 49, 51, 48], bs [48, 50, 48, 48], bs [48, 50, 48, 49], bs [48, 50, 49, 48], bs [48, 50, 50, 48], bs [48, 50, 50, 49], bs [48, 50, 51, 48], bs [48, 52, 48, 48], bs [48, 52, 48, 49], bs [48, 52, 49, 48], bs [48, 52, 50, 48], bs [48, 52, 50, 49], bs [48, 52, 51, 48], bs [48, 53, 48, 48], bs [48, 53, 48, 49], bs [48, 53, 49, 48], bs [48, 53, 50, 48], bs [48, 53, 50, 49], bs [48, 53, 51, 48], bs [48, 54, 48, 48], bs [48, 54, 48, 49], bs [48, 54, 49, 48], bs [48, 56, 48, 48], bs [48, 56, 48, 49], bs [48, 56, 49, 48]]
def allM : List M := [(1, (false, (false, false))), (1, (false, (false, true))), (1, (false, (true, false))), (1, (true, (false, false))), (1, (true, (false, true))), (1, (true, (true, false))), (2, (false, (false, false))), (2, (false, (false, true))), (2, (false, (true, false))), (2, (true, (false, false))), (2, (true, (false, true))), (2, (true, (true, false))), (4, (false, (false, false))), (4, (false, (false, true))), (4, (false, (true, false))), (4, (true, (false, false))), (4, (true, (false, true))), (4, (true, (true, false))), (5, (false, (false, false))), (5, (false, (false, true))), (5, (false, (true, false))), (5, (true, (false, false))), (5, (true, (false, true))), (5, (true, (true, false))), (6, (false, (false, false))), (6, (false, (false, true))), (6, (false, (true, false))), (8, (false, (false, false))), (8, (false, (false, true))), (8, (false, (true, false)))]
def m0 : M := (0, (false, (false, false)))
def tAt (i : Nat) : ByteArray := allT.getD i (bs [])
def mAt (i : Nat) : M := allM.getD i m0
def firstI (p : Nat → Bool) : Option Nat := (List.range 30).find? p
theorem firstI_some {p : Nat → Bool} {i : Nat} (h : firstI p = some i) : i < 30 ∧ p i = true := by
  unfold firstI at h
  exact ⟨List.mem_range.1 (List.mem_of_find?_eq_some h), List.find?_some h⟩
theorem firstI_none {p : Nat → Bool} (h : firstI p = none) : ∀ i, i < 30 → p i = false := by
  unfold firstI at h
  intro i hi
  have := List.find?_eq_none.1 h i (List.mem_range.2 hi)
  simpa using this
theorem text_at : ∀ i, i < 30 → textM (mAt i) = tAt i := by decide +kernel
theorem may_at : ∀ i, i < 30 → mayM (mAt i) = true := by decide +kernel
theorem may_in (m : M) (h : mayM m = true) : ∃ i, i < 30 ∧ mAt i = m := by
  obtain ⟨c, a, b, d⟩ := m
  have hc : c = 1 ∨ c = 2 ∨ c = 4 ∨ c = 5 ∨ c = 6 ∨ c = 8 := by
    simp only [mayM, Bool.and_eq_true, Bool.or_eq_true, beq_iff_eq] at h
    omega
  rcases hc with rfl | rfl | rfl | rfl | rfl | rfl <;> cases a <;> cases b <;> cases d <;> first | (cases h; done) | decide +kernel
def whose (s : ByteArray) : Option Nat := firstI fun i => decide (tAt i = s)
def index (m : M) : Option Nat := firstI fun i => decide (mAt i = m)
def decM (s : ByteArray) : M := (IntKind.wrap .i64 (IntKind.wrap .u8 (bt s 1 - 48)), ((bitsOp .and .u8 (IntKind.wrap .u8 (bt s 2 - 48)) 2 != 0), ((bitsOp .and .u8 (IntKind.wrap .u8 (bt s 2 - 48)) 1 != 0), (bt s 3 == 49))))
theorem dec_at : ∀ i, i < 30 → (tAt i).size = 4 ∧ decM (tAt i) = mAt i := by decide +kernel
theorem mtiParse_is (s : ByteArray) : mti_Parse.f s = some (match whose s with | some i => (mAt i, 0) | none => (m0, 17)) := by
  have key : mti_Parse.f s = bif decide (s.size = 4) then (bif mayM (decM s) && decide (textM (decM s) = s) then some (decM s, 0) else some (m0, 17)) else some (m0, 17) := by
    unfold mti_Parse.f
    by_cases h4 : s.size = 4
    · have d0 : ((s.size : Int) != 4) = false := by simp; omega
      have d1 : decide ((1 : Int) < (s.size : Int)) = true := decide_eq_true (by omega)
      have d2 : decide ((2 : Int) < (s.size : Int)) = true := decide_eq_true (by omega)
      have d3 : decide ((3 : Int) < (s.size : Int)) = true := decide_eq_true (by omega)
      have em : mti_May.f (decM s) = some (mayM (decM s)) := May_is _
      have et : mti_text.f (decM s) = some (textM (decM s)) := text_M _
      unfold decM at em et
      simp only [d0, d1, d2, d3, em, et, decide_eq_true h4, texts_eq, Bool.and_self, cond_true, cond_false, Option.bind_some]
      unfold decM m0
      cases mayM _ with
      | false => rfl
      | true =>
        simp only [Bool.not_true, cond_false, Bool.true_and]
        cases decide (textM _ = s) <;> rfl
    · have d0 : ((s.size : Int) != 4) = true := by simp; omega
      rw [d0, decide_eq_false h4]; rfl
  rw [key]
  cases hx : whose s with
  | some i =>
    obtain ⟨hi, hp⟩ := firstI_some hx
    have e : tAt i = s := of_decide_eq_true hp
    subst e
    obtain ⟨h4, hd⟩ := dec_at i hi
    rw [decide_eq_true h4, hd, may_at i hi, text_at i hi, decide_eq_true rfl]; rfl
  | none =>
    have hn := firstI_none hx
    cases decide (s.size = 4) with
    | false => rfl
    | true =>
      cases hm : mayM (decM s) with
      | false => rfl
      | true =>
        obtain ⟨i, hi, e⟩ := may_in _ hm
        have ht := text_at i hi
        have h1 := hn i hi
        have : decide (textM (decM s) = s) = false := by
          rw [← e, ht]; exact h1
        rw [this]; rfl
end Go.Proofs.YtpoiijkodpnobaaGreatDoor
end
section
set_option linter.unusedVariables false
set_option maxRecDepth 100000
namespace Go.Proofs.YtpoiijkodpnobaaGreatDoor
open Go Go.Fw
abbrev iso_numbers.As : Shs := (.cons (.x (.l (.g (.p (.i .i64) .s)))) .nil)
abbrev iso_numbers.m : Back := [(false, (.l (.i .i64)))]
noncomputable abbrev iso_numbers.H : HK := hk P G0 E0 J0 [] noLoops 4
theorem iso_numbers.rows : TabOK P G0 (tabF []) := rows_ok (ws := []) trivial
theorem iso_numbers.hok : HKOK P iso_numbers.H := hk_ok e0_ok j0_ok iso_numbers.rows (fun g n => noLoops_ok g n) 4
noncomputable abbrev iso_numbers.sh4 : SSh := ⟨[(3, (.own 0 1)), (6, (.x (.l (.g (.p (.i .i64) .s))))), (7, (.x (.i .i64))), (8, (.x (.i .i64)))], [.arrN (.i .i64)]⟩
noncomputable abbrev iso_numbers.os4 : PEnds := [((.exit 0), ⟨[(3, (.x (.l (.i .i64))))], []⟩)]
noncomputable def iso_numbers.t4 (s : ((List (Int × ByteArray)) × (Int × (Int × (List Int))))) : Option (((List (Int × ByteArray)) × (Int × (Int × (List Int)))) ⊕ ((List Int))) := (bif (decide ((s.2.2.1 < s.2.1))) then (bif ((decide (((0 : Int) ≤ s.2.2.1))) && (decide ((s.2.2.1 < ((List.length s.1) : Int))))) then (bif ((true && (Nat.ble (((List.length s.2.2.2) + (List.length ((List.getD s.1 (Int.toNat s.2.2.1) (Ty.dflt T_api_Account)).1 :: []))) * 8) 140737488355328)) && (Nat.ble ((List.length s.2.2.2) + (List.length ((List.getD s.1 (Int.toNat s.2.2.1) (Ty.dflt T_api_Account)).1 :: []))) 140737488355328)) then (some (.inl (s.1, (s.2.1, ((IntKind.wrap .i64 (s.2.2.1 + (1 : Int))), (s.2.2.2 ++ ((List.getD s.1 (Int.toNat s.2.2.1) (Ty.dflt T_api_Account)).1 :: []))))))) else none) else none) else (some (.inr s.2.2.2)))
theorem iso_numbers.t4_ok : ∀ s : Vals iso_numbers.sh4.tys, turnK P iso_numbers.H (lp []) (bodyAt (codeOf P 138) 4) 0 iso_numbers.sh4 iso_numbers.os4 s some = iso_numbers.t4 s := by rintro ⟨s0, s1, s2, s3⟩; cases s3 <;> kernel_rfl
noncomputable def iso_numbers.l4 : ((List (Int × ByteArray)) × (Int × (Int × (List Int)))) → Option ((List Int)) := rounds iso_numbers.t4
noncomputable def iso_numbers.f (a : (List (Int × ByteArray))) : Option (List Int) := (((iso_numbers.l4 (a, (((List.length a) : Int), ((0 : Int), []))))).bind fun x1 => (some x1))
theorem iso_numbers.ok : ∀ a : Vals iso_numbers.As.tys, fnK P iso_numbers.H (lp [(4, (NodeT.summ ⟨iso_numbers.sh4, iso_numbers.os4, iso_numbers.l4⟩ 0))]) 138 iso_numbers.As iso_numbers.m a some = iso_numbers.f a := fun a => by kernel_rfl
noncomputable abbrev iso_numbers.row : Row := fnRow 138 iso_numbers.As iso_numbers.m iso_numbers.f
theorem iso_numbers.row_ok : RowOK P G0 iso_numbers.row := row_told iso_numbers.hok (lp_of (l := [(4, (NodeT.summ ⟨iso_numbers.sh4, iso_numbers.os4, iso_numbers.l4⟩ 0))]) ⟨(loop_sum iso_numbers.hok (by kernel_rfl) (by kernel_rfl) (l := []) trivial iso_numbers.sh4 iso_numbers.os4 (by kernel_rfl) iso_numbers.t4 iso_numbers.t4_ok), trivial⟩) (fun _ => rfl) iso_numbers.ok
abbrev iso_pack.As : Shs := (.cons (.x T_api_Message) .nil)
abbrev iso_pack.m : Back := [(false, .s), (false, (.i .i64))]
noncomputable abbrev iso_pack.H : HK := hk P G1 E0 J0 [mti_Parse.row, bitmap_Map.row, iso_numbers.row, spec_Pack.row] noLoops 4
theorem iso_pack.rows : TabOK P G1 (tabF [mti_Parse.row, bitmap_Map.row, iso_numbers.row, spec_Pack.row]) := rows_ok (ws := [mti_Parse.row, bitmap_Map.row, iso_numbers.row, spec_Pack.row]) ⟨(mti_Parse.row_ok.more g01), ⟨bitmap_Map.row_ok, ⟨(iso_numbers.row_ok.more g01), ⟨spec_Pack.row_ok, trivial⟩⟩⟩⟩
theorem iso_pack.hok : HKOK P iso_pack.H := hk_ok e0_ok j0_ok iso_pack.rows (fun g n => noLoops_ok g n) 4
noncomputable abbrev iso_pack.sh12 : SSh := ⟨[(8, (.x .s)), (36, (.x (.l (.g (.p (.i .i64) .s))))), (37, (.x (.i .i64))), (38, (.x (.i .i64)))], []⟩
noncomputable abbrev iso_pack.os12 : PEnds := [(.ret, ⟨[(2, (.x .s)), (3, (.x (.i .i64)))], []⟩), ((.exit 0), ⟨[(8, (.x .s))], []⟩)]
noncomputable def iso_pack.t12 (s : (ByteArray × ((List (Int × ByteArray)) × (Int × Int)))) : Option ((ByteArray × ((List (Int × ByteArray)) × (Int × Int))) ⊕ ((ByteArray × Int) ⊕ ByteArray)) := (bif (decide ((s.2.2.2 < s.2.2.1))) then (bif ((decide (((0 : Int) ≤ s.2.2.2))) && (decide ((s.2.2.2 < ((List.length s.2.1) : Int))))) then (((spec_Pack.f (List.getD s.2.1 (Int.toNat s.2.2.2) (Ty.dflt T_api_Account)))).bind fun x4 => (bif (x4.2 != (0 : Int)) then (some (.inr (.inl ((bs []), (16 : Int))))) else (bif (Nat.ble (s.1.size + x4.1.size) 9223372036854775807) then (some (.inl ((s.1 ++ x4.1), (s.2.1, (s.2.2.1, (IntKind.wrap .i64 (s.2.2.2 + (1 : Int)))))))) else none))) else none) else (some (.inr (.inr s.1))))
theorem iso_pack.t12_ok : ∀ s : Vals iso_pack.sh12.tys, turnK P iso_pack.H (lp []) (bodyAt (codeOf P 105) 12) 0 iso_pack.sh12 iso_pack.os12 s some = iso_pack.t12 s := fun s => by kernel_rfl
noncomputable def iso_pack.l12 : (ByteArray × ((List (Int × ByteArray)) × (Int × Int))) → Option ((ByteArray × Int) ⊕ ByteArray) := rounds iso_pack.t12
noncomputable def iso_pack.f (a : (ByteArray × (List (Int × ByteArray)))) : Option (ByteArray × Int) := (((mti_Parse.f a.1)).bind fun x1 => (bif (x1.2 != (0 : Int)) then (some ((bs []), x1.2)) else (((iso_numbers.f a.2)).bind fun x2 => (((bitmap_Map.f x2)).bind fun x3 => (bif (x3.2 != (0 : Int)) then (some ((bs []), (16 : Int))) else (bif (Nat.ble (a.1.size + x3.1.size) 9223372036854775807) then (((iso_pack.l12 ((a.1 ++ x3.1), (a.2, (((List.length a.2) : Int), (0 : Int)))))).bind fun x4 => (match x4 with | .inl x5 => (some x5) | .inr x5 => (some (x5, (0 : Int))))) else none))))))
theorem iso_pack.ok : ∀ a : Vals iso_pack.As.tys, fnK P iso_pack.H (lp [(12, (NodeT.summ ⟨iso_pack.sh12, iso_pack.os12, iso_pack.l12⟩ 0))]) 105 iso_pack.As iso_pack.m a some = iso_pack.f a := fun a => by kernel_rfl
noncomputable abbrev iso_pack.row : Row := fnRow 105 iso_pack.As iso_pack.m iso_pack.f
theorem iso_pack.row_ok : RowOK P G1 iso_pack.row := row_told iso_pack.hok (lp_of (l := [(12, (NodeT.summ ⟨iso_pack.sh12, iso_pack.os12, iso_pack.l12⟩ 0))]) ⟨(loop_sum iso_pack.hok (by kernel_rfl) (by kernel_rfl) (l := []) trivial iso_pack.sh12 iso_pack.os12 (by kernel_rfl) iso_pack.t12 iso_pack.t12_ok), trivial⟩) (fun _ => rfl) iso_pack.ok
abbrev iso_Pack.As : Shs := (.cons (.x T_api_Message) .nil)
abbrev iso_Pack.m : Back := [(false, .s), (false, (.i .i64))]
noncomputable abbrev iso_Pack.H : HK := hk P G1 E0 J0 [iso_pack.row] noLoops 4
theorem iso_Pack.rows : TabOK P G1 (tabF [iso_pack.row]) := rows_ok (ws := [iso_pack.row]) ⟨iso_pack.row_ok, trivial⟩
theorem iso_Pack.hok : HKOK P iso_Pack.H := hk_ok e0_ok j0_ok iso_Pack.rows (fun g n => noLoops_ok g n) 4
noncomputable def iso_Pack.f (a : (ByteArray × (List (Int × ByteArray)))) : Option (ByteArray × Int) := (((iso_pack.f a)).bind fun x1 => (bif (x1.2 == (0 : Int)) then (bif (decide (((x1.1.size : Int) > (4000 : Int)))) then (some ((bs []), (9 : Int))) else (some x1)) else (some x1)))
theorem iso_Pack.ok : ∀ a : Vals iso_Pack.As.tys, fnK P iso_Pack.H (lp []) 62 iso_Pack.As iso_Pack.m a some = iso_Pack.f a := fun a => by kernel_rfl
noncomputable abbrev iso_Pack.row : Row := fnRow 62 iso_Pack.As iso_Pack.m iso_Pack.f
theorem iso_Pack.row_ok : RowOK P G1 iso_Pack.row := row_told iso_Pack.hok (lp_of (l := []) trivial) (fun _ => rfl) iso_Pack.ok
end Go.Proofs.YtpoiijkodpnobaaGreatDoor
end
section
set_option linter.unusedVariables false
set_option linter.unusedSimpArgs false
namespace Go.Proofs.YtpoiijkodpnobaaGreatDoor
open Go Go.Fw
abbrev Fld := Int × ByteArray
abbrev Msg := ByteArray × List Fld
theorem dflt_fld : (Ty.dflt (.g (.p (.i .i64) .s)) : Int × ByteArray) = (0, bs []) := rfl
noncomputable def pkE (f : Fld) : ByteArray × Int := (spec_Pack.f f).getD (bs [], 1)
noncomputable def pkL (f : Fld) : List UInt8 := (pkE f).1.data.toList
theorem pkE0_is {f : Fld} (hs : f.2.size ≤ 5000) : spec_Pack.f f = some (pkE f) ∧ (pkL f).length ≤ 1002 ∧ pkE f = (bs (pkL f), (pkE f).2) := by
  obtain ⟨n, s0⟩ := f
  obtain ⟨s, rfl⟩ : ∃ s : List UInt8, s0 = bs s := ⟨_, eq_bs s0⟩
  have hs : s.length ≤ 5000 := by simpa [bs_size] using hs
  obtain ⟨k, v, l, hR, hO, hk⟩ := of_is n
  have hp := pack_is hO hk hs
  have he : pkE (n, bs s) = (bif decide (k = 0) then (bs [], 7) else bif mayF k v l s then (bs (digs v s.length ++ s), 0) else (bs [], 16)) := by unfold pkE; rw [hp]; rfl
  refine ⟨by rw [he, hp], ?_⟩
  unfold pkL
  rw [he]
  by_cases h0 : k = 0
  · rw [decide_eq_true h0]
    exact ⟨by simp [bs_size], rfl⟩
  · rw [decide_eq_false h0]
    simp only [cond_false]
    cases hm : mayF k v l s
    · exact ⟨by simp [bs_size], rfl⟩
    · obtain ⟨h1, h2, h3, h4, h5, h6, h7, h8⟩ := mayF_len hk hm
      have hl := digs_len h3 s.length
      have e : (bs (digs v s.length ++ s)).data.toList = digs v s.length ++ s := bs_list _
      refine ⟨by simp only [cond_true, e, List.length_append]; omega, by simp only [cond_true, e]⟩
noncomputable def okP (l : List Fld) : Bool := (List.range l.length).all fun i => (pkE (l.getD i (0, bs []))).2 == 0
noncomputable def bodyM (l : List Fld) : List UInt8 := (l.map pkL).flatten
theorem bodyM_up (l : List Fld) {i : Nat} (h : i < l.length) : bodyM (l.take (i + 1)) = bodyM (l.take i) ++ pkL (l.getD i (0, bs [])) := by
  unfold bodyM
  rw [take_up (0, bs []) h, List.map_append, List.flatten_append]
  simp
def goodM (m : Msg) : Prop := m.2.length ≤ 130 ∧ ∀ f ∈ m.2, f.2.size ≤ 1001
theorem goodM.at {m : Msg} (h : goodM m) {i : Nat} (hi : i < m.2.length) : (m.2.getD i (0, bs [])).2.size ≤ 5000 := by
  have := h.2 (m.2.getD i (0, bs [])) (by rw [getD_at hi]; exact List.getElem_mem hi)
  omega
theorem bodyM_len {l : List Fld} (h : ∀ f ∈ l, f.2.size ≤ 1001) : (bodyM l).length ≤ 1002 * l.length := by
  unfold bodyM
  induction l with
  | nil => simp
  | cons f l ih =>
    have := (pkE0_is (f := f) (by have := h f List.mem_cons_self; omega)).2.1
    have := ih fun x hx => h x (List.mem_cons_of_mem _ hx)
    simp only [List.map_cons, List.flatten_cons, List.length_append, List.length_cons]
    omega
theorem numbers_is {l : List Fld} (hl : l.length ≤ 1000) : iso_numbers.f l = some (l.map (·.1)) := by
  have h := rounds_map (t := iso_numbers.t4) l (0, bs []) (fun f : Fld => f.1) (fun acc i => (l, (l.length : Int), ((i : Nat) : Int), acc)) (fun acc => acc) (fun i hi => by
    have hm : ((l.take i).map (fun f : Fld => f.1)).length ≤ 1000 := by simp; omega
    simp only [iso_numbers.t4, inb hi, cond_true, ge0' i, Bool.and_self, Int.toNat_natCast, wrap_up (show i < 9223372036854775807 by omega), List.length_cons, List.length_nil]
    rw [Nat.ble_eq_true_of_le (by omega), Nat.ble_eq_true_of_le (by omega)]
    rfl) (fun _ _ => by simp only [iso_numbers.t4, outb, cond_false])
  have h0 : iso_numbers.l4 (l, (l.length : Int), 0, []) = some (l.map (·.1)) := h
  unfold iso_numbers.f
  rw [h0]
  rfl
theorem whose_len {s : ByteArray} {i : Nat} (h : whose s = some i) : s.size = 4 := by
  obtain ⟨h1, h2⟩ := firstI_some h
  rw [← of_decide_eq_true h2]
  exact (dec_at i h1).1
def headM (l : List Fld) : List UInt8 := octs8 (mapL (l.map (·.1)))
theorem headM_len (l : List Fld) : (headM l).length = bif wide (l.map (·.1)) then 16 else 8 := octs_size
noncomputable def packF (m : Msg) : ByteArray × Int := match whose m.1 with
  | none => (bs [], 17)
  | some _ => bif mayL (m.2.map (·.1)) && okP m.2 then (bif decide (4000 < 4 + (headM m.2).length + (bodyM m.2).length) then (bs [], 9) else (bs (m.1.data.toList ++ headM m.2 ++ bodyM m.2), 0)) else (bs [], 16)
theorem pack_rounds {m : Msg} (hg : goodM m) {h : List UInt8} (hh : h.length ≤ 100) : iso_pack.l12 (bs h, m.2, (m.2.length : Int), 0) = some (bif okP m.2 then .inr (bs (h ++ bodyM m.2)) else .inl (bs [], 16)) := by
  obtain ⟨mt, l⟩ := m
  have hl : l.length ≤ 130 := hg.1
  have hf := rounds_first (t := iso_pack.t12) (fun i => (bs (h ++ bodyM (l.take i)), l, (l.length : Int), ((i : Nat) : Int))) (fun i => bif (pkE (l.getD i (0, bs []))).2 == 0 then none else some (.inl (bs [], (16 : Int)))) (.inr (bs (h ++ bodyM l))) l.length (fun i hi _ => by
    obtain ⟨p1, p2, p4⟩ := pkE0_is (f := l.getD i (0, bs [])) (hg.at hi)
    have hb : (bodyM (l.take i)).length ≤ 1002 * (l.take i).length := bodyM_len fun f hf => hg.2 f (List.mem_of_mem_take hf)
    have hb' : (l.take i).length ≤ 130 := by simp; omega
    have hbt : (h ++ bodyM (l.take i)).length ≤ 131000 := by simp only [List.length_append]; omega
    simp only [iso_pack.t12, inb hi, cond_true, ge0' i, Bool.and_self, Int.toNat_natCast, dflt_fld, p1, Option.bind_some, bne]
    rw [bodyM_up l hi, p4]
    cases (pkE (l.getD i (0, bs []))).2 == 0
    · rfl
    · simp only [Bool.not_true, cond_false, cond_true, bs_append, bs_size, wrap_up (show i < 9223372036854775807 by omega)]
      rw [Nat.ble_eq_true_of_le (by omega), List.append_assoc]
      rfl) (fun _ => by simp only [iso_pack.t12, outb, cond_false, List.take_length])
  have hf' : iso_pack.l12 (bs (h ++ bodyM (l.take 0)), l, (l.length : Int), 0) = _ := hf
  have e0 : h ++ bodyM (l.take 0) = h := by unfold bodyM; simp
  rw [e0] at hf'
  show iso_pack.l12 (bs h, l, (l.length : Int), 0) = _
  rw [hf']
  unfold okP
  rcases find_not (n := l.length) (p := fun i => (pkE (l.getD i (0, bs []))).2 == 0) (g := fun i => Sum.inl (β := ByteArray) (bs [], (16 : Int))) with ⟨i, _, h1, h2⟩ | ⟨h1, h2⟩ <;> rw [h1, h2] <;> rfl
theorem isoPack_is {m : Msg} (hg : goodM m) : iso_Pack.f m = some (packF m) := by
  have hl := hg.1
  unfold iso_Pack.f iso_pack.f packF
  rw [mtiParse_is]
  cases hw : whose m.1 with
  | none => rfl
  | some i =>
    have h4 : m.1.data.toList.length = 4 := by have := whose_len hw; simpa using this
    have hn : (m.2.map (fun f : Fld => f.1)).length ≤ 1000 := by simp; omega
    have hh := headM_len m.2
    have hh' : (headM m.2).length ≤ 16 := by rw [hh]; cases wide (m.2.map (·.1)) <;> simp
    simp only [Option.bind_some, bne_self_eq_false, cond_false, numbers_is (show m.2.length ≤ 1000 by omega), map_is hn]
    cases mayL (m.2.map (·.1))
    · rfl
    · have ha : m.1 ++ bs (octs8 (mapL (m.2.map (·.1)))) = bs (m.1.data.toList ++ headM m.2) := by
        conv => lhs; lhs; rw [eq_bs m.1]
        rw [bs_append]; rfl
      simp only [cond_true, bne_self_eq_false, cond_false, ha]
      rw [Nat.ble_eq_true_of_le (by rw [bs_size]; have := whose_len hw; unfold headM at hh'; omega), cond_true, pack_rounds hg (by simp only [List.length_append]; omega)]
      cases okP m.2
      · rfl
      · simp only [cond_true, Option.bind_some, bs_size, Bool.and_self, BEq.rfl]
        by_cases c : 4000 < 4 + (headM m.2).length + (bodyM m.2).length
        · rw [decide_eq_true c, decide_eq_true (by simp only [List.length_append]; omega)]; rfl
        · rw [decide_eq_false c, decide_eq_false (by simp only [List.length_append]; omega)]; rfl
theorem packF_zero {m : Msg} (h : (packF m).2 = 0) : ∃ i, whose m.1 = some i ∧ mayL (m.2.map (·.1)) = true ∧ okP m.2 = true ∧ 4 + (headM m.2).length + (bodyM m.2).length ≤ 4000 ∧ (packF m).1 = bs (m.1.data.toList ++ headM m.2 ++ bodyM m.2) := by
  unfold packF at h ⊢
  cases hw : whose m.1 with
  | none => rw [hw] at h; cases h
  | some i =>
    rw [hw] at h
    simp only at h ⊢
    cases h1 : mayL (m.2.map (·.1))
    · rw [h1] at h; cases h
    · cases h2 : okP m.2
      · rw [h1, h2] at h; cases h
      · rw [h1, h2] at h
        simp only [Bool.and_self, cond_true] at h ⊢
        by_cases c : 4000 < 4 + (headM m.2).length + (bodyM m.2).length
        · rw [decide_eq_true c] at h; cases h
        · rw [decide_eq_false c]
          simp only [cond_false, and_true, true_and]
          exact ⟨i, rfl, by omega⟩
end Go.Proofs.YtpoiijkodpnobaaGreatDoor
end
section
set_option linter.unusedVariables false
set_option maxRecDepth 100000
namespace Go.Proofs.YtpoiijkodpnobaaGreatDoor
open Go Go.Fw
abbrev iso_Check.As : Shs := (.cons (.x T_api_Message) .nil)
abbrev iso_Check.m : Back := [(false, (.i .i64))]
noncomputable abbrev iso_Check.H : HK := hk P G1 E0 J0 [iso_Pack.row] noLoops 4
theorem iso_Check.rows : TabOK P G1 (tabF [iso_Pack.row]) := rows_ok (ws := [iso_Pack.row]) ⟨iso_Pack.row_ok, trivial⟩
theorem iso_Check.hok : HKOK P iso_Check.H := hk_ok e0_ok j0_ok iso_Check.rows (fun g n => noLoops_ok g n) 4
noncomputable def iso_Check.f (a : (ByteArray × (List (Int × ByteArray)))) : Option Int := (((iso_Pack.f a)).bind fun x1 => (some x1.2))
theorem iso_Check.ok : ∀ a : Vals iso_Check.As.tys, fnK P iso_Check.H (lp []) 27 iso_Check.As iso_Check.m a some = iso_Check.f a := fun a => by kernel_rfl
noncomputable abbrev iso_Check.row : Row := fnRow 27 iso_Check.As iso_Check.m iso_Check.f
theorem iso_Check.row_ok : RowOK P G1 iso_Check.row := row_told iso_Check.hok (lp_of (l := []) trivial) (fun _ => rfl) iso_Check.ok
end Go.Proofs.YtpoiijkodpnobaaGreatDoor
end
section
set_option linter.unusedVariables false
set_option linter.unusedSimpArgs false
namespace Go.Proofs.YtpoiijkodpnobaaGreatDoor
open Go Go.Fw
theorem aw19c : bursarref16_Of.f 70 = some (1, 0, 3) := by kernel_rfl
end Go.Proofs.YtpoiijkodpnobaaGreatDoor
end
section
set_option linter.unusedVariables false
set_option maxRecDepth 100000
namespace Go.Proofs.YtpoiijkodpnobaaGreatDoor
open Go Go.Fw
abbrev iso_Get.As : Shs := (.cons (.x T_api_Message) (.cons (.x (.i .i64)) .nil))
abbrev iso_Get.m : Back := [(false, .s), (false, .b)]
noncomputable abbrev iso_Get.H : HK := hk P G0 E0 J0 [] noLoops 4
theorem iso_Get.rows : TabOK P G0 (tabF []) := rows_ok (ws := []) trivial
theorem iso_Get.hok : HKOK P iso_Get.H := hk_ok e0_ok j0_ok iso_Get.rows (fun g n => noLoops_ok g n) 4
noncomputable abbrev iso_Get.shi0 : SSh := ⟨[(0, (.x (.l (.g (.p (.i .i64) .s))))), (1, (.fn 141 (.cons (.pt 1 0) .nil))), (7, (.x (.i .i64))), (8, (.x (.i .i64)))], [.box (.cons (.x .s) (.cons (.x (.l (.g (.p (.i .i64) .s)))) .nil)), .box (.cons (.x (.i .i64)) .nil)]⟩
noncomputable abbrev iso_Get.osi0 : PEnds := [(.ret, ⟨[(4, (.x (.i .i64)))], [.box (.cons (.x .s) (.cons (.x (.l (.g (.p (.i .i64) .s)))) .nil)), .box (.cons (.x (.i .i64)) .nil)]⟩), ((.exit 0), ⟨[], [.box (.cons (.x .s) (.cons (.x (.l (.g (.p (.i .i64) .s)))) .nil)), .box (.cons (.x (.i .i64)) .nil)]⟩)]
noncomputable def iso_Get.ti0 (s : ((List (Int × ByteArray)) × (Int × (Int × (ByteArray × ((List (Int × ByteArray)) × Int)))))) : Option (((List (Int × ByteArray)) × (Int × (Int × (ByteArray × ((List (Int × ByteArray)) × Int))))) ⊕ ((Int × (ByteArray × ((List (Int × ByteArray)) × Int))) ⊕ (ByteArray × ((List (Int × ByteArray)) × Int)))) := (bif (decide ((s.2.2.1 < s.2.1))) then (bif ((decide (((0 : Int) ≤ s.2.2.1))) && (decide ((s.2.2.1 < ((List.length s.1) : Int))))) then (bif ((List.getD s.1 (Int.toNat s.2.2.1) (Ty.dflt T_api_Account)).1 == s.2.2.2.2.2) then (some (.inr (.inl s.2.2))) else (some (.inl (s.1, (s.2.1, ((IntKind.wrap .i64 (s.2.2.1 + (1 : Int))), s.2.2.2)))))) else none) else (some (.inr (.inr s.2.2.2))))
theorem iso_Get.ti0_ok : ∀ s : Vals iso_Get.shi0.tys, turnK P iso_Get.H (lp []) (bodyAt (codeOf P 140) 3) 2 iso_Get.shi0 iso_Get.osi0 s some = iso_Get.ti0 s := fun s => by kernel_rfl
noncomputable def iso_Get.li0 : ((List (Int × ByteArray)) × (Int × (Int × (ByteArray × ((List (Int × ByteArray)) × Int))))) → Option ((Int × (ByteArray × ((List (Int × ByteArray)) × Int))) ⊕ (ByteArray × ((List (Int × ByteArray)) × Int))) := rounds iso_Get.ti0
noncomputable abbrev iso_Get.L1 : ILp := [(140, 2, [(3, (NodeT.summ ⟨iso_Get.shi0, iso_Get.osi0, iso_Get.li0⟩ 2))])]
theorem iso_Get.L1ok : ILpOK P G0 iso_Get.L1 := ⟨⟨(loop_sum iso_Get.hok (by kernel_rfl) (by kernel_rfl) (l := []) trivial iso_Get.shi0 iso_Get.osi0 (by kernel_rfl) iso_Get.ti0 iso_Get.ti0_ok), trivial⟩, trivial⟩
noncomputable abbrev iso_Get.H1 : HK := hk P G0 E0 J0 [] (ilp iso_Get.L1) 4
theorem iso_Get.hok1 : HKOK P iso_Get.H1 := hk_ok e0_ok j0_ok iso_Get.rows (fun g n => ilp_ok iso_Get.L1ok g n) 4
noncomputable def iso_Get.f (a : ((ByteArray × (List (Int × ByteArray))) × Int)) : Option (ByteArray × Bool) := (((iso_Get.li0 (a.1.2, (((List.length a.1.2) : Int), ((0 : Int), (a.1.1, (a.1.2, a.2))))))).bind fun x2 => (match x2 with | .inl x3 => (bif (decide ((x3.1 < (0 : Int)))) then (some ((bs []), false)) else (bif ((decide (((0 : Int) ≤ x3.1))) && (decide ((x3.1 < ((List.length x3.2.2.1) : Int))))) then (some ((List.getD x3.2.2.1 (Int.toNat x3.1) (Ty.dflt T_api_Account)).2, true)) else none)) | .inr x3 => (some ((bs []), false))))
theorem iso_Get.ok : ∀ a : Vals iso_Get.As.tys, fnK P iso_Get.H1 (lp []) 107 iso_Get.As iso_Get.m a some = iso_Get.f a := fun a => by kernel_rfl
noncomputable abbrev iso_Get.row : Row := fnRow 107 iso_Get.As iso_Get.m iso_Get.f
theorem iso_Get.row_ok : RowOK P G0 iso_Get.row := row_told iso_Get.hok1 (lp_of (l := []) trivial) (fun _ => rfl) iso_Get.ok
end Go.Proofs.YtpoiijkodpnobaaGreatDoor
end
section
set_option linter.unusedVariables false
set_option linter.unusedSimpArgs false
namespace Go.Proofs.YtpoiijkodpnobaaGreatDoor
open Go Go.Fw
abbrev zF : Fld := (0, bs [])
theorem find_first {R : Type} {l : List Fld} {p : Fld → Bool} {g : Nat → R} :
    (List.range l.length).findSome? (fun i => bif p (l.getD i zF) then some (g i) else none) = (bif decide (l.findIdx p < l.length) then some (g (l.findIdx p)) else none) := by
  have hno : ∀ j, j < l.findIdx p → j < l.length → p (l.getD j zF) = false := fun j h1 h2 => by
    rw [getD_at h2]
    have := List.not_of_lt_findIdx h1
    simpa using this
  by_cases h : l.findIdx p < l.length
  · rw [decide_eq_true h, cond_true]
    refine range_some h (fun j hj => ?_) ?_
    · show (bif p (l.getD j zF) then some (g j) else none) = none
      rw [hno j hj (by omega)]; rfl
    · have := List.findIdx_getElem (w := h)
      show (bif p (l.getD (l.findIdx p) zF) then some (g (l.findIdx p)) else none) = _
      rw [getD_at h, this]; rfl
  · rw [decide_eq_false h, cond_false]
    have he : l.findIdx p = l.length := Nat.le_antisymm List.findIdx_le_length (by omega)
    refine range_none (Nat.le_refl _) fun j hj => ?_
    show (bif p (l.getD j zF) then some (g j) else none) = none
    rw [hno j (by omega) hj]; rfl
def getF (l : List Fld) (n : Int) : ByteArray × Bool := bif decide (l.findIdx (fun f => f.1 == n) < l.length) then ((l.getD (l.findIdx fun f => f.1 == n) zF).2, true) else (bs [], false)
theorem get_is {t : ByteArray} {l : List Fld} (hl : l.length ≤ 1000) (n : Int) : iso_Get.f ((t, l), n) = some (getF l n) := by
  have hf := rounds_first (t := iso_Get.ti0) (fun i => (l, (l.length : Int), ((i : Nat) : Int), t, l, n)) (fun i => bif (l.getD i zF).1 == n then some (.inl (((i : Nat) : Int), t, l, n)) else none) (.inr (t, l, n)) l.length (fun i hi _ => by
    simp only [iso_Get.ti0, inb hi, cond_true, ge0' i, Bool.and_self, Int.toNat_natCast, dflt_fld, wrap_up (show i < 9223372036854775807 by omega)]
    cases ((l.getD i zF).1 == n) <;> rfl) (fun _ => by simp only [iso_Get.ti0, outb, cond_false])
  have hf' : iso_Get.li0 (l, (l.length : Int), 0, t, l, n) = _ := hf
  unfold iso_Get.f getF
  simp only [hf', find_first (l := l) (p := fun f => f.1 == n) (g := fun i => Sum.inl (β := ByteArray × List Fld × Int) (((i : Nat) : Int), t, l, n))]
  by_cases h : l.findIdx (fun f => f.1 == n) < l.length
  · rw [decide_eq_true h]
    simp only [cond_true, Option.getD_some, Option.bind_some, decide_eq_false (show ¬ ((l.findIdx (fun f => f.1 == n) : Nat) : Int) < 0 by omega), cond_false, ge0', inb h, Bool.and_self, Int.toNat_natCast, dflt_fld]
  · rw [decide_eq_false h]
    rfl
abbrev over (n : Int) (f : Fld) : Bool := decide (f.1 > n)
abbrev other (n : Int) (f : Fld) : Bool := !(f.1 == n)
def putF (d : List Fld) (n : Int) (v : ByteArray) : List Fld := d.take (d.findIdx (over n)) ++ [(n, v)] ++ d.drop (d.findIdx (over n))
abbrev keepF (l : List Fld) (n : Int) : List Fld := l.filter (other n)
theorem get_put (l : List Fld) (n : Int) (v : ByteArray) : getF (putF (keepF l n) n v) n = (v, true) := by
  obtain ⟨d, hd⟩ : ∃ d, keepF l n = d := ⟨_, rfl⟩
  have hno : ∀ f ∈ d, (f.1 == n) = false := fun f hf => by
    rw [← hd] at hf
    have := (List.mem_filter.1 hf).2
    simpa [other] using this
  rw [hd]
  obtain ⟨p, hp⟩ : ∃ p, d.take (d.findIdx (over n)) = p := ⟨_, rfl⟩
  obtain ⟨q, hq⟩ : ∃ q, d.drop (d.findIdx (over n)) = q := ⟨_, rfl⟩
  have hpn : ∀ f ∈ p, (f.1 == n) = false := fun f hf => hno f (by rw [← hp] at hf; exact List.mem_of_mem_take hf)
  have e : putF d n v = p ++ ((n, v) :: q) := by unfold putF; rw [hp, hq, List.append_assoc]; rfl
  have hp' : ¬ p.findIdx (fun f => f.1 == n) < p.length := fun h => by
    obtain ⟨f, hf, h⟩ := List.findIdx_lt_length.1 h
    rw [hpn f hf] at h
    cases h
  have hi : (p ++ ((n, v) :: q)).findIdx (fun f => f.1 == n) = p.length := by
    rw [List.findIdx_append, if_neg hp', List.findIdx_cons]
    simp
  unfold getF
  rw [e, hi, decide_eq_true (by simp), cond_true]
  simp [List.getD_eq_getElem?_getD]
end Go.Proofs.YtpoiijkodpnobaaGreatDoor
end
section
namespace Go.Proofs
open Go.Shelf
def Tryz.laysC174_ren : Go.Shelf.Ren := ⟨fun | 174 => 108 | 247 => 142 | 245 => 122 | 287 => 121 | 279 => 153 | 280 => 154 | 281 => 155 | 282 => 156 | 321 => 151 | 322 => 152 | 316 => 177 | 171 => 52 | 205 => 178 | 243 => 90 | 246 => 124 | 283 => 157 | 284 => 158 | 285 => 159 | 286 => 160 | 129 => 180 | 317 => 179 | 318 => 181 | 319 => 182 | 320 => 183 | 337 => 189 | 338 => 190 | n => n, fun | 9 => 9 | 3 => 3 | 2 => 2 | 75 => 141 | 85 => 161 | 4 => 4 | 167 => 206 | 5 => 5 | 53 => 95 | 175 => 142 | 46 => 163 | 168 => 208 | 37 => 132 | 0 => 0 | 210 => 234 | 21 => 21 | 127 => 204 | 145 => 247 | 143 => 245 | 171 => 211 | 173 => 214 | 212 => 237 | 51 => 200 | 20 => 20 | 213 => 238 | 232 => 257 | 233 => 258 | 80 => 173 | n => n, fun | 15 => 2 | 16 => 3 | 17 => 4 | 18 => 6 | 19 => 7 | n => n⟩
theorem Tryz.laysC174 : Go.Proofs.LaysC.n174 Tryz.prog Tryz.laysC174_ren := {
  mixed := by kernel_rfl
  f129 := Tryz.func180.trans (congrArg some (by kernel_rfl))
  f171 := Tryz.func52.trans (congrArg some (by kernel_rfl))
  f174 := Tryz.func108.trans (congrArg some (by kernel_rfl))
  f205 := Tryz.func178.trans (congrArg some (by kernel_rfl))
  f243 := Tryz.func90.trans (congrArg some (by kernel_rfl))
  f245 := Tryz.func122.trans (congrArg some (by kernel_rfl))
  f246 := Tryz.func124.trans (congrArg some (by kernel_rfl))
  f247 := Tryz.func142.trans (congrArg some (by kernel_rfl))
  f279 := Tryz.func153.trans (congrArg some (by kernel_rfl))
  f280 := Tryz.func154.trans (congrArg some (by kernel_rfl))
  f281 := Tryz.func155.trans (congrArg some (by kernel_rfl))
  f282 := Tryz.func156.trans (congrArg some (by kernel_rfl))
  f283 := Tryz.func157.trans (congrArg some (by kernel_rfl))
  f284 := Tryz.func158.trans (congrArg some (by kernel_rfl))
  f285 := Tryz.func159.trans (congrArg some (by kernel_rfl))
  f286 := Tryz.func160.trans (congrArg some (by kernel_rfl))
  f287 := Tryz.func121.trans (congrArg some (by kernel_rfl))
  f316 := Tryz.func177.trans (congrArg some (by kernel_rfl))
  f317 := Tryz.func179.trans (congrArg some (by kernel_rfl))
  f318 := Tryz.func181.trans (congrArg some (by kernel_rfl))
  f319 := Tryz.func182.trans (congrArg some (by kernel_rfl))
  f320 := Tryz.func183.trans (congrArg some (by kernel_rfl))
  f321 := Tryz.func151.trans (congrArg some (by kernel_rfl))
  f322 := Tryz.func152.trans (congrArg some (by kernel_rfl))
  f337 := Tryz.func189.trans (congrArg some (by kernel_rfl))
  f338 := Tryz.func190.trans (congrArg some (by kernel_rfl))
  t0 := Tryz.underlying0
  a0 := Tryz.isAgg0
  z0 := Tryz.sizeOf0
  v0 := Tryz.zeroValue0
  t2 := Tryz.underlying2
  a2 := Tryz.isAgg2
  z2 := Tryz.sizeOf2
  v2 := Tryz.zeroValue2
  t3 := Tryz.underlying3
  a3 := Tryz.isAgg3
  z3 := Tryz.sizeOf3
  v3 := Tryz.zeroValue3
  t4 := Tryz.underlying4
  a4 := Tryz.isAgg4
  z4 := Tryz.sizeOf4
  v4 := Tryz.zeroValue4
  t5 := Tryz.underlying5
  a5 := Tryz.isAgg5
  z5 := Tryz.sizeOf5
  v5 := Tryz.zeroValue5
  t9 := Tryz.underlying9
  a9 := Tryz.isAgg9
  z9 := Tryz.sizeOf9
  v9 := Tryz.zeroValue9
  t20 := Tryz.underlying20
  a20 := Tryz.isAgg20
  z20 := Tryz.sizeOf20
  v20 := Tryz.zeroValue20
  t21 := Tryz.underlying21
  a21 := Tryz.isAgg21
  z21 := Tryz.sizeOf21
  v21 := Tryz.zeroValue21
  t37 := Tryz.underlying132
  a37 := Tryz.isAgg132
  z37 := Tryz.sizeOf132
  v37 := Tryz.zeroValue132
  t46 := Tryz.underlying163
  a46 := Tryz.isAgg163
  z46 := Tryz.sizeOf163
  v46 := Tryz.zeroValue163
  t51 := Tryz.underlying200
  a51 := Tryz.isAgg200
  z51 := Tryz.sizeOf200
  v51 := Tryz.zeroValue200
  t53 := Tryz.underlying95
  a53 := Tryz.isAgg95
  z53 := Tryz.sizeOf95
  v53 := Tryz.zeroValue95
  t75 := Tryz.underlying141
  a75 := Tryz.isAgg141
  z75 := Tryz.sizeOf141
  v75 := Tryz.zeroValue141
  t85 := Tryz.underlying161
  a85 := Tryz.isAgg161
  z85 := Tryz.sizeOf161
  v85 := Tryz.zeroValue161
  t127 := Tryz.underlying204
  a127 := Tryz.isAgg204
  z127 := Tryz.sizeOf204
  v127 := Tryz.zeroValue204
  t143 := Tryz.underlying245
  a143 := Tryz.isAgg245
  z143 := Tryz.sizeOf245
  v143 := Tryz.zeroValue245
  t145 := Tryz.underlying247
  a145 := Tryz.isAgg247
  z145 := Tryz.sizeOf247
  v145 := Tryz.zeroValue247
  t167 := Tryz.underlying206
  a167 := Tryz.isAgg206
  z167 := Tryz.sizeOf206
  v167 := Tryz.zeroValue206
  t168 := Tryz.underlying208
  a168 := Tryz.isAgg208
  z168 := Tryz.sizeOf208
  v168 := Tryz.zeroValue208
  t171 := Tryz.underlying211
  a171 := Tryz.isAgg211
  z171 := Tryz.sizeOf211
  v171 := Tryz.zeroValue211
  t173 := Tryz.underlying214
  a173 := Tryz.isAgg214
  z173 := Tryz.sizeOf214
  v173 := Tryz.zeroValue214
  t175 := Tryz.underlying142
  a175 := Tryz.isAgg142
  z175 := Tryz.sizeOf142
  v175 := Tryz.zeroValue142
  t210 := Tryz.underlying234
  a210 := Tryz.isAgg234
  z210 := Tryz.sizeOf234
  v210 := Tryz.zeroValue234
  t212 := Tryz.underlying237
  a212 := Tryz.isAgg237
  z212 := Tryz.sizeOf237
  v212 := Tryz.zeroValue237
  t213 := Tryz.underlying238
  a213 := Tryz.isAgg238
  z213 := Tryz.sizeOf238
  t232 := Tryz.underlying257
  a232 := Tryz.isAgg257
  z232 := Tryz.sizeOf257
  v232 := Tryz.zeroValue257
  t233 := Tryz.underlying258
  a233 := Tryz.isAgg258
  z233 := Tryz.sizeOf258
  v233 := Tryz.zeroValue258
  g15 := by kernel_rfl
  g16 := by kernel_rfl
  g17 := by kernel_rfl
  g18 := by kernel_rfl
  g19 := by kernel_rfl
  t80 := Tryz.underlying173
  a80 := Tryz.isAgg173
  z80 := Tryz.sizeOf173
  v80 := Tryz.zeroValue173
  i0 := by kernel_rfl
  i2 := by kernel_rfl
  i3 := by kernel_rfl
  i4 := by kernel_rfl
  i5 := by kernel_rfl
  i9 := by kernel_rfl
  i20 := by kernel_rfl
  i21 := by kernel_rfl
  i37 := by kernel_rfl
  i46 := by kernel_rfl
  i51 := by kernel_rfl
  i53 := by kernel_rfl
  i75 := by kernel_rfl
  i80 := by kernel_rfl
  i85 := by kernel_rfl
  i127 := by kernel_rfl
  i143 := by kernel_rfl
  i145 := by kernel_rfl
  i167 := by kernel_rfl
  i168 := by kernel_rfl
  i171 := by kernel_rfl
  i173 := by kernel_rfl
  i175 := by kernel_rfl
  i210 := by kernel_rfl
  i212 := by kernel_rfl
  i232 := by kernel_rfl
  i233 := by kernel_rfl
  m15 := by kernel_rfl
  m16 := by kernel_rfl
  m17 := by kernel_rfl
  m18 := by kernel_rfl
  m19 := by kernel_rfl
  c0 := by kernel_rfl
  c2 := by kernel_rfl
  c3 := by kernel_rfl
  c4 := by kernel_rfl
  c5 := by kernel_rfl
  c9 := by kernel_rfl
  c20 := by kernel_rfl
  c21 := by kernel_rfl
  c37 := by kernel_rfl
  c46 := by kernel_rfl
  c51 := by kernel_rfl
  c53 := by kernel_rfl
  c75 := by kernel_rfl
  c80 := by kernel_rfl
  c85 := by kernel_rfl
  c127 := by kernel_rfl
  c143 := by kernel_rfl
  c145 := by kernel_rfl
  c167 := by kernel_rfl
  c168 := by kernel_rfl
  c171 := by kernel_rfl
  c173 := by kernel_rfl
  c175 := by kernel_rfl
  c210 := by kernel_rfl
  c212 := by kernel_rfl
  c213 := by kernel_rfl
  c232 := by kernel_rfl
  c233 := by kernel_rfl }
end Go.Proofs
end
section
set_option linter.unusedVariables false
namespace Go.Proofs.YtpoiijkodpnobaaGreatDoor
open Go Go.Fw Go.RowKit Go.Shelf
def parseI (l : List UInt8) : Int × Bool := match Lib.parseIntB 64 l with
  | .ok v => (v, false)
  | .«syntax» => (0, true)
  | .range => (Lib.intSat 64 l, true)
abbrev strconv_ParseInt.As : Shs := .cons (.x .s) (.cons (.x (.i .i64)) (.cons (.x (.i .i64)) .nil))
abbrev strconv_ParseInt.m : Back := [(false, .i .i64), (false, .e)]
abbrev strconv_ParseInt.f (a : (ByteArray × (Int × Int))) : Option (Int × Bool) := bif decide (a.2.1 = 10) && decide (a.2.2 = 64) && decide (a.1.size ≤ 281474976710656) then some (parseI a.1.data.toList) else none
noncomputable abbrev strconv_ParseInt.row : Row := fnRow 108 strconv_ParseInt.As strconv_ParseInt.m strconv_ParseInt.f
theorem parseInt_bytes_below (w : World) (t : TypeId) (s : ByteArray) : Below w.heap.size w (Lib.bytesWorld w t s) := by
  unfold Lib.bytesWorld World.freeze
  rw [if_neg (by decide)]
  refine ⟨rfl, rfl, rfl, by simp, fun k hk => ?_⟩
  show ((w.heap.push _).modify _ _)[k]? = _
  rw [Array.getElem?_modify, if_neg (by show ¬ w.heap.size = k; omega), Array.getElem?_push, if_neg (by omega)]
theorem strconv_ParseInt.row_ok : RowOK P G1 strconv_ParseInt.row := by
  have key : ∀ (ds : List D) (a : ByteArray × (Int × Int)) (q : Int × Bool), decArgs strconv_ParseInt.As ds = some a → strconv_ParseInt.f a = some q → Fw.Enters P 108 ∧ PCall P G1 108 ds (.tp [.i .i64 q.1, .er q.2]) := by
    intro ds a q ha hq
    refine ⟨ent_of Tryz.func108 (by kernel_rfl) (by kernel_rfl), ?_⟩
    have hds := (decArgs_argD ha).symm
    refine PCall.coe (ds' := argD strconv_ParseInt.As a) ?_ (by rw [← hds]; exact coeA_len) fun w I f hf => by rw [← hds]; exact coeA_rel hf
    refine pcall_below fun w I K vs hg hsz hr => ?_
    have h0 := hr 0 (.s a.1) rfl
    have h1 := hr 1 (.i .i64 a.2.1) rfl
    have h2 := hr 2 (.i .i64 a.2.2) rfl
    have hvs : vs = #[.string a.1, .int .i64 a.2.1, .int .i64 a.2.2] := by
      have hs : vs.size = 3 := hsz
      rw [Array.getD_eq_getD_getElem?, Array.getElem?_eq_getElem (by omega)] at h0 h1 h2
      simp only [Option.getD_some] at h0 h1 h2
      refine Array.ext (by simpa using hs) fun i hi hi' => ?_
      match i, hi with
      | 0, _ => cases h : vs[0] <;> rw [h] at h0 <;> cases h0; rfl
      | 1, _ => cases h : vs[1] <;> rw [h] at h1 <;> cases h1; rfl
      | 2, _ => cases h : vs[2] <;> rw [h] at h2 <;> cases h2; rfl
      | i + 3, hi => omega
    subst hvs
    unfold strconv_ParseInt.f at hq
    obtain ⟨hb, hq⟩ := cond_some hq
    simp only [Bool.and_eq_true, decide_eq_true_eq] at hb
    obtain ⟨⟨h3, h4⟩, h5⟩ := hb
    rw [h3, h4]
    injection hq with hq
    subst hq
    unfold parseI
    have tup : ∀ (w' : World) (n : Int) (b : Bool) (v : Value), RelD w' I (.er b) v → RelX w' I K (.tp [.i .i64 n, .er b]) (.tuple #[.int .i64 n, v]) := fun w' n b v hv => ⟨_, rfl, RelD.i .i64 n, ⟨hv, trivial, fun b h => by cases b <;> cases h⟩, fun b h => by cases h⟩
    cases hp : Lib.parseIntB 64 a.1.data.toList with
    | ok u =>
      refine (Any.strconv_ParseInt_10_at64_ok Tryz.laysC174 a.1 (by omega) u hp w).mono ?_
      rintro e w' ⟨rfl, hw⟩
      refine ⟨_, rfl, ?_, tup w' u false _ .er0⟩
      rcases hw with rfl | ⟨t, rfl⟩
      · exact .refl _ _
      · exact parseInt_bytes_below _ _ _
    | «syntax» =>
      obtain ⟨tp, p, hv⟩ := err_of_glob (P := P) hg (g := 2) (name := "strconv.ErrSyntax") (by kernel_rfl) rfl
      refine (Any.strconv_ParseInt_10_at64_syntax_var Tryz.laysC174 a.1 h5 hp tp p w hv).mono ?_
      rintro e w' ⟨N, rfl, _, _, hb⟩
      exact ⟨_, rfl, hb, tup w' 0 true _ (.er1 _ _)⟩
    | range =>
      obtain ⟨tp, p, hv⟩ := err_of_glob (P := P) hg (g := 3) (name := "strconv.ErrRange") (by kernel_rfl) rfl
      refine (Any.strconv_ParseInt_10_at64_range_var Tryz.laysC174 a.1 h5 hp tp p w hv).mono ?_
      rintro e w' ⟨N, rfl, _, _, hb⟩
      exact ⟨_, rfl, hb, tup w' _ true _ (.er1 _ _)⟩
  exact fun ds a q => key ds a q
end Go.Proofs.YtpoiijkodpnobaaGreatDoor
end
section
set_option linter.unusedVariables false
set_option maxRecDepth 100000
namespace Go.Proofs.YtpoiijkodpnobaaGreatDoor
open Go Go.Fw
abbrev trade_original.As : Shs := (.cons (.x .s) .nil)
abbrev trade_original.m : Back := [(false, .b)]
noncomputable abbrev trade_original.H : HK := hk P G0 E0 J0 [mti_Parse.row] noLoops 4
theorem trade_original.rows : TabOK P G0 (tabF [mti_Parse.row]) := rows_ok (ws := [mti_Parse.row]) ⟨mti_Parse.row_ok, trivial⟩
theorem trade_original.hok : HKOK P trade_original.H := hk_ok e0_ok j0_ok trade_original.rows (fun g n => noLoops_ok g n) 4
noncomputable def trade_original.f (a : ByteArray) : Option Bool := (bif (true && (decide (((4 : Int) ≤ (a.size : Int))))) then (((mti_Parse.f (ByteArray.extract a 0 4))).bind fun x1 => (bif (x1.2 == (0 : Int)) then (bif (!x1.1.2.2.1) then (bif (x1.1.1 == (1 : Int)) then (some true) else (some (x1.1.1 == (2 : Int)))) else (some false)) else (some false))) else none)
theorem trade_original.ok : ∀ a : Vals trade_original.As.tys, fnK P trade_original.H (lp []) 69 trade_original.As trade_original.m a some = trade_original.f a := fun a => by kernel_rfl
noncomputable abbrev trade_original.row : Row := fnRow 69 trade_original.As trade_original.m trade_original.f
theorem trade_original.row_ok : RowOK P G0 trade_original.row := row_told trade_original.hok (lp_of (l := []) trivial) (fun _ => rfl) trade_original.ok
noncomputable def bursarref20_number.f (a : (ByteArray × Int)) : Option (Int × Bool) := (((bursarref02_Get.f a.1)).bind fun x2 => (bif (x2.2 == (0 : Int)) then (bif (decide ((x2.1 < (9223372036854775808 : Int)))) then (some ((IntKind.wrap .i64 x2.1), (decide (((IntKind.wrap .i64 x2.1) ≥ a.2))))) else (some ((IntKind.wrap .i64 x2.1), false))) else (some ((IntKind.wrap .i64 x2.1), false))))
end Go.Proofs.YtpoiijkodpnobaaGreatDoor
end
section
set_option linter.unusedVariables false
set_option linter.unusedSimpArgs false
namespace Go.Proofs.YtpoiijkodpnobaaGreatDoor
open Go Go.Fw
theorem bT : (!false) = true ∧ (!true) = false ∧ (∀ (α : Type) (a b : α), cond true a b = a) ∧ (∀ (α : Type) (a b : α), cond false a b = b) ∧ (∀ (α β : Type) (a : α) (f : α → Option β), (some a).bind f = f a) ∧
    (∀ b : Bool, (false && b) = false) ∧ (∀ b : Bool, (b && false) = false) ∧ (∀ b : Bool, (true && b) = b) ∧ (∀ b : Bool, (b && true) = b) ∧ (∀ b : Bool, (b && b) = b) :=
  ⟨rfl, rfl, fun _ _ _ => rfl, fun _ _ _ => rfl, fun _ _ _ _ => rfl, fun _ => rfl, fun b => by cases b <;> rfl, fun _ => rfl, fun b => by cases b <;> rfl, fun b => by cases b <;> rfl⟩
def hasM (m : Msg) (n : Int) : Bool := (getF m.2 n).2
def fldM (m : Msg) (n : Int) : ByteArray := (getF m.2 n).1
def numM (m : Msg) (n : Int) : Int := ((numL 0 (fldM m n).data.toList : Nat) : Int)
theorem get_mem {l : List Fld} {n : Int} (h : (getF l n).2 = true) : ∃ i, i < l.length ∧ (l.getD i zF).1 = n ∧ (l.getD i zF).2 = (getF l n).1 := by
  unfold getF at h ⊢
  by_cases hi : l.findIdx (fun f => f.1 == n) < l.length
  · rw [decide_eq_true hi]
    refine ⟨_, hi, ?_, rfl⟩
    have := List.findIdx_getElem (w := hi)
    rw [getD_at hi]
    simpa using this
  · rw [decide_eq_false hi] at h; cases h
theorem fld_small {m : Msg} (hg : goodM m) (n : Int) : (fldM m n).size ≤ 1001 := by
  unfold fldM
  cases h : (getF m.2 n).2
  · unfold getF at h ⊢
    by_cases hi : m.2.findIdx (fun f => f.1 == n) < m.2.length
    · rw [decide_eq_true hi] at h; cases h
    · rw [decide_eq_false hi]
      show (bs []).size ≤ 1001
      decide
  · obtain ⟨i, hi, h1, h2⟩ := get_mem h
    rw [← h2]
    exact hg.2 _ (by rw [getD_at hi]; exact List.getElem_mem hi)
theorem fld_may {m : Msg} (hg : goodM m) (hok : okP m.2 = true) {n : Int} (h : hasM m n = true) {k v l : Int} (hR : bursarref16_Of.f n = some (k, v, l)) : mayF k v l (fldM m n).data.toList = true := by
  obtain ⟨i, hi, h1, h2⟩ := get_mem h
  have hz := List.all_eq_true.1 hok i (List.mem_range.2 hi)
  have hsz : (m.2.getD i zF).2.size ≤ 5000 := hg.at hi
  unfold fldM
  rw [← h2]
  obtain ⟨f, hf⟩ : ∃ f, m.2.getD i zF = f := ⟨_, rfl⟩
  have hz : ((pkE (m.2.getD i zF)).2 == 0) = true := hz
  rw [hf] at h1 hz hsz ⊢
  obtain ⟨n', s0⟩ := f
  have h1 : n' = n := h1
  subst h1
  obtain ⟨s, rfl⟩ : ∃ s : List UInt8, s0 = bs s := ⟨_, eq_bs s0⟩
  have hs : s.length ≤ 5000 := by simpa [bs_size] using hsz
  obtain ⟨k', v', l', hR', hO, hk⟩ := of_is n'
  rw [hR] at hR'
  injection hR' with hR'
  injection hR' with e1 hR'
  injection hR' with e2 e3
  subst e1 e2 e3
  have hp := pack_is hO hk hs
  have he : pkE (n', bs s) = (bif decide (k = 0) then (bs [], 7) else bif mayF k v l s then (bs (digs v s.length ++ s), 0) else (bs [], 16)) := by unfold pkE; rw [hp]; rfl
  rw [he] at hz
  show mayF k v l (bs s).data.toList = true
  rw [bs_list]
  by_cases h0 : k = 0
  · rw [decide_eq_true h0] at hz; cases hz
  · rw [decide_eq_false h0] at hz
    cases hm : mayF k v l s
    · rw [hm] at hz; cases hz
    · rfl
theorem may_digits {L : Int} {s : List UInt8} (h : mayF 1 0 L s = true) : (s.length : Int) = L ∧ digL s := by
  have h1 : (s.length : Int) ≤ L ∧ ¬ (s.length : Int) < L ∧ s.all (okC 1) = true := by
    unfold mayF at h
    rw [show decide ((1 : Int) = 0) = false from rfl, show decide ((0 : Int) = 0) = true from rfl, Bool.true_and] at h
    simp only [Bool.not_false, Bool.true_and, Bool.and_eq_true, Bool.not_eq_true', decide_eq_false_iff_not, decide_eq_true_eq] at h
    exact h
  obtain ⟨h1, h2, h3⟩ := h1
  refine ⟨by omega, fun c hc => ?_⟩
  have := List.all_eq_true.1 h3 c hc
  unfold okC okN at this
  simpa using this
theorem of4 : bursarref16_Of.f 4 = some (1, 0, 12) := by kernel_rfl
theorem of74 : bursarref16_Of.f 74 = some (1, 0, 10) := by kernel_rfl
theorem of86 : bursarref16_Of.f 86 = some (1, 0, 16) := by kernel_rfl
theorem of90 : bursarref16_Of.f 90 = some (1, 0, 42) := by kernel_rfl
theorem of7 : bursarref16_Of.f 7 = some (1, 0, 10) := by kernel_rfl
theorem of11 : bursarref16_Of.f 11 = some (1, 0, 6) := by kernel_rfl
theorem parseIB_num {c : UInt8} {r : List UInt8} {u : Nat} (hc : 48 ≤ c.toNat ∧ c.toNat ≤ 57) (hu : Lib.parseUintB 64 (c :: r) = .ok u) (h : u < 1000000000000000000) : Lib.parseIntB 64 (c :: r) = .ok ((u : Nat) : Int) := by
  have h63 : ¬ (2 : Nat) ^ (64 - 1) ≤ u := by
    have : (2 : Nat) ^ (64 - 1) = 9223372036854775808 := by decide
    omega
  have n1 : ¬ (c.toNat = 43 ∨ c.toNat = 45) := by omega
  have n2 : ¬ c.toNat = 45 := by omega
  unfold Lib.parseIntB
  show (match Lib.parseUintB 64 (if c.toNat = 43 ∨ c.toNat = 45 then r else c :: r) with
    | .«syntax» => .«syntax»
    | .range => .range
    | .ok u => if ¬ c.toNat = 45 ∧ 2 ^ (64 - 1) ≤ u then .range else if c.toNat = 45 ∧ 2 ^ (64 - 1) < u then .range else .ok (if c.toNat = 45 then -(u : Int) else u)) = Lib.NumEnd.ok ((u : Nat) : Int)
  rw [if_neg n1, hu]
  show (if ¬ c.toNat = 45 ∧ 2 ^ (64 - 1) ≤ u then Lib.NumEnd.range else if c.toNat = 45 ∧ 2 ^ (64 - 1) < u then .range else .ok (if c.toNat = 45 then -(u : Int) else u)) = _
  rw [if_neg (fun e => h63 e.2), if_neg (fun e => n2 e.1), if_neg n2]
theorem parseUB_num {l : List UInt8} (hl : 1 ≤ l.length ∧ l.length ≤ 19) (hd : digL l) : Lib.parseUintB 64 l = .ok (numL 0 l) := by
  unfold Lib.parseUintB
  rw [if_neg (by rintro rfl; simp at hl), parseM_num m64 l 0 0 hd (by simp) (by omega)]
theorem numL_18 {l : List UInt8} (hl : l.length ≤ 18) (hd : digL l) : numL 0 l < 1000000000000000000 := p18 (numL_lt l 0 0 hd (by simp)) (by omega)
theorem parseI_dig {l : List UInt8} (hl : 1 ≤ l.length ∧ l.length ≤ 18) (hd : digL l) : parseI l = (((numL 0 l : Nat) : Int), false) := by
  have hu := parseUB_num (l := l) (by omega) hd
  have h2 := numL_18 hl.2 hd
  obtain ⟨u, hn⟩ : ∃ u, numL 0 l = u := ⟨_, rfl⟩
  rw [hn] at hu h2 ⊢
  unfold parseI
  cases l with
  | nil => simp at hl
  | cons c r => rw [parseIB_num (digL_cons hd).1 hu h2]
theorem parseI_of {s : ByteArray} (hs : s.size ≤ 281474976710656) : strconv_ParseInt.f (s, ((10 : Int), (64 : Int))) = some (parseI s.data.toList) := by
  have h1 : decide (s.size ≤ 281474976710656) = true := decide_eq_true hs
  show (bif decide ((10 : Int) = 10) && decide ((64 : Int) = 64) && decide (s.size ≤ 281474976710656) then some (parseI s.data.toList) else none) = _
  rw [h1]
  rfl
theorem parseI_num {l : List UInt8} (hl : 1 ≤ l.length ∧ l.length ≤ 18) (hd : digL l) : strconv_ParseInt.f (bs l, ((10 : Int), (64 : Int))) = some (((numL 0 l : Nat) : Int), false) := by
  rw [parseI_of (by rw [bs_size]; omega), bs_list, parseI_dig hl hd]
theorem parseI_some {s : ByteArray} (hs : s.size ≤ 1001) : ∃ q, strconv_ParseInt.f (s, ((10 : Int), (64 : Int))) = some q := ⟨_, parseI_of (by omega)⟩
theorem num_below {u : Nat} (h : u < 1000000000000000000) : decide (((u : Nat) : Int) < (9223372036854775808 : Int)) = true ∧ IntKind.wrap .i64 ((u : Nat) : Int) = ((u : Nat) : Int) :=
  ⟨decide_eq_true (by omega), wrap_i64 (by omega) (by omega)⟩
theorem number_of {s : ByteArray} {u : Nat} (hq : bursarref02_Get.f s = some (((u : Nat) : Int), 0)) (h : u < 1000000000000000000) (least : Int) : bursarref20_number.f (s, least) = some (((u : Nat) : Int), decide (((u : Nat) : Int) ≥ least)) := by
  obtain ⟨h1, h2⟩ := num_below h
  unfold bursarref20_number.f
  rw [hq, Option.bind_some]
  show (bif (0 : Int) == 0 then (bif decide (((u : Nat) : Int) < (9223372036854775808 : Int)) then some (IntKind.wrap .i64 ((u : Nat) : Int), decide (IntKind.wrap .i64 ((u : Nat) : Int) ≥ least)) else some (IntKind.wrap .i64 ((u : Nat) : Int), false)) else some (IntKind.wrap .i64 ((u : Nat) : Int), false)) = _
  rw [h1, h2]
  rfl
theorem number_is {l : List UInt8} (hl : 1 ≤ l.length ∧ l.length ≤ 18) (hd : digL l) (least : Int) : bursarref20_number.f (bs l, least) = some (((numL 0 l : Nat) : Int), decide (((numL 0 l : Nat) : Int) ≥ least)) :=
  number_of (RefGet_is (by omega) hd) (numL_18 hl.2 hd) least
theorem fnum {m : Msg} (hg : goodM m) (hok : okP m.2 = true) {n L : Int} (h : hasM m n = true) (hR : bursarref16_Of.f n = some (1, 0, L)) (hL : 1 ≤ L ∧ L ≤ 18) :
    digitsB (fldM m n) = true ∧ strconv_ParseInt.f (fldM m n, ((10 : Int), (64 : Int))) = some (numM m n, false) ∧ ∀ least, bursarref20_number.f (fldM m n, least) = some (numM m n, decide (numM m n ≥ least)) := by
  obtain ⟨h1, h2⟩ := may_digits (fld_may hg hok h hR)
  unfold numM
  obtain ⟨l, hl⟩ : ∃ l, fldM m n = bs l := ⟨_, eq_bs _⟩
  rw [hl] at h1 h2 ⊢
  rw [bs_list] at h1 h2 ⊢
  exact ⟨(digitsB_list l).2 h2, parseI_num (by omega) h2, fun least => number_is (by omega) h2 least⟩
theorem numM_nn (m : Msg) (n : Int) : 0 ≤ numM m n := by unfold numM; omega
theorem fsize {m : Msg} (hg : goodM m) (hok : okP m.2 = true) {n L : Int} (h : hasM m n = true) (hR : bursarref16_Of.f n = some (1, 0, L)) : ((fldM m n).size : Int) = L :=
  (may_digits (fld_may hg hok h hR)).1
theorem get_fld {m : Msg} (hg : goodM m) (n : Int) : iso_Get.f (m, n) = some (fldM m n, hasM m n) := by
  obtain ⟨t, l⟩ := m
  have hl : l.length ≤ 130 := hg.1
  exact get_is (t := t) (l := l) (by omega) n
theorem check_pack {m : Msg} (hg : goodM m) : iso_Check.f m = some (packF m).2 := by
  unfold iso_Check.f
  rw [isoPack_is hg]; rfl
noncomputable def origB (s : ByteArray) : Bool := match whose (s.extract 0 4) with
  | some i => !(mAt i).2.2.1 && ((mAt i).1 == 1 || (mAt i).1 == 2)
  | none => false
theorem original_is {s : ByteArray} (hs : 4 ≤ (s.size : Int)) : trade_original.f s = some (origB s) := by
  unfold trade_original.f origB
  rw [decide_eq_true hs, mtiParse_is]
  cases whose (s.extract 0 4) with
  | none => rfl
  | some i =>
    simp only [Bool.and_self, cond_true, Option.bind_some, BEq.rfl]
    cases (mAt i).2.2.1 <;> cases ((mAt i).1 == 1) <;> rfl
theorem class_at : ∀ i, i < 30 → (mAt i).1 = 1 ∨ (mAt i).1 = 2 ∨ (mAt i).1 = 4 ∨ (mAt i).1 = 5 ∨ (mAt i).1 = 6 ∨ (mAt i).1 = 8 := by decide +kernel
theorem whose_lt {s : ByteArray} {i : Nat} (h : whose s = some i) : i < 30 ∧ tAt i = s := by
  have := firstI_some h
  simpa using this
theorem first_text : ∀ i, i < 30 → (mAt i).2.2.1 = false → (bif mayM ((mAt i).1, (mAt i).2.1, (mAt i).2.2.1, false) then (textM ((mAt i).1, (mAt i).2.1, (mAt i).2.2.1, false), (0 : Int)) else (bs [], 1)).1 = (tAt i).extract 0 3 ++ bs [48] := by decide +kernel
end Go.Proofs.YtpoiijkodpnobaaGreatDoor
end
