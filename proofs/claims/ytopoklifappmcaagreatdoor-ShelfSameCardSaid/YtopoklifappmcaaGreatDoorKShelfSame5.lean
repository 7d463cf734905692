/- Part 5 of what the proof of this statement stands on: Two states are the same just if their pairs are, where both may be; the code and the document say the same of any two states. -/
import Derived.Test.YtopoklifappmcaaGreatDoorKShelfSame4
section
set_option linter.unusedVariables false
set_option maxRecDepth 100000
namespace Go.Proofs.YtopoklifappmcaaGreatDoor
open Go Go.Fw
abbrev shelf_in.As : Shs := (.cons (.x (.i .i64)) (.cons (.x (.i .i64)) .nil))
abbrev shelf_in.m : Back := [(false, .b)]
noncomputable abbrev shelf_in.H : HK := hk P G0 E0 J0 [] noLoops 4
theorem shelf_in.rows : TabOK P G0 (tabF []) := rows_ok (ws := []) trivial
theorem shelf_in.hok : HKOK P shelf_in.H := hk_ok e0_ok j0_ok shelf_in.rows (fun g n => noLoops_ok g n) 4
noncomputable def shelf_in.f (a : (Int × Int)) : Option Bool := (bif (decide ((a.1 ≥ (0 : Int)))) then (some (decide ((a.1 ≤ a.2)))) else (some false))
theorem shelf_in.ok : ∀ a : Vals shelf_in.As.tys, fnK P shelf_in.H (lp []) 50 shelf_in.As shelf_in.m a some = shelf_in.f a := fun a => by kernel_rfl
noncomputable abbrev shelf_in.row : Row := fnRow 50 shelf_in.As shelf_in.m shelf_in.f
theorem shelf_in.row_ok : RowOK P G0 shelf_in.row := row_told shelf_in.hok (lp_of (l := []) trivial) (fun _ => rfl) shelf_in.ok
abbrev shelf_rising.As : Shs := (.cons (.x (.l .s)) .nil)
abbrev shelf_rising.m : Back := [(false, .b)]
noncomputable abbrev shelf_rising.H : HK := hk P G0 E0 J0 [] noLoops 4
theorem shelf_rising.rows : TabOK P G0 (tabF []) := rows_ok (ws := []) trivial
theorem shelf_rising.hok : HKOK P shelf_rising.H := hk_ok e0_ok j0_ok shelf_rising.rows (fun g n => noLoops_ok g n) 4
noncomputable abbrev shelf_rising.sh3 : SSh := ⟨[(0, (.x (.l .s))), (3, (.x (.i .i64)))], []⟩
noncomputable abbrev shelf_rising.os3 : PEnds := [(.ret, ⟨[(2, (.x .b))], []⟩), ((.exit 0), ⟨[], []⟩)]
noncomputable def shelf_rising.t3 (s : ((List ByteArray) × Int)) : Option (((List ByteArray) × Int) ⊕ (Bool ⊕ Unit)) := (bif (decide ((s.2 < ((List.length s.1) : Int)))) then (bif ((decide (((0 : Int) ≤ (IntKind.wrap .i64 (s.2 - (1 : Int)))))) && (decide (((IntKind.wrap .i64 (s.2 - (1 : Int))) < ((List.length s.1) : Int))))) then (bif ((decide (((0 : Int) ≤ s.2))) && (decide ((s.2 < ((List.length s.1) : Int))))) then (bif (!(Go.Op.bytesLess (ByteArray.toList (List.getD s.1 (Int.toNat (IntKind.wrap .i64 (s.2 - (1 : Int)))) (bs []))) (ByteArray.toList (List.getD s.1 (Int.toNat s.2) (bs []))))) then (some (.inr (.inl false))) else (some (.inl (s.1, (IntKind.wrap .i64 (s.2 + (1 : Int))))))) else none) else none) else (some (.inr (.inr ()))))
theorem shelf_rising.t3_ok : ∀ s : Vals shelf_rising.sh3.tys, turnK P shelf_rising.H (lp []) (bodyAt (codeOf P 57) 3) 0 shelf_rising.sh3 shelf_rising.os3 s some = shelf_rising.t3 s := fun s => by kernel_rfl
noncomputable def shelf_rising.l3 : ((List ByteArray) × Int) → Option (Bool ⊕ Unit) := rounds shelf_rising.t3
noncomputable def shelf_rising.f (a : (List ByteArray)) : Option Bool := (((shelf_rising.l3 (a, (1 : Int)))).bind fun x1 => (match x1 with | .inl x2 => (some x2) | .inr x2 => (some true)))
theorem shelf_rising.ok : ∀ a : Vals shelf_rising.As.tys, fnK P shelf_rising.H (lp [(3, (NodeT.summ ⟨shelf_rising.sh3, shelf_rising.os3, shelf_rising.l3⟩ 0))]) 57 shelf_rising.As shelf_rising.m a some = shelf_rising.f a := fun a => by kernel_rfl
noncomputable abbrev shelf_rising.row : Row := fnRow 57 shelf_rising.As shelf_rising.m shelf_rising.f
theorem shelf_rising.row_ok : RowOK P G0 shelf_rising.row := row_told shelf_rising.hok (lp_of (l := [(3, (NodeT.summ ⟨shelf_rising.sh3, shelf_rising.os3, shelf_rising.l3⟩ 0))]) ⟨(loop_sum shelf_rising.hok (by kernel_rfl) (by kernel_rfl) (l := []) trivial shelf_rising.sh3 shelf_rising.os3 (by kernel_rfl) shelf_rising.t3 shelf_rising.t3_ok), trivial⟩) (fun _ => rfl) shelf_rising.ok
abbrev shelf_claimKey.As : Shs := (.cons (.x T_api_Claim) .nil)
abbrev shelf_claimKey.m : Back := [(false, .s)]
noncomputable abbrev shelf_claimKey.H : HK := hk P G0 E0 J0 [] noLoops 4
theorem shelf_claimKey.rows : TabOK P G0 (tabF []) := rows_ok (ws := []) trivial
theorem shelf_claimKey.hok : HKOK P shelf_claimKey.H := hk_ok e0_ok j0_ok shelf_claimKey.rows (fun g n => noLoops_ok g n) 4
noncomputable def shelf_claimKey.f (a : (ByteArray × (ByteArray × (ByteArray × (Int × (Int × Int)))))) : Option ByteArray := (bif (Nat.ble (a.1.size + a.2.1.size) 9223372036854775807) then (some (a.1 ++ a.2.1)) else none)
theorem shelf_claimKey.ok : ∀ a : Vals shelf_claimKey.As.tys, fnK P shelf_claimKey.H (lp []) 44 shelf_claimKey.As shelf_claimKey.m a some = shelf_claimKey.f a := fun a => by kernel_rfl
noncomputable abbrev shelf_claimKey.row : Row := fnRow 44 shelf_claimKey.As shelf_claimKey.m shelf_claimKey.f
theorem shelf_claimKey.row_ok : RowOK P G0 shelf_claimKey.row := row_told shelf_claimKey.hok (lp_of (l := []) trivial) (fun _ => rfl) shelf_claimKey.ok
abbrev shelf_below.As : Shs := (.cons (.x (.l (.g (.p (.i .i64) (.p .s (.p .s (.p .s (.i .i64)))))))) (.cons (.x (.i .i64)) .nil))
abbrev shelf_below.m : Back := [(false, .b)]
noncomputable abbrev shelf_below.H : HK := hk P G0 E0 J0 [] noLoops 4
theorem shelf_below.rows : TabOK P G0 (tabF []) := rows_ok (ws := []) trivial
theorem shelf_below.hok : HKOK P shelf_below.H := hk_ok e0_ok j0_ok shelf_below.rows (fun g n => noLoops_ok g n) 4
noncomputable def shelf_below.f (a : ((List (Int × (ByteArray × (ByteArray × (ByteArray × Int))))) × Int)) : Option Bool := (bif (((List.length a.1) : Int) == (0 : Int)) then (some true) else (bif ((decide (((0 : Int) ≤ (IntKind.wrap .i64 (((List.length a.1) : Int) - (1 : Int)))))) && (decide (((IntKind.wrap .i64 (((List.length a.1) : Int) - (1 : Int))) < ((List.length a.1) : Int))))) then (some (decide (((List.getD a.1 (Int.toNat (IntKind.wrap .i64 (((List.length a.1) : Int) - (1 : Int)))) (Ty.dflt T_api_Dup)).1 ≤ a.2)))) else none))
theorem shelf_below.ok : ∀ a : Vals shelf_below.As.tys, fnK P shelf_below.H (lp []) 64 shelf_below.As shelf_below.m a some = shelf_below.f a := fun a => by kernel_rfl
noncomputable abbrev shelf_below.row : Row := fnRow 64 shelf_below.As shelf_below.m shelf_below.f
theorem shelf_below.row_ok : RowOK P G0 shelf_below.row := row_told shelf_below.hok (lp_of (l := []) trivial) (fun _ => rfl) shelf_below.ok
abbrev hold_Key.As : Shs := (.cons (.x T_api_Hold) .nil)
abbrev hold_Key.m : Back := [(false, .s)]
noncomputable abbrev hold_Key.H : HK := hk P G0 E0 J0 [hold_May.row] noLoops 4
theorem hold_Key.rows : TabOK P G0 (tabF [hold_May.row]) := rows_ok (ws := [hold_May.row]) ⟨hold_May.row_ok, trivial⟩
theorem hold_Key.hok : HKOK P hold_Key.H := hk_ok e0_ok j0_ok hold_Key.rows (fun g n => noLoops_ok g n) 4
noncomputable def hold_Key.f (a : (ByteArray × (ByteArray × (ByteArray × (Int × (Int × (Int × Bool))))))) : Option ByteArray := (((hold_May.f a)).bind fun x1 => (bif (!x1) then (some (bs [])) else (bif (Nat.ble (a.1.size + a.2.1.size) 9223372036854775807) then (some (a.1 ++ a.2.1)) else none)))
theorem hold_Key.ok : ∀ a : Vals hold_Key.As.tys, fnK P hold_Key.H (lp []) 48 hold_Key.As hold_Key.m a some = hold_Key.f a := fun a => by kernel_rfl
noncomputable abbrev hold_Key.row : Row := fnRow 48 hold_Key.As hold_Key.m hold_Key.f
theorem hold_Key.row_ok : RowOK P G0 hold_Key.row := row_told hold_Key.hok (lp_of (l := []) trivial) (fun _ => rfl) hold_Key.ok
abbrev shelf_May.As : Shs := (.cons (.x T_api_State) .nil)
abbrev shelf_May.m : Back := [(false, .b)]
noncomputable abbrev shelf_May.H : HK := hk P G0 E0 J0 [shelf_claimKey.row, hold_Key.row, shelf_in.row, shelf_rising.row, dup_May.row, shelf_below.row, trade_May.row, hold_May.row, dispute_May.row] noLoops 4
theorem shelf_May.rows : TabOK P G0 (tabF [shelf_claimKey.row, hold_Key.row, shelf_in.row, shelf_rising.row, dup_May.row, shelf_below.row, trade_May.row, hold_May.row, dispute_May.row]) := rows_ok (ws := [shelf_claimKey.row, hold_Key.row, shelf_in.row, shelf_rising.row, dup_May.row, shelf_below.row, trade_May.row, hold_May.row, dispute_May.row]) ⟨shelf_claimKey.row_ok, ⟨hold_Key.row_ok, ⟨shelf_in.row_ok, ⟨shelf_rising.row_ok, ⟨dup_May.row_ok, ⟨shelf_below.row_ok, ⟨trade_May.row_ok, ⟨hold_May.row_ok, ⟨dispute_May.row_ok, trivial⟩⟩⟩⟩⟩⟩⟩⟩⟩
theorem shelf_May.hok : HKOK P shelf_May.H := hk_ok e0_ok j0_ok shelf_May.rows (fun g n => noLoops_ok g n) 4
noncomputable abbrev shelf_May.shi0 : SSh := ⟨[(0, (.x (.l (.g (.p (.i .i64) (.p (.i .i64) (.p .s (.p .s (.p .s (.i .i64)))))))))), (1, (.fn 52 .nil)), (7, (.x (.i .i64))), (8, (.x (.i .i64)))], [.box (.cons (.x (.i .i64)) (.cons (.x (.i .i64)) (.cons (.x (.i .i64)) (.cons (.x (.l (.g (.p (.i .i64) (.p (.i .i64) (.p .s (.p .s (.p .s (.i .i64))))))))) (.cons (.x (.l (.g (.p .s (.p .s (.p .s (.p (.i .i64) (.p (.i .i64) (.p (.i .i64) .b))))))))) (.cons (.x (.l (.g (.p (.i .i64) (.p .s (.p .s (.p .s (.i .i64)))))))) (.cons (.x (.l (.g (.p (.i .i64) (.p .s (.p .s (.p .s (.i .i64)))))))) (.cons (.x (.l (.g (.p .s (.p .s (.p .s (.p (.i .i64) (.p (.i .i64) (.i .i64))))))))) .nil))))))))]⟩
noncomputable abbrev shelf_May.osi0 : PEnds := [(.ret, ⟨[(4, (.x (.i .i64)))], [.box (.cons (.x (.i .i64)) (.cons (.x (.i .i64)) (.cons (.x (.i .i64)) (.cons (.x (.l (.g (.p (.i .i64) (.p (.i .i64) (.p .s (.p .s (.p .s (.i .i64))))))))) (.cons (.x (.l (.g (.p .s (.p .s (.p .s (.p (.i .i64) (.p (.i .i64) (.p (.i .i64) .b))))))))) (.cons (.x (.l (.g (.p (.i .i64) (.p .s (.p .s (.p .s (.i .i64)))))))) (.cons (.x (.l (.g (.p (.i .i64) (.p .s (.p .s (.p .s (.i .i64)))))))) (.cons (.x (.l (.g (.p .s (.p .s (.p .s (.p (.i .i64) (.p (.i .i64) (.i .i64))))))))) .nil))))))))]⟩), ((.exit 0), ⟨[], [.box (.cons (.x (.i .i64)) (.cons (.x (.i .i64)) (.cons (.x (.i .i64)) (.cons (.x (.l (.g (.p (.i .i64) (.p (.i .i64) (.p .s (.p .s (.p .s (.i .i64))))))))) (.cons (.x (.l (.g (.p .s (.p .s (.p .s (.p (.i .i64) (.p (.i .i64) (.p (.i .i64) .b))))))))) (.cons (.x (.l (.g (.p (.i .i64) (.p .s (.p .s (.p .s (.i .i64)))))))) (.cons (.x (.l (.g (.p (.i .i64) (.p .s (.p .s (.p .s (.i .i64)))))))) (.cons (.x (.l (.g (.p .s (.p .s (.p .s (.p (.i .i64) (.p (.i .i64) (.i .i64))))))))) .nil))))))))]⟩)]
noncomputable def shelf_May.ti0 (s : ((List (Int × (Int × (ByteArray × (ByteArray × (ByteArray × Int)))))) × (Int × (Int × (Int × (Int × (Int × ((List (Int × (Int × (ByteArray × (ByteArray × (ByteArray × Int)))))) × ((List (ByteArray × (ByteArray × (ByteArray × (Int × (Int × (Int × Bool))))))) × ((List (Int × (ByteArray × (ByteArray × (ByteArray × Int))))) × ((List (Int × (ByteArray × (ByteArray × (ByteArray × Int))))) × (List (ByteArray × (ByteArray × (ByteArray × (Int × (Int × Int))))))))))))))))) : Option (((List (Int × (Int × (ByteArray × (ByteArray × (ByteArray × Int)))))) × (Int × (Int × (Int × (Int × (Int × ((List (Int × (Int × (ByteArray × (ByteArray × (ByteArray × Int)))))) × ((List (ByteArray × (ByteArray × (ByteArray × (Int × (Int × (Int × Bool))))))) × ((List (Int × (ByteArray × (ByteArray × (ByteArray × Int))))) × ((List (Int × (ByteArray × (ByteArray × (ByteArray × Int))))) × (List (ByteArray × (ByteArray × (ByteArray × (Int × (Int × Int)))))))))))))))) ⊕ ((Int × (Int × (Int × (Int × ((List (Int × (Int × (ByteArray × (ByteArray × (ByteArray × Int)))))) × ((List (ByteArray × (ByteArray × (ByteArray × (Int × (Int × (Int × Bool))))))) × ((List (Int × (ByteArray × (ByteArray × (ByteArray × Int))))) × ((List (Int × (ByteArray × (ByteArray × (ByteArray × Int))))) × (List (ByteArray × (ByteArray × (ByteArray × (Int × (Int × Int)))))))))))))) ⊕ (Int × (Int × (Int × ((List (Int × (Int × (ByteArray × (ByteArray × (ByteArray × Int)))))) × ((List (ByteArray × (ByteArray × (ByteArray × (Int × (Int × (Int × Bool))))))) × ((List (Int × (ByteArray × (ByteArray × (ByteArray × Int))))) × ((List (Int × (ByteArray × (ByteArray × (ByteArray × Int))))) × (List (ByteArray × (ByteArray × (ByteArray × (Int × (Int × Int))))))))))))))) := (bif (decide ((s.2.2.1 < s.2.1))) then (bif ((decide (((0 : Int) ≤ s.2.2.1))) && (decide ((s.2.2.1 < ((List.length s.1) : Int))))) then (((trade_May.f (List.getD s.1 (Int.toNat s.2.2.1) (Ty.dflt T_api_Post)))).bind fun x11 => (bif (!x11) then (some (.inr (.inl s.2.2))) else (some (.inl (s.1, (s.2.1, ((IntKind.wrap .i64 (s.2.2.1 + (1 : Int))), s.2.2.2))))))) else none) else (some (.inr (.inr s.2.2.2))))
theorem shelf_May.ti0_ok : ∀ s : Vals shelf_May.shi0.tys, turnK P shelf_May.H (lp []) (bodyAt (codeOf P 103) 3) 1 shelf_May.shi0 shelf_May.osi0 s some = shelf_May.ti0 s := fun s => by kernel_rfl
noncomputable def shelf_May.li0 : ((List (Int × (Int × (ByteArray × (ByteArray × (ByteArray × Int)))))) × (Int × (Int × (Int × (Int × (Int × ((List (Int × (Int × (ByteArray × (ByteArray × (ByteArray × Int)))))) × ((List (ByteArray × (ByteArray × (ByteArray × (Int × (Int × (Int × Bool))))))) × ((List (Int × (ByteArray × (ByteArray × (ByteArray × Int))))) × ((List (Int × (ByteArray × (ByteArray × (ByteArray × Int))))) × (List (ByteArray × (ByteArray × (ByteArray × (Int × (Int × Int)))))))))))))))) → Option ((Int × (Int × (Int × (Int × ((List (Int × (Int × (ByteArray × (ByteArray × (ByteArray × Int)))))) × ((List (ByteArray × (ByteArray × (ByteArray × (Int × (Int × (Int × Bool))))))) × ((List (Int × (ByteArray × (ByteArray × (ByteArray × Int))))) × ((List (Int × (ByteArray × (ByteArray × (ByteArray × Int))))) × (List (ByteArray × (ByteArray × (ByteArray × (Int × (Int × Int)))))))))))))) ⊕ (Int × (Int × (Int × ((List (Int × (Int × (ByteArray × (ByteArray × (ByteArray × Int)))))) × ((List (ByteArray × (ByteArray × (ByteArray × (Int × (Int × (Int × Bool))))))) × ((List (Int × (ByteArray × (ByteArray × (ByteArray × Int))))) × ((List (Int × (ByteArray × (ByteArray × (ByteArray × Int))))) × (List (ByteArray × (ByteArray × (ByteArray × (Int × (Int × Int)))))))))))))) := rounds shelf_May.ti0
noncomputable abbrev shelf_May.shi1 : SSh := ⟨[(0, (.x (.l (.g (.p .s (.p .s (.p .s (.p (.i .i64) (.p (.i .i64) (.p (.i .i64) .b)))))))))), (1, (.fn 55 .nil)), (7, (.x (.i .i64))), (8, (.x (.i .i64)))], [.box (.cons (.x (.i .i64)) (.cons (.x (.i .i64)) (.cons (.x (.i .i64)) (.cons (.x (.l (.g (.p (.i .i64) (.p (.i .i64) (.p .s (.p .s (.p .s (.i .i64))))))))) (.cons (.x (.l (.g (.p .s (.p .s (.p .s (.p (.i .i64) (.p (.i .i64) (.p (.i .i64) .b))))))))) (.cons (.x (.l (.g (.p (.i .i64) (.p .s (.p .s (.p .s (.i .i64)))))))) (.cons (.x (.l (.g (.p (.i .i64) (.p .s (.p .s (.p .s (.i .i64)))))))) (.cons (.x (.l (.g (.p .s (.p .s (.p .s (.p (.i .i64) (.p (.i .i64) (.i .i64))))))))) .nil))))))))]⟩
noncomputable abbrev shelf_May.L1 : ILp := [(103, 1, [(3, (NodeT.summ ⟨shelf_May.shi0, shelf_May.osi0, shelf_May.li0⟩ 1))])]
theorem shelf_May.L1ok : ILpOK P G0 shelf_May.L1 := ⟨⟨(loop_sum shelf_May.hok (by kernel_rfl) (by kernel_rfl) (l := []) trivial shelf_May.shi0 shelf_May.osi0 (by kernel_rfl) shelf_May.ti0 shelf_May.ti0_ok), trivial⟩, trivial⟩
noncomputable abbrev shelf_May.H1 : HK := hk P G0 E0 J0 [shelf_claimKey.row, hold_Key.row, shelf_in.row, shelf_rising.row, dup_May.row, shelf_below.row, trade_May.row, hold_May.row, dispute_May.row] (ilp shelf_May.L1) 4
theorem shelf_May.hok1 : HKOK P shelf_May.H1 := hk_ok e0_ok j0_ok shelf_May.rows (fun g n => ilp_ok shelf_May.L1ok g n) 4
noncomputable abbrev shelf_May.osi1 : PEnds := [(.ret, ⟨[(4, (.x (.i .i64)))], [.box (.cons (.x (.i .i64)) (.cons (.x (.i .i64)) (.cons (.x (.i .i64)) (.cons (.x (.l (.g (.p (.i .i64) (.p (.i .i64) (.p .s (.p .s (.p .s (.i .i64))))))))) (.cons (.x (.l (.g (.p .s (.p .s (.p .s (.p (.i .i64) (.p (.i .i64) (.p (.i .i64) .b))))))))) (.cons (.x (.l (.g (.p (.i .i64) (.p .s (.p .s (.p .s (.i .i64)))))))) (.cons (.x (.l (.g (.p (.i .i64) (.p .s (.p .s (.p .s (.i .i64)))))))) (.cons (.x (.l (.g (.p .s (.p .s (.p .s (.p (.i .i64) (.p (.i .i64) (.i .i64))))))))) .nil))))))))]⟩), ((.exit 0), ⟨[], [.box (.cons (.x (.i .i64)) (.cons (.x (.i .i64)) (.cons (.x (.i .i64)) (.cons (.x (.l (.g (.p (.i .i64) (.p (.i .i64) (.p .s (.p .s (.p .s (.i .i64))))))))) (.cons (.x (.l (.g (.p .s (.p .s (.p .s (.p (.i .i64) (.p (.i .i64) (.p (.i .i64) .b))))))))) (.cons (.x (.l (.g (.p (.i .i64) (.p .s (.p .s (.p .s (.i .i64)))))))) (.cons (.x (.l (.g (.p (.i .i64) (.p .s (.p .s (.p .s (.i .i64)))))))) (.cons (.x (.l (.g (.p .s (.p .s (.p .s (.p (.i .i64) (.p (.i .i64) (.i .i64))))))))) .nil))))))))]⟩)]
noncomputable def shelf_May.ti1 (s : ((List (ByteArray × (ByteArray × (ByteArray × (Int × (Int × (Int × Bool))))))) × (Int × (Int × (Int × (Int × (Int × ((List (Int × (Int × (ByteArray × (ByteArray × (ByteArray × Int)))))) × ((List (ByteArray × (ByteArray × (ByteArray × (Int × (Int × (Int × Bool))))))) × ((List (Int × (ByteArray × (ByteArray × (ByteArray × Int))))) × ((List (Int × (ByteArray × (ByteArray × (ByteArray × Int))))) × (List (ByteArray × (ByteArray × (ByteArray × (Int × (Int × Int))))))))))))))))) : Option (((List (ByteArray × (ByteArray × (ByteArray × (Int × (Int × (Int × Bool))))))) × (Int × (Int × (Int × (Int × (Int × ((List (Int × (Int × (ByteArray × (ByteArray × (ByteArray × Int)))))) × ((List (ByteArray × (ByteArray × (ByteArray × (Int × (Int × (Int × Bool))))))) × ((List (Int × (ByteArray × (ByteArray × (ByteArray × Int))))) × ((List (Int × (ByteArray × (ByteArray × (ByteArray × Int))))) × (List (ByteArray × (ByteArray × (ByteArray × (Int × (Int × Int)))))))))))))))) ⊕ ((Int × (Int × (Int × (Int × ((List (Int × (Int × (ByteArray × (ByteArray × (ByteArray × Int)))))) × ((List (ByteArray × (ByteArray × (ByteArray × (Int × (Int × (Int × Bool))))))) × ((List (Int × (ByteArray × (ByteArray × (ByteArray × Int))))) × ((List (Int × (ByteArray × (ByteArray × (ByteArray × Int))))) × (List (ByteArray × (ByteArray × (ByteArray × (Int × (Int × Int)))))))))))))) ⊕ (Int × (Int × (Int × ((List (Int × (Int × (ByteArray × (ByteArray × (ByteArray × Int)))))) × ((List (ByteArray × (ByteArray × (ByteArray × (Int × (Int × (Int × Bool))))))) × ((List (Int × (ByteArray × (ByteArray × (ByteArray × Int))))) × ((List (Int × (ByteArray × (ByteArray × (ByteArray × Int))))) × (List (ByteArray × (ByteArray × (ByteArray × (Int × (Int × Int))))))))))))))) := (bif (decide ((s.2.2.1 < s.2.1))) then (bif ((decide (((0 : Int) ≤ s.2.2.1))) && (decide ((s.2.2.1 < ((List.length s.1) : Int))))) then (((hold_May.f (List.getD s.1 (Int.toNat s.2.2.1) (Ty.dflt T_api_Hold)))).bind fun x11 => (bif (!x11) then (some (.inr (.inl s.2.2))) else (bif (decide (((List.getD s.1 (Int.toNat s.2.2.1) (Ty.dflt T_api_Hold)).2.2.2.1 > (9999999999999 : Int)))) then (some (.inr (.inl s.2.2))) else (some (.inl (s.1, (s.2.1, ((IntKind.wrap .i64 (s.2.2.1 + (1 : Int))), s.2.2.2)))))))) else none) else (some (.inr (.inr s.2.2.2))))
theorem shelf_May.ti1_ok : ∀ s : Vals shelf_May.shi1.tys, turnK P shelf_May.H1 (lp []) (bodyAt (codeOf P 107) 3) 1 shelf_May.shi1 shelf_May.osi1 s some = shelf_May.ti1 s := fun s => by kernel_rfl
noncomputable def shelf_May.li1 : ((List (ByteArray × (ByteArray × (ByteArray × (Int × (Int × (Int × Bool))))))) × (Int × (Int × (Int × (Int × (Int × ((List (Int × (Int × (ByteArray × (ByteArray × (ByteArray × Int)))))) × ((List (ByteArray × (ByteArray × (ByteArray × (Int × (Int × (Int × Bool))))))) × ((List (Int × (ByteArray × (ByteArray × (ByteArray × Int))))) × ((List (Int × (ByteArray × (ByteArray × (ByteArray × Int))))) × (List (ByteArray × (ByteArray × (ByteArray × (Int × (Int × Int)))))))))))))))) → Option ((Int × (Int × (Int × (Int × ((List (Int × (Int × (ByteArray × (ByteArray × (ByteArray × Int)))))) × ((List (ByteArray × (ByteArray × (ByteArray × (Int × (Int × (Int × Bool))))))) × ((List (Int × (ByteArray × (ByteArray × (ByteArray × Int))))) × ((List (Int × (ByteArray × (ByteArray × (ByteArray × Int))))) × (List (ByteArray × (ByteArray × (ByteArray × (Int × (Int × Int)))))))))))))) ⊕ (Int × (Int × (Int × ((List (Int × (Int × (ByteArray × (ByteArray × (ByteArray × Int)))))) × ((List (ByteArray × (ByteArray × (ByteArray × (Int × (Int × (Int × Bool))))))) × ((List (Int × (ByteArray × (ByteArray × (ByteArray × Int))))) × ((List (Int × (ByteArray × (ByteArray × (ByteArray × Int))))) × (List (ByteArray × (ByteArray × (ByteArray × (Int × (Int × Int)))))))))))))) := rounds shelf_May.ti1
noncomputable abbrev shelf_May.shi2 : SSh := ⟨[(1, (.fn 48 .nil)), (5, (.own 1 1)), (8, (.x (.l (.g (.p .s (.p .s (.p .s (.p (.i .i64) (.p (.i .i64) (.p (.i .i64) .b)))))))))), (9, (.x (.i .i64))), (10, (.x (.i .i64)))], [.box (.cons (.x (.i .i64)) (.cons (.x (.i .i64)) (.cons (.x (.i .i64)) (.cons (.x (.l (.g (.p (.i .i64) (.p (.i .i64) (.p .s (.p .s (.p .s (.i .i64))))))))) (.cons (.x (.l (.g (.p .s (.p .s (.p .s (.p (.i .i64) (.p (.i .i64) (.p (.i .i64) .b))))))))) (.cons (.x (.l (.g (.p (.i .i64) (.p .s (.p .s (.p .s (.i .i64)))))))) (.cons (.x (.l (.g (.p (.i .i64) (.p .s (.p .s (.p .s (.i .i64)))))))) (.cons (.x (.l (.g (.p .s (.p .s (.p .s (.p (.i .i64) (.p (.i .i64) (.i .i64))))))))) .nil)))))))), .arrN .s]⟩
noncomputable abbrev shelf_May.L2 : ILp := [(103, 1, [(3, (NodeT.summ ⟨shelf_May.shi0, shelf_May.osi0, shelf_May.li0⟩ 1))]), (107, 1, [(3, (NodeT.summ ⟨shelf_May.shi1, shelf_May.osi1, shelf_May.li1⟩ 1))])]
theorem shelf_May.L2ok : ILpOK P G0 shelf_May.L2 := ⟨⟨(loop_sum shelf_May.hok (by kernel_rfl) (by kernel_rfl) (l := []) trivial shelf_May.shi0 shelf_May.osi0 (by kernel_rfl) shelf_May.ti0 shelf_May.ti0_ok), trivial⟩, ⟨⟨(loop_sum shelf_May.hok1 (by kernel_rfl) (by kernel_rfl) (l := []) trivial shelf_May.shi1 shelf_May.osi1 (by kernel_rfl) shelf_May.ti1 shelf_May.ti1_ok), trivial⟩, trivial⟩⟩
noncomputable abbrev shelf_May.H2 : HK := hk P G0 E0 J0 [shelf_claimKey.row, hold_Key.row, shelf_in.row, shelf_rising.row, dup_May.row, shelf_below.row, trade_May.row, hold_May.row, dispute_May.row] (ilp shelf_May.L2) 4
theorem shelf_May.hok2 : HKOK P shelf_May.H2 := hk_ok e0_ok j0_ok shelf_May.rows (fun g n => ilp_ok shelf_May.L2ok g n) 4
noncomputable abbrev shelf_May.osi2 : PEnds := [((.exit 0), ⟨[(5, (.x (.l .s)))], [.box (.cons (.x (.i .i64)) (.cons (.x (.i .i64)) (.cons (.x (.i .i64)) (.cons (.x (.l (.g (.p (.i .i64) (.p (.i .i64) (.p .s (.p .s (.p .s (.i .i64))))))))) (.cons (.x (.l (.g (.p .s (.p .s (.p .s (.p (.i .i64) (.p (.i .i64) (.p (.i .i64) .b))))))))) (.cons (.x (.l (.g (.p (.i .i64) (.p .s (.p .s (.p .s (.i .i64)))))))) (.cons (.x (.l (.g (.p (.i .i64) (.p .s (.p .s (.p .s (.i .i64)))))))) (.cons (.x (.l (.g (.p .s (.p .s (.p .s (.p (.i .i64) (.p (.i .i64) (.i .i64))))))))) .nil))))))))]⟩)]
noncomputable def shelf_May.ti2 (s : ((List (ByteArray × (ByteArray × (ByteArray × (Int × (Int × (Int × Bool))))))) × (Int × (Int × (Int × (Int × (Int × ((List (Int × (Int × (ByteArray × (ByteArray × (ByteArray × Int)))))) × ((List (ByteArray × (ByteArray × (ByteArray × (Int × (Int × (Int × Bool))))))) × ((List (Int × (ByteArray × (ByteArray × (ByteArray × Int))))) × ((List (Int × (ByteArray × (ByteArray × (ByteArray × Int))))) × ((List (ByteArray × (ByteArray × (ByteArray × (Int × (Int × Int)))))) × (List ByteArray))))))))))))) : Option (((List (ByteArray × (ByteArray × (ByteArray × (Int × (Int × (Int × Bool))))))) × (Int × (Int × (Int × (Int × (Int × ((List (Int × (Int × (ByteArray × (ByteArray × (ByteArray × Int)))))) × ((List (ByteArray × (ByteArray × (ByteArray × (Int × (Int × (Int × Bool))))))) × ((List (Int × (ByteArray × (ByteArray × (ByteArray × Int))))) × ((List (Int × (ByteArray × (ByteArray × (ByteArray × Int))))) × ((List (ByteArray × (ByteArray × (ByteArray × (Int × (Int × Int)))))) × (List ByteArray)))))))))))) ⊕ (((List ByteArray) × (Int × (Int × (Int × ((List (Int × (Int × (ByteArray × (ByteArray × (ByteArray × Int)))))) × ((List (ByteArray × (ByteArray × (ByteArray × (Int × (Int × (Int × Bool))))))) × ((List (Int × (ByteArray × (ByteArray × (ByteArray × Int))))) × ((List (Int × (ByteArray × (ByteArray × (ByteArray × Int))))) × (List (ByteArray × (ByteArray × (ByteArray × (Int × (Int × Int)))))))))))))))) := (bif (decide ((s.2.2.1 < s.2.1))) then (bif ((decide (((0 : Int) ≤ s.2.2.1))) && (decide ((s.2.2.1 < ((List.length s.1) : Int))))) then (((hold_Key.f (List.getD s.1 (Int.toNat s.2.2.1) (Ty.dflt T_api_Hold)))).bind fun x13 => (bif ((true && (Nat.ble (((List.length s.2.2.2.2.2.2.2.2.2.2.2) + (List.length (x13 :: []))) * 16) 140737488355328)) && (Nat.ble ((List.length s.2.2.2.2.2.2.2.2.2.2.2) + (List.length (x13 :: []))) 140737488355328)) then (some (.inl (s.1, (s.2.1, ((IntKind.wrap .i64 (s.2.2.1 + (1 : Int))), (s.2.2.2.1, (s.2.2.2.2.1, (s.2.2.2.2.2.1, (s.2.2.2.2.2.2.1, (s.2.2.2.2.2.2.2.1, (s.2.2.2.2.2.2.2.2.1, (s.2.2.2.2.2.2.2.2.2.1, (s.2.2.2.2.2.2.2.2.2.2.1, (s.2.2.2.2.2.2.2.2.2.2.2 ++ (x13 :: []))))))))))))))) else none)) else none) else (some (.inr (s.2.2.2.2.2.2.2.2.2.2.2, (s.2.2.2.1, (s.2.2.2.2.1, (s.2.2.2.2.2.1, (s.2.2.2.2.2.2.1, (s.2.2.2.2.2.2.2.1, (s.2.2.2.2.2.2.2.2.1, (s.2.2.2.2.2.2.2.2.2.1, s.2.2.2.2.2.2.2.2.2.2.1)))))))))))
theorem shelf_May.ti2_ok : ∀ s : Vals shelf_May.shi2.tys, turnK P shelf_May.H2 (lp []) (bodyAt (codeOf P 58) 4) 1 shelf_May.shi2 shelf_May.osi2 s some = shelf_May.ti2 s := by rintro ⟨s0, s1, s2, s3, s4, s5, s6, s7, s8, s9, s10, s11⟩; cases s11 <;> kernel_rfl
noncomputable def shelf_May.li2 : ((List (ByteArray × (ByteArray × (ByteArray × (Int × (Int × (Int × Bool))))))) × (Int × (Int × (Int × (Int × (Int × ((List (Int × (Int × (ByteArray × (ByteArray × (ByteArray × Int)))))) × ((List (ByteArray × (ByteArray × (ByteArray × (Int × (Int × (Int × Bool))))))) × ((List (Int × (ByteArray × (ByteArray × (ByteArray × Int))))) × ((List (Int × (ByteArray × (ByteArray × (ByteArray × Int))))) × ((List (ByteArray × (ByteArray × (ByteArray × (Int × (Int × Int)))))) × (List ByteArray)))))))))))) → Option (((List ByteArray) × (Int × (Int × (Int × ((List (Int × (Int × (ByteArray × (ByteArray × (ByteArray × Int)))))) × ((List (ByteArray × (ByteArray × (ByteArray × (Int × (Int × (Int × Bool))))))) × ((List (Int × (ByteArray × (ByteArray × (ByteArray × Int))))) × ((List (Int × (ByteArray × (ByteArray × (ByteArray × Int))))) × (List (ByteArray × (ByteArray × (ByteArray × (Int × (Int × Int))))))))))))))) := rounds shelf_May.ti2
noncomputable abbrev shelf_May.shi3 : SSh := ⟨[(0, (.x (.l (.g (.p .s (.p .s (.p .s (.p (.i .i64) (.p (.i .i64) (.i .i64)))))))))), (1, (.fn 60 .nil)), (7, (.x (.i .i64))), (8, (.x (.i .i64)))], [.box (.cons (.x (.i .i64)) (.cons (.x (.i .i64)) (.cons (.x (.i .i64)) (.cons (.x (.l (.g (.p (.i .i64) (.p (.i .i64) (.p .s (.p .s (.p .s (.i .i64))))))))) (.cons (.x (.l (.g (.p .s (.p .s (.p .s (.p (.i .i64) (.p (.i .i64) (.p (.i .i64) .b))))))))) (.cons (.x (.l (.g (.p (.i .i64) (.p .s (.p .s (.p .s (.i .i64)))))))) (.cons (.x (.l (.g (.p (.i .i64) (.p .s (.p .s (.p .s (.i .i64)))))))) (.cons (.x (.l (.g (.p .s (.p .s (.p .s (.p (.i .i64) (.p (.i .i64) (.i .i64))))))))) .nil))))))))]⟩
noncomputable abbrev shelf_May.L3 : ILp := [(103, 1, [(3, (NodeT.summ ⟨shelf_May.shi0, shelf_May.osi0, shelf_May.li0⟩ 1))]), (107, 1, [(3, (NodeT.summ ⟨shelf_May.shi1, shelf_May.osi1, shelf_May.li1⟩ 1))]), (58, 1, [(4, (NodeT.summ ⟨shelf_May.shi2, shelf_May.osi2, shelf_May.li2⟩ 1))])]
theorem shelf_May.L3ok : ILpOK P G0 shelf_May.L3 := ⟨⟨(loop_sum shelf_May.hok (by kernel_rfl) (by kernel_rfl) (l := []) trivial shelf_May.shi0 shelf_May.osi0 (by kernel_rfl) shelf_May.ti0 shelf_May.ti0_ok), trivial⟩, ⟨⟨(loop_sum shelf_May.hok1 (by kernel_rfl) (by kernel_rfl) (l := []) trivial shelf_May.shi1 shelf_May.osi1 (by kernel_rfl) shelf_May.ti1 shelf_May.ti1_ok), trivial⟩, ⟨⟨(loop_sum shelf_May.hok2 (by kernel_rfl) (by kernel_rfl) (l := []) trivial shelf_May.shi2 shelf_May.osi2 (by kernel_rfl) shelf_May.ti2 shelf_May.ti2_ok), trivial⟩, trivial⟩⟩⟩
noncomputable abbrev shelf_May.H3 : HK := hk P G0 E0 J0 [shelf_claimKey.row, hold_Key.row, shelf_in.row, shelf_rising.row, dup_May.row, shelf_below.row, trade_May.row, hold_May.row, dispute_May.row] (ilp shelf_May.L3) 4
theorem shelf_May.hok3 : HKOK P shelf_May.H3 := hk_ok e0_ok j0_ok shelf_May.rows (fun g n => ilp_ok shelf_May.L3ok g n) 4
noncomputable abbrev shelf_May.osi3 : PEnds := [(.ret, ⟨[(4, (.x (.i .i64)))], [.box (.cons (.x (.i .i64)) (.cons (.x (.i .i64)) (.cons (.x (.i .i64)) (.cons (.x (.l (.g (.p (.i .i64) (.p (.i .i64) (.p .s (.p .s (.p .s (.i .i64))))))))) (.cons (.x (.l (.g (.p .s (.p .s (.p .s (.p (.i .i64) (.p (.i .i64) (.p (.i .i64) .b))))))))) (.cons (.x (.l (.g (.p (.i .i64) (.p .s (.p .s (.p .s (.i .i64)))))))) (.cons (.x (.l (.g (.p (.i .i64) (.p .s (.p .s (.p .s (.i .i64)))))))) (.cons (.x (.l (.g (.p .s (.p .s (.p .s (.p (.i .i64) (.p (.i .i64) (.i .i64))))))))) .nil))))))))]⟩), ((.exit 0), ⟨[], [.box (.cons (.x (.i .i64)) (.cons (.x (.i .i64)) (.cons (.x (.i .i64)) (.cons (.x (.l (.g (.p (.i .i64) (.p (.i .i64) (.p .s (.p .s (.p .s (.i .i64))))))))) (.cons (.x (.l (.g (.p .s (.p .s (.p .s (.p (.i .i64) (.p (.i .i64) (.p (.i .i64) .b))))))))) (.cons (.x (.l (.g (.p (.i .i64) (.p .s (.p .s (.p .s (.i .i64)))))))) (.cons (.x (.l (.g (.p (.i .i64) (.p .s (.p .s (.p .s (.i .i64)))))))) (.cons (.x (.l (.g (.p .s (.p .s (.p .s (.p (.i .i64) (.p (.i .i64) (.i .i64))))))))) .nil))))))))]⟩)]
noncomputable def shelf_May.ti3 (s : ((List (ByteArray × (ByteArray × (ByteArray × (Int × (Int × Int)))))) × (Int × (Int × (Int × (Int × (Int × ((List (Int × (Int × (ByteArray × (ByteArray × (ByteArray × Int)))))) × ((List (ByteArray × (ByteArray × (ByteArray × (Int × (Int × (Int × Bool))))))) × ((List (Int × (ByteArray × (ByteArray × (ByteArray × Int))))) × ((List (Int × (ByteArray × (ByteArray × (ByteArray × Int))))) × (List (ByteArray × (ByteArray × (ByteArray × (Int × (Int × Int))))))))))))))))) : Option (((List (ByteArray × (ByteArray × (ByteArray × (Int × (Int × Int)))))) × (Int × (Int × (Int × (Int × (Int × ((List (Int × (Int × (ByteArray × (ByteArray × (ByteArray × Int)))))) × ((List (ByteArray × (ByteArray × (ByteArray × (Int × (Int × (Int × Bool))))))) × ((List (Int × (ByteArray × (ByteArray × (ByteArray × Int))))) × ((List (Int × (ByteArray × (ByteArray × (ByteArray × Int))))) × (List (ByteArray × (ByteArray × (ByteArray × (Int × (Int × Int)))))))))))))))) ⊕ ((Int × (Int × (Int × (Int × ((List (Int × (Int × (ByteArray × (ByteArray × (ByteArray × Int)))))) × ((List (ByteArray × (ByteArray × (ByteArray × (Int × (Int × (Int × Bool))))))) × ((List (Int × (ByteArray × (ByteArray × (ByteArray × Int))))) × ((List (Int × (ByteArray × (ByteArray × (ByteArray × Int))))) × (List (ByteArray × (ByteArray × (ByteArray × (Int × (Int × Int)))))))))))))) ⊕ (Int × (Int × (Int × ((List (Int × (Int × (ByteArray × (ByteArray × (ByteArray × Int)))))) × ((List (ByteArray × (ByteArray × (ByteArray × (Int × (Int × (Int × Bool))))))) × ((List (Int × (ByteArray × (ByteArray × (ByteArray × Int))))) × ((List (Int × (ByteArray × (ByteArray × (ByteArray × Int))))) × (List (ByteArray × (ByteArray × (ByteArray × (Int × (Int × Int))))))))))))))) := (bif (decide ((s.2.2.1 < s.2.1))) then (bif ((decide (((0 : Int) ≤ s.2.2.1))) && (decide ((s.2.2.1 < ((List.length s.1) : Int))))) then (((dispute_May.f (List.getD s.1 (Int.toNat s.2.2.1) (Ty.dflt T_api_Claim)))).bind fun x11 => (bif (!x11) then (some (.inr (.inl s.2.2))) else (some (.inl (s.1, (s.2.1, ((IntKind.wrap .i64 (s.2.2.1 + (1 : Int))), s.2.2.2))))))) else none) else (some (.inr (.inr s.2.2.2))))
theorem shelf_May.ti3_ok : ∀ s : Vals shelf_May.shi3.tys, turnK P shelf_May.H3 (lp []) (bodyAt (codeOf P 110) 3) 1 shelf_May.shi3 shelf_May.osi3 s some = shelf_May.ti3 s := fun s => by kernel_rfl
noncomputable def shelf_May.li3 : ((List (ByteArray × (ByteArray × (ByteArray × (Int × (Int × Int)))))) × (Int × (Int × (Int × (Int × (Int × ((List (Int × (Int × (ByteArray × (ByteArray × (ByteArray × Int)))))) × ((List (ByteArray × (ByteArray × (ByteArray × (Int × (Int × (Int × Bool))))))) × ((List (Int × (ByteArray × (ByteArray × (ByteArray × Int))))) × ((List (Int × (ByteArray × (ByteArray × (ByteArray × Int))))) × (List (ByteArray × (ByteArray × (ByteArray × (Int × (Int × Int)))))))))))))))) → Option ((Int × (Int × (Int × (Int × ((List (Int × (Int × (ByteArray × (ByteArray × (ByteArray × Int)))))) × ((List (ByteArray × (ByteArray × (ByteArray × (Int × (Int × (Int × Bool))))))) × ((List (Int × (ByteArray × (ByteArray × (ByteArray × Int))))) × ((List (Int × (ByteArray × (ByteArray × (ByteArray × Int))))) × (List (ByteArray × (ByteArray × (ByteArray × (Int × (Int × Int)))))))))))))) ⊕ (Int × (Int × (Int × ((List (Int × (Int × (ByteArray × (ByteArray × (ByteArray × Int)))))) × ((List (ByteArray × (ByteArray × (ByteArray × (Int × (Int × (Int × Bool))))))) × ((List (Int × (ByteArray × (ByteArray × (ByteArray × Int))))) × ((List (Int × (ByteArray × (ByteArray × (ByteArray × Int))))) × (List (ByteArray × (ByteArray × (ByteArray × (Int × (Int × Int)))))))))))))) := rounds shelf_May.ti3
noncomputable abbrev shelf_May.shi4 : SSh := ⟨[(1, (.fn 44 .nil)), (5, (.own 1 1)), (8, (.x (.l (.g (.p .s (.p .s (.p .s (.p (.i .i64) (.p (.i .i64) (.i .i64)))))))))), (9, (.x (.i .i64))), (10, (.x (.i .i64)))], [.box (.cons (.x (.i .i64)) (.cons (.x (.i .i64)) (.cons (.x (.i .i64)) (.cons (.x (.l (.g (.p (.i .i64) (.p (.i .i64) (.p .s (.p .s (.p .s (.i .i64))))))))) (.cons (.x (.l (.g (.p .s (.p .s (.p .s (.p (.i .i64) (.p (.i .i64) (.p (.i .i64) .b))))))))) (.cons (.x (.l (.g (.p (.i .i64) (.p .s (.p .s (.p .s (.i .i64)))))))) (.cons (.x (.l (.g (.p (.i .i64) (.p .s (.p .s (.p .s (.i .i64)))))))) (.cons (.x (.l (.g (.p .s (.p .s (.p .s (.p (.i .i64) (.p (.i .i64) (.i .i64))))))))) .nil)))))))), .arrN .s]⟩
noncomputable abbrev shelf_May.L4 : ILp := [(103, 1, [(3, (NodeT.summ ⟨shelf_May.shi0, shelf_May.osi0, shelf_May.li0⟩ 1))]), (107, 1, [(3, (NodeT.summ ⟨shelf_May.shi1, shelf_May.osi1, shelf_May.li1⟩ 1))]), (58, 1, [(4, (NodeT.summ ⟨shelf_May.shi2, shelf_May.osi2, shelf_May.li2⟩ 1))]), (110, 1, [(3, (NodeT.summ ⟨shelf_May.shi3, shelf_May.osi3, shelf_May.li3⟩ 1))])]
theorem shelf_May.L4ok : ILpOK P G0 shelf_May.L4 := ⟨⟨(loop_sum shelf_May.hok (by kernel_rfl) (by kernel_rfl) (l := []) trivial shelf_May.shi0 shelf_May.osi0 (by kernel_rfl) shelf_May.ti0 shelf_May.ti0_ok), trivial⟩, ⟨⟨(loop_sum shelf_May.hok1 (by kernel_rfl) (by kernel_rfl) (l := []) trivial shelf_May.shi1 shelf_May.osi1 (by kernel_rfl) shelf_May.ti1 shelf_May.ti1_ok), trivial⟩, ⟨⟨(loop_sum shelf_May.hok2 (by kernel_rfl) (by kernel_rfl) (l := []) trivial shelf_May.shi2 shelf_May.osi2 (by kernel_rfl) shelf_May.ti2 shelf_May.ti2_ok), trivial⟩, ⟨⟨(loop_sum shelf_May.hok3 (by kernel_rfl) (by kernel_rfl) (l := []) trivial shelf_May.shi3 shelf_May.osi3 (by kernel_rfl) shelf_May.ti3 shelf_May.ti3_ok), trivial⟩, trivial⟩⟩⟩⟩
noncomputable abbrev shelf_May.H4 : HK := hk P G0 E0 J0 [shelf_claimKey.row, hold_Key.row, shelf_in.row, shelf_rising.row, dup_May.row, shelf_below.row, trade_May.row, hold_May.row, dispute_May.row] (ilp shelf_May.L4) 4
theorem shelf_May.hok4 : HKOK P shelf_May.H4 := hk_ok e0_ok j0_ok shelf_May.rows (fun g n => ilp_ok shelf_May.L4ok g n) 4
noncomputable abbrev shelf_May.osi4 : PEnds := [((.exit 0), ⟨[(5, (.x (.l .s)))], [.box (.cons (.x (.i .i64)) (.cons (.x (.i .i64)) (.cons (.x (.i .i64)) (.cons (.x (.l (.g (.p (.i .i64) (.p (.i .i64) (.p .s (.p .s (.p .s (.i .i64))))))))) (.cons (.x (.l (.g (.p .s (.p .s (.p .s (.p (.i .i64) (.p (.i .i64) (.p (.i .i64) .b))))))))) (.cons (.x (.l (.g (.p (.i .i64) (.p .s (.p .s (.p .s (.i .i64)))))))) (.cons (.x (.l (.g (.p (.i .i64) (.p .s (.p .s (.p .s (.i .i64)))))))) (.cons (.x (.l (.g (.p .s (.p .s (.p .s (.p (.i .i64) (.p (.i .i64) (.i .i64))))))))) .nil))))))))]⟩)]
noncomputable def shelf_May.ti4 (s : ((List (ByteArray × (ByteArray × (ByteArray × (Int × (Int × Int)))))) × (Int × (Int × (Int × (Int × (Int × ((List (Int × (Int × (ByteArray × (ByteArray × (ByteArray × Int)))))) × ((List (ByteArray × (ByteArray × (ByteArray × (Int × (Int × (Int × Bool))))))) × ((List (Int × (ByteArray × (ByteArray × (ByteArray × Int))))) × ((List (Int × (ByteArray × (ByteArray × (ByteArray × Int))))) × ((List (ByteArray × (ByteArray × (ByteArray × (Int × (Int × Int)))))) × (List ByteArray))))))))))))) : Option (((List (ByteArray × (ByteArray × (ByteArray × (Int × (Int × Int)))))) × (Int × (Int × (Int × (Int × (Int × ((List (Int × (Int × (ByteArray × (ByteArray × (ByteArray × Int)))))) × ((List (ByteArray × (ByteArray × (ByteArray × (Int × (Int × (Int × Bool))))))) × ((List (Int × (ByteArray × (ByteArray × (ByteArray × Int))))) × ((List (Int × (ByteArray × (ByteArray × (ByteArray × Int))))) × ((List (ByteArray × (ByteArray × (ByteArray × (Int × (Int × Int)))))) × (List ByteArray)))))))))))) ⊕ (((List ByteArray) × (Int × (Int × (Int × ((List (Int × (Int × (ByteArray × (ByteArray × (ByteArray × Int)))))) × ((List (ByteArray × (ByteArray × (ByteArray × (Int × (Int × (Int × Bool))))))) × ((List (Int × (ByteArray × (ByteArray × (ByteArray × Int))))) × ((List (Int × (ByteArray × (ByteArray × (ByteArray × Int))))) × (List (ByteArray × (ByteArray × (ByteArray × (Int × (Int × Int)))))))))))))))) := (bif (decide ((s.2.2.1 < s.2.1))) then (bif ((decide (((0 : Int) ≤ s.2.2.1))) && (decide ((s.2.2.1 < ((List.length s.1) : Int))))) then (((shelf_claimKey.f (List.getD s.1 (Int.toNat s.2.2.1) (Ty.dflt T_api_Claim)))).bind fun x13 => (bif ((true && (Nat.ble (((List.length s.2.2.2.2.2.2.2.2.2.2.2) + (List.length (x13 :: []))) * 16) 140737488355328)) && (Nat.ble ((List.length s.2.2.2.2.2.2.2.2.2.2.2) + (List.length (x13 :: []))) 140737488355328)) then (some (.inl (s.1, (s.2.1, ((IntKind.wrap .i64 (s.2.2.1 + (1 : Int))), (s.2.2.2.1, (s.2.2.2.2.1, (s.2.2.2.2.2.1, (s.2.2.2.2.2.2.1, (s.2.2.2.2.2.2.2.1, (s.2.2.2.2.2.2.2.2.1, (s.2.2.2.2.2.2.2.2.2.1, (s.2.2.2.2.2.2.2.2.2.2.1, (s.2.2.2.2.2.2.2.2.2.2.2 ++ (x13 :: []))))))))))))))) else none)) else none) else (some (.inr (s.2.2.2.2.2.2.2.2.2.2.2, (s.2.2.2.1, (s.2.2.2.2.1, (s.2.2.2.2.2.1, (s.2.2.2.2.2.2.1, (s.2.2.2.2.2.2.2.1, (s.2.2.2.2.2.2.2.2.1, (s.2.2.2.2.2.2.2.2.2.1, s.2.2.2.2.2.2.2.2.2.2.1)))))))))))
theorem shelf_May.ti4_ok : ∀ s : Vals shelf_May.shi4.tys, turnK P shelf_May.H4 (lp []) (bodyAt (codeOf P 62) 4) 1 shelf_May.shi4 shelf_May.osi4 s some = shelf_May.ti4 s := by rintro ⟨s0, s1, s2, s3, s4, s5, s6, s7, s8, s9, s10, s11⟩; cases s11 <;> kernel_rfl
noncomputable def shelf_May.li4 : ((List (ByteArray × (ByteArray × (ByteArray × (Int × (Int × Int)))))) × (Int × (Int × (Int × (Int × (Int × ((List (Int × (Int × (ByteArray × (ByteArray × (ByteArray × Int)))))) × ((List (ByteArray × (ByteArray × (ByteArray × (Int × (Int × (Int × Bool))))))) × ((List (Int × (ByteArray × (ByteArray × (ByteArray × Int))))) × ((List (Int × (ByteArray × (ByteArray × (ByteArray × Int))))) × ((List (ByteArray × (ByteArray × (ByteArray × (Int × (Int × Int)))))) × (List ByteArray)))))))))))) → Option (((List ByteArray) × (Int × (Int × (Int × ((List (Int × (Int × (ByteArray × (ByteArray × (ByteArray × Int)))))) × ((List (ByteArray × (ByteArray × (ByteArray × (Int × (Int × (Int × Bool))))))) × ((List (Int × (ByteArray × (ByteArray × (ByteArray × Int))))) × ((List (Int × (ByteArray × (ByteArray × (ByteArray × Int))))) × (List (ByteArray × (ByteArray × (ByteArray × (Int × (Int × Int))))))))))))))) := rounds shelf_May.ti4
noncomputable abbrev shelf_May.L5 : ILp := [(103, 1, [(3, (NodeT.summ ⟨shelf_May.shi0, shelf_May.osi0, shelf_May.li0⟩ 1))]), (107, 1, [(3, (NodeT.summ ⟨shelf_May.shi1, shelf_May.osi1, shelf_May.li1⟩ 1))]), (58, 1, [(4, (NodeT.summ ⟨shelf_May.shi2, shelf_May.osi2, shelf_May.li2⟩ 1))]), (110, 1, [(3, (NodeT.summ ⟨shelf_May.shi3, shelf_May.osi3, shelf_May.li3⟩ 1))]), (62, 1, [(4, (NodeT.summ ⟨shelf_May.shi4, shelf_May.osi4, shelf_May.li4⟩ 1))])]
theorem shelf_May.L5ok : ILpOK P G0 shelf_May.L5 := ⟨⟨(loop_sum shelf_May.hok (by kernel_rfl) (by kernel_rfl) (l := []) trivial shelf_May.shi0 shelf_May.osi0 (by kernel_rfl) shelf_May.ti0 shelf_May.ti0_ok), trivial⟩, ⟨⟨(loop_sum shelf_May.hok1 (by kernel_rfl) (by kernel_rfl) (l := []) trivial shelf_May.shi1 shelf_May.osi1 (by kernel_rfl) shelf_May.ti1 shelf_May.ti1_ok), trivial⟩, ⟨⟨(loop_sum shelf_May.hok2 (by kernel_rfl) (by kernel_rfl) (l := []) trivial shelf_May.shi2 shelf_May.osi2 (by kernel_rfl) shelf_May.ti2 shelf_May.ti2_ok), trivial⟩, ⟨⟨(loop_sum shelf_May.hok3 (by kernel_rfl) (by kernel_rfl) (l := []) trivial shelf_May.shi3 shelf_May.osi3 (by kernel_rfl) shelf_May.ti3 shelf_May.ti3_ok), trivial⟩, ⟨⟨(loop_sum shelf_May.hok4 (by kernel_rfl) (by kernel_rfl) (l := []) trivial shelf_May.shi4 shelf_May.osi4 (by kernel_rfl) shelf_May.ti4 shelf_May.ti4_ok), trivial⟩, trivial⟩⟩⟩⟩⟩
noncomputable abbrev shelf_May.H5 : HK := hk P G0 E0 J0 [shelf_claimKey.row, hold_Key.row, shelf_in.row, shelf_rising.row, dup_May.row, shelf_below.row, trade_May.row, hold_May.row, dispute_May.row] (ilp shelf_May.L5) 4
theorem shelf_May.hok5 : HKOK P shelf_May.H5 := hk_ok e0_ok j0_ok shelf_May.rows (fun g n => ilp_ok shelf_May.L5ok g n) 4
noncomputable def shelf_May.f (a : (Int × (Int × (Int × ((List (Int × (Int × (ByteArray × (ByteArray × (ByteArray × Int)))))) × ((List (ByteArray × (ByteArray × (ByteArray × (Int × (Int × (Int × Bool))))))) × ((List (Int × (ByteArray × (ByteArray × (ByteArray × Int))))) × ((List (Int × (ByteArray × (ByteArray × (ByteArray × Int))))) × (List (ByteArray × (ByteArray × (ByteArray × (Int × (Int × Int)))))))))))))) : Option Bool := (((shelf_in.f (a.1, (2147483647 : Int)))).bind fun x1 => (bif (!x1) then (some false) else (((shelf_in.f (a.2.1, (999999 : Int)))).bind fun x2 => (bif (!x2) then (some false) else (((shelf_in.f (a.2.2.1, (2147483647 : Int)))).bind fun x3 => (bif (!x3) then (some false) else (bif (decide ((((List.length a.2.2.2.1) : Int) > (400 : Int)))) then (some false) else (bif (decide ((((List.length a.2.2.2.2.1) : Int) > (150 : Int)))) then (some false) else (bif (decide ((((List.length a.2.2.2.2.2.2.2) : Int) > (150 : Int)))) then (some false) else (((shelf_May.li0 (a.2.2.2.1, (((List.length a.2.2.2.1) : Int), ((0 : Int), a))))).bind fun x4 => (match x4 with | .inl x5 => (bif (decide ((x5.1 ≥ (0 : Int)))) then (some false) else (((shelf_May.li1 (x5.2.2.2.2.2.1, (((List.length x5.2.2.2.2.2.1) : Int), ((0 : Int), x5.2))))).bind fun x6 => (match x6 with | .inl x7 => (bif (decide ((x7.1 ≥ (0 : Int)))) then (some false) else (((shelf_May.li2 (x7.2.2.2.2.2.1, (((List.length x7.2.2.2.2.2.1) : Int), ((0 : Int), (x7.2.1, (x7.2.2.1, (x7.2.2.2.1, (x7.2.2.2.2.1, (x7.2.2.2.2.2.1, (x7.2.2.2.2.2.2.1, (x7.2.2.2.2.2.2.2.1, (x7.2.2.2.2.2.2.2.2, []))))))))))))).bind fun x8 => (((shelf_rising.f x8.1)).bind fun x9 => (bif (!x9) then (some false) else (((shelf_May.li3 (x8.2.2.2.2.2.2.2.2, (((List.length x8.2.2.2.2.2.2.2.2) : Int), ((0 : Int), x8.2))))).bind fun x10 => (match x10 with | .inl x11 => (bif (decide ((x11.1 ≥ (0 : Int)))) then (some false) else (((shelf_May.li4 (x11.2.2.2.2.2.2.2.2, (((List.length x11.2.2.2.2.2.2.2.2) : Int), ((0 : Int), (x11.2.1, (x11.2.2.1, (x11.2.2.2.1, (x11.2.2.2.2.1, (x11.2.2.2.2.2.1, (x11.2.2.2.2.2.2.1, (x11.2.2.2.2.2.2.2.1, (x11.2.2.2.2.2.2.2.2, []))))))))))))).bind fun x12 => (((shelf_rising.f x12.1)).bind fun x13 => (bif (!x13) then (some false) else (((dup_May.f x12.2.2.2.2.2.2.1)).bind fun x14 => (bif x14 then (((dup_May.f x12.2.2.2.2.2.2.2.1)).bind fun x15 => (bif x15 then (((shelf_below.f (x12.2.2.2.2.2.2.1, x12.2.2.2.1))).bind fun x16 => (bif x16 then (((shelf_below.f (x12.2.2.2.2.2.2.2.1, x12.2.2.2.1))).bind fun x17 => (some x17)) else (some false))) else (some false))) else (some false))))))) | .inr x11 => (((shelf_May.li4 (x11.2.2.2.2.2.2.2, (((List.length x11.2.2.2.2.2.2.2) : Int), ((0 : Int), (x11.1, (x11.2.1, (x11.2.2.1, (x11.2.2.2.1, (x11.2.2.2.2.1, (x11.2.2.2.2.2.1, (x11.2.2.2.2.2.2.1, (x11.2.2.2.2.2.2.2, []))))))))))))).bind fun x12 => (((shelf_rising.f x12.1)).bind fun x13 => (bif (!x13) then (some false) else (((dup_May.f x12.2.2.2.2.2.2.1)).bind fun x14 => (bif x14 then (((dup_May.f x12.2.2.2.2.2.2.2.1)).bind fun x15 => (bif x15 then (((shelf_below.f (x12.2.2.2.2.2.2.1, x12.2.2.2.1))).bind fun x16 => (bif x16 then (((shelf_below.f (x12.2.2.2.2.2.2.2.1, x12.2.2.2.1))).bind fun x17 => (some x17)) else (some false))) else (some false))) else (some false)))))))))))) | .inr x7 => (((shelf_May.li2 (x7.2.2.2.2.1, (((List.length x7.2.2.2.2.1) : Int), ((0 : Int), (x7.1, (x7.2.1, (x7.2.2.1, (x7.2.2.2.1, (x7.2.2.2.2.1, (x7.2.2.2.2.2.1, (x7.2.2.2.2.2.2.1, (x7.2.2.2.2.2.2.2, []))))))))))))).bind fun x8 => (((shelf_rising.f x8.1)).bind fun x9 => (bif (!x9) then (some false) else (((shelf_May.li3 (x8.2.2.2.2.2.2.2.2, (((List.length x8.2.2.2.2.2.2.2.2) : Int), ((0 : Int), x8.2))))).bind fun x10 => (match x10 with | .inl x11 => (bif (decide ((x11.1 ≥ (0 : Int)))) then (some false) else (((shelf_May.li4 (x11.2.2.2.2.2.2.2.2, (((List.length x11.2.2.2.2.2.2.2.2) : Int), ((0 : Int), (x11.2.1, (x11.2.2.1, (x11.2.2.2.1, (x11.2.2.2.2.1, (x11.2.2.2.2.2.1, (x11.2.2.2.2.2.2.1, (x11.2.2.2.2.2.2.2.1, (x11.2.2.2.2.2.2.2.2, []))))))))))))).bind fun x12 => (((shelf_rising.f x12.1)).bind fun x13 => (bif (!x13) then (some false) else (((dup_May.f x12.2.2.2.2.2.2.1)).bind fun x14 => (bif x14 then (((dup_May.f x12.2.2.2.2.2.2.2.1)).bind fun x15 => (bif x15 then (((shelf_below.f (x12.2.2.2.2.2.2.1, x12.2.2.2.1))).bind fun x16 => (bif x16 then (((shelf_below.f (x12.2.2.2.2.2.2.2.1, x12.2.2.2.1))).bind fun x17 => (some x17)) else (some false))) else (some false))) else (some false))))))) | .inr x11 => (((shelf_May.li4 (x11.2.2.2.2.2.2.2, (((List.length x11.2.2.2.2.2.2.2) : Int), ((0 : Int), (x11.1, (x11.2.1, (x11.2.2.1, (x11.2.2.2.1, (x11.2.2.2.2.1, (x11.2.2.2.2.2.1, (x11.2.2.2.2.2.2.1, (x11.2.2.2.2.2.2.2, []))))))))))))).bind fun x12 => (((shelf_rising.f x12.1)).bind fun x13 => (bif (!x13) then (some false) else (((dup_May.f x12.2.2.2.2.2.2.1)).bind fun x14 => (bif x14 then (((dup_May.f x12.2.2.2.2.2.2.2.1)).bind fun x15 => (bif x15 then (((shelf_below.f (x12.2.2.2.2.2.2.1, x12.2.2.2.1))).bind fun x16 => (bif x16 then (((shelf_below.f (x12.2.2.2.2.2.2.2.1, x12.2.2.2.1))).bind fun x17 => (some x17)) else (some false))) else (some false))) else (some false)))))))))))))) | .inr x5 => (((shelf_May.li1 (x5.2.2.2.2.1, (((List.length x5.2.2.2.2.1) : Int), ((0 : Int), x5))))).bind fun x6 => (match x6 with | .inl x7 => (bif (decide ((x7.1 ≥ (0 : Int)))) then (some false) else (((shelf_May.li2 (x7.2.2.2.2.2.1, (((List.length x7.2.2.2.2.2.1) : Int), ((0 : Int), (x7.2.1, (x7.2.2.1, (x7.2.2.2.1, (x7.2.2.2.2.1, (x7.2.2.2.2.2.1, (x7.2.2.2.2.2.2.1, (x7.2.2.2.2.2.2.2.1, (x7.2.2.2.2.2.2.2.2, []))))))))))))).bind fun x8 => (((shelf_rising.f x8.1)).bind fun x9 => (bif (!x9) then (some false) else (((shelf_May.li3 (x8.2.2.2.2.2.2.2.2, (((List.length x8.2.2.2.2.2.2.2.2) : Int), ((0 : Int), x8.2))))).bind fun x10 => (match x10 with | .inl x11 => (bif (decide ((x11.1 ≥ (0 : Int)))) then (some false) else (((shelf_May.li4 (x11.2.2.2.2.2.2.2.2, (((List.length x11.2.2.2.2.2.2.2.2) : Int), ((0 : Int), (x11.2.1, (x11.2.2.1, (x11.2.2.2.1, (x11.2.2.2.2.1, (x11.2.2.2.2.2.1, (x11.2.2.2.2.2.2.1, (x11.2.2.2.2.2.2.2.1, (x11.2.2.2.2.2.2.2.2, []))))))))))))).bind fun x12 => (((shelf_rising.f x12.1)).bind fun x13 => (bif (!x13) then (some false) else (((dup_May.f x12.2.2.2.2.2.2.1)).bind fun x14 => (bif x14 then (((dup_May.f x12.2.2.2.2.2.2.2.1)).bind fun x15 => (bif x15 then (((shelf_below.f (x12.2.2.2.2.2.2.1, x12.2.2.2.1))).bind fun x16 => (bif x16 then (((shelf_below.f (x12.2.2.2.2.2.2.2.1, x12.2.2.2.1))).bind fun x17 => (some x17)) else (some false))) else (some false))) else (some false))))))) | .inr x11 => (((shelf_May.li4 (x11.2.2.2.2.2.2.2, (((List.length x11.2.2.2.2.2.2.2) : Int), ((0 : Int), (x11.1, (x11.2.1, (x11.2.2.1, (x11.2.2.2.1, (x11.2.2.2.2.1, (x11.2.2.2.2.2.1, (x11.2.2.2.2.2.2.1, (x11.2.2.2.2.2.2.2, []))))))))))))).bind fun x12 => (((shelf_rising.f x12.1)).bind fun x13 => (bif (!x13) then (some false) else (((dup_May.f x12.2.2.2.2.2.2.1)).bind fun x14 => (bif x14 then (((dup_May.f x12.2.2.2.2.2.2.2.1)).bind fun x15 => (bif x15 then (((shelf_below.f (x12.2.2.2.2.2.2.1, x12.2.2.2.1))).bind fun x16 => (bif x16 then (((shelf_below.f (x12.2.2.2.2.2.2.2.1, x12.2.2.2.1))).bind fun x17 => (some x17)) else (some false))) else (some false))) else (some false)))))))))))) | .inr x7 => (((shelf_May.li2 (x7.2.2.2.2.1, (((List.length x7.2.2.2.2.1) : Int), ((0 : Int), (x7.1, (x7.2.1, (x7.2.2.1, (x7.2.2.2.1, (x7.2.2.2.2.1, (x7.2.2.2.2.2.1, (x7.2.2.2.2.2.2.1, (x7.2.2.2.2.2.2.2, []))))))))))))).bind fun x8 => (((shelf_rising.f x8.1)).bind fun x9 => (bif (!x9) then (some false) else (((shelf_May.li3 (x8.2.2.2.2.2.2.2.2, (((List.length x8.2.2.2.2.2.2.2.2) : Int), ((0 : Int), x8.2))))).bind fun x10 => (match x10 with | .inl x11 => (bif (decide ((x11.1 ≥ (0 : Int)))) then (some false) else (((shelf_May.li4 (x11.2.2.2.2.2.2.2.2, (((List.length x11.2.2.2.2.2.2.2.2) : Int), ((0 : Int), (x11.2.1, (x11.2.2.1, (x11.2.2.2.1, (x11.2.2.2.2.1, (x11.2.2.2.2.2.1, (x11.2.2.2.2.2.2.1, (x11.2.2.2.2.2.2.2.1, (x11.2.2.2.2.2.2.2.2, []))))))))))))).bind fun x12 => (((shelf_rising.f x12.1)).bind fun x13 => (bif (!x13) then (some false) else (((dup_May.f x12.2.2.2.2.2.2.1)).bind fun x14 => (bif x14 then (((dup_May.f x12.2.2.2.2.2.2.2.1)).bind fun x15 => (bif x15 then (((shelf_below.f (x12.2.2.2.2.2.2.1, x12.2.2.2.1))).bind fun x16 => (bif x16 then (((shelf_below.f (x12.2.2.2.2.2.2.2.1, x12.2.2.2.1))).bind fun x17 => (some x17)) else (some false))) else (some false))) else (some false))))))) | .inr x11 => (((shelf_May.li4 (x11.2.2.2.2.2.2.2, (((List.length x11.2.2.2.2.2.2.2) : Int), ((0 : Int), (x11.1, (x11.2.1, (x11.2.2.1, (x11.2.2.2.1, (x11.2.2.2.2.1, (x11.2.2.2.2.2.1, (x11.2.2.2.2.2.2.1, (x11.2.2.2.2.2.2.2, []))))))))))))).bind fun x12 => (((shelf_rising.f x12.1)).bind fun x13 => (bif (!x13) then (some false) else (((dup_May.f x12.2.2.2.2.2.2.1)).bind fun x14 => (bif x14 then (((dup_May.f x12.2.2.2.2.2.2.2.1)).bind fun x15 => (bif x15 then (((shelf_below.f (x12.2.2.2.2.2.2.1, x12.2.2.2.1))).bind fun x16 => (bif x16 then (((shelf_below.f (x12.2.2.2.2.2.2.2.1, x12.2.2.2.1))).bind fun x17 => (some x17)) else (some false))) else (some false))) else (some false))))))))))))))))))))))))
theorem shelf_May.ok : ∀ a : Vals shelf_May.As.tys, fnK P shelf_May.H5 (lp []) 20 shelf_May.As shelf_May.m a some = shelf_May.f a := fun a => by kernel_rfl
noncomputable abbrev shelf_May.row : Row := fnRow 20 shelf_May.As shelf_May.m shelf_May.f
theorem shelf_May.row_ok : RowOK P G0 shelf_May.row := row_told shelf_May.hok5 (lp_of (l := []) trivial) (fun _ => rfl) shelf_May.ok
end Go.Proofs.YtopoklifappmcaaGreatDoor
end
section
set_option linter.unusedVariables false
set_option linter.unusedSimpArgs false
namespace Go.Proofs.YtopoklifappmcaaGreatDoor
open Go Go.Fw
abbrev St := Int × Int × Int × List Po × List Hd × List Dp × List Dp × List Cl
abbrev zHd : Hd := (bs [], (bs [], (bs [], (0, (0, (0, false))))))
theorem dflt_po : (Ty.dflt T_api_Post : Po) = zP := rfl
theorem dflt_hd : (Ty.dflt T_api_Hold : Hd) = zHd := rfl
theorem dflt_cl : (Ty.dflt T_api_Claim : Cl) = zC := rfl
structure Small (a : St) : Prop where
  p : ∀ x ∈ a.2.2.2.1, x.2.2.1.size ≤ 1000 ∧ x.2.2.2.1.size ≤ 1000 ∧ x.2.2.2.2.1.size ≤ 1000
  h : ∀ x ∈ a.2.2.2.2.1, x.1.size ≤ 1000 ∧ x.2.1.size ≤ 1000 ∧ Am x.2.2.2.1
  d : ∀ x ∈ a.2.2.2.2.2.1, smallD x
  e : ∀ x ∈ a.2.2.2.2.2.2.1, smallD x
  c : ∀ x ∈ a.2.2.2.2.2.2.2, x.1.size ≤ 1000 ∧ x.2.1.size ≤ 1000
  np : a.2.2.2.1.length ≤ 1000
  nh : a.2.2.2.2.1.length ≤ 1000
  nd : a.2.2.2.2.2.1.length ≤ 1000
  ne : a.2.2.2.2.2.2.1.length ≤ 1000
  nc : a.2.2.2.2.2.2.2.length ≤ 1000
def lessB (x y : ByteArray) : Bool := Go.Op.bytesLess (ByteArray.toList x) (ByteArray.toList y)
def risB (l : List ByteArray) : Bool := (List.range (l.length - 1)).all fun i => lessB (l.getD i (bs [])) (l.getD (i + 1) (bs []))
def kH (h : Hd) : ByteArray := h.1 ++ h.2.1
def kC (c : Cl) : ByteArray := c.1 ++ c.2.1
def okH (h : Hd) : Bool := mayB h && decide (h.2.2.2.1 ≤ 9999999999999)
def belB (l : List Dp) (n : Int) : Bool := bif l.length == 0 then true else decide ((l.getD (l.length - 1) zD).1 ≤ n)
def mayS (a : St) : Bool := (decide (0 ≤ a.1) && decide (a.1 ≤ 2147483647)) && ((decide (0 ≤ a.2.1) && decide (a.2.1 ≤ 999999)) && ((decide (0 ≤ a.2.2.1) && decide (a.2.2.1 ≤ 2147483647)) && (decide (a.2.2.2.1.length ≤ 400) && (decide (a.2.2.2.2.1.length ≤ 150) && (decide (a.2.2.2.2.2.2.2.length ≤ 150) && (a.2.2.2.1.all mayP &&
  (a.2.2.2.2.1.all okH && (risB (a.2.2.2.2.1.map kH) && (a.2.2.2.2.2.2.2.all mayC && (risB (a.2.2.2.2.2.2.2.map kC) && (mayDs a.2.2.2.2.2.1 && (mayDs a.2.2.2.2.2.2.1 && (belB a.2.2.2.2.2.1 a.2.2.1 && belB a.2.2.2.2.2.2.1 a.2.2.1)))))))))))))
theorem in_is (n m : Int) : shelf_in.f (n, m) = some (decide (0 ≤ n) && decide (n ≤ m)) := by
  unfold shelf_in.f
  simp only [ge_iff_le]
  cases decide (0 ≤ n) <;> rfl
theorem rising_is {l : List ByteArray} (hl : l.length ≤ 1000) : shelf_rising.f l = some (risB l) := by
  have hf := rounds_all (t := shelf_rising.t3) (fun i => (l, ((i + 1 : Nat) : Int))) (fun i => lessB (l.getD i (bs [])) (l.getD (i + 1) (bs []))) (.inl false) (.inr ()) (l.length - 1) (fun i hi => by
    have hw := wrap_up (n := i + 1) (by omega)
    have ej : IntKind.wrap .i64 (((i + 1 : Nat) : Int) - 1) = (i : Int) := by rw [wrap_i64 (by omega) (by omega)]; omega
    unfold shelf_rising.t3
    simp only [inb (show i + 1 < l.length by omega), ge0', cond_true, Bool.and_self, ej, inb (show i < l.length by omega), Int.toNat_natCast, hw]
    show (bif !lessB _ _ then _ else _) = _
    cases lessB (l.getD i (bs [])) (l.getD (i + 1) (bs [])) <;> rfl) (by
    unfold shelf_rising.t3
    by_cases h0 : l.length = 0
    · simp only [h0, show decide (((0 - 1 + 1 : Nat) : Int) < ((0 : Nat) : Int)) = false from rfl, cond_false]
    · simp only [show l.length - 1 + 1 = l.length by omega, outb, cond_false])
  have hf' : shelf_rising.l3 (l, 1) = _ := hf
  unfold shelf_rising.f risB
  rw [hf', Option.bind_some]
  cases (List.range (l.length - 1)).all _ <;> rfl
theorem below_is {l : List Dp} (hl : l.length ≤ 1000) (n : Int) : shelf_below.f (l, n) = some (belB l n) := by
  unfold shelf_below.f belB
  by_cases h0 : l.length = 0
  · simp only [h0, show (((0 : Nat) : Int) == 0) = true from rfl, show ((0 : Nat) == 0) = true from rfl, cond_true]
  · have e1 : (((l.length : Nat) : Int) == 0) = false := beq_eq_false_iff_ne.2 (by omega)
    have e2 : (l.length == 0) = false := beq_eq_false_iff_ne.2 (by omega)
    have ej : IntKind.wrap .i64 (((l.length : Nat) : Int) - 1) = ((l.length - 1 : Nat) : Int) := by rw [wrap_i64 (by omega) (by omega)]; omega
    rw [dflt_dup]
    simp only [e1, e2, cond_false, ej, ge0', inb (show l.length - 1 < l.length by omega), Bool.and_self, cond_true, Int.toNat_natCast]
theorem claimKey_is {c : Cl} (h1 : c.1.size ≤ 1000) (h2 : c.2.1.size ≤ 1000) : shelf_claimKey.f c = some (kC c) := by
  unfold shelf_claimKey.f
  rw [Nat.ble_eq_true_of_le (by omega)]; rfl
theorem holdKey_is {h : Hd} (h1 : h.1.size ≤ 1000) (h2 : h.2.1.size ≤ 1000) : hold_Key.f h = some (bif mayB h then kH h else bs []) := by
  unfold hold_Key.f
  rw [hold_May_is h (by omega), Option.bind_some, Nat.ble_eq_true_of_le (by omega)]
  cases mayB h <;> rfl
theorem scan_is {α A B : Type} {t : (List α × Int × Int × A) → Option ((List α × Int × Int × A) ⊕ ((Int × A) ⊕ A))} (l : List α) (d : α) (p : α → Bool) (a : A)
    (hs : ∀ i, i < l.length → t (l, (l.length : Int), ((i : Nat) : Int), a) = some (bif p (l.getD i d) then .inl (l, (l.length : Int), ((i + 1 : Nat) : Int), a) else .inr (.inl (((i : Nat) : Int), a))))
    (he : t (l, (l.length : Int), (l.length : Int), a) = some (.inr (.inr a))) :
    (∃ i : Nat, rounds t (l, (l.length : Int), 0, a) = some (.inl (((i : Nat) : Int), a)) ∧ l.all p = false) ∨ (rounds t (l, (l.length : Int), 0, a) = some (.inr a) ∧ l.all p = true) := by
  have hf := rounds_first (t := t) (fun i => (l, (l.length : Int), ((i : Nat) : Int), a)) (fun i => bif p (l.getD i d) then none else some (.inl (((i : Nat) : Int), a))) (.inr a) l.length (fun i hi _ => by
    rw [hs i hi]; cases p (l.getD i d) <;> rfl) (fun _ => he)
  have hf' : rounds t (l, (l.length : Int), 0, a) = _ := hf
  rw [hf', ← range_all p d l]
  rcases find_not (n := l.length) (p := fun i => p (l.getD i d)) (g := fun i => Sum.inl (β := A) (((i : Nat) : Int), a)) with ⟨i, _, g1, g2⟩ | ⟨g1, g2⟩
  · exact .inl ⟨i, by rw [g1]; rfl, g2⟩
  · exact .inr ⟨by rw [g1]; rfl, g2⟩
theorem at_mem {α : Type} {l : List α} {i : Nat} {d : α} (h : i < l.length) : l.getD i d ∈ l := by rw [getD_at h]; exact List.getElem_mem h
theorem len_take {α β : Type} (l : List α) (g : α → β) {i : Nat} (h : i < l.length) : ((l.take i).map g).length = i := by simp; omega
theorem ge0i (i : Nat) : decide ((i : Int) ≥ 0) = true := decide_eq_true (by omega)
theorem scan0 {a : St} (s : Small a) : (∃ i : Nat, shelf_May.li0 (a.2.2.2.1, (a.2.2.2.1.length : Int), 0, a) = some (.inl (((i : Nat) : Int), a)) ∧ a.2.2.2.1.all mayP = false) ∨ (shelf_May.li0 (a.2.2.2.1, (a.2.2.2.1.length : Int), 0, a) = some (.inr a) ∧ a.2.2.2.1.all mayP = true) :=
  scan_is (B := Unit) (t := shelf_May.ti0) a.2.2.2.1 zP mayP a (fun i hi => by
    have hw := wrap_up (n := i) (by have := s.np; omega)
    have hx := s.p _ (at_mem (d := zP) hi)
    unfold shelf_May.ti0
    rw [dflt_po]
    simp only [inb hi, ge0', Bool.and_self, cond_true, Int.toNat_natCast, tradeMay_is (p := a.2.2.2.1.getD i zP) (by omega), Option.bind_some, hw]
    cases mayP (a.2.2.2.1.getD i zP) <;> rfl) (by unfold shelf_May.ti0; simp only [outb, cond_false])
theorem scan1 {a : St} (s : Small a) : (∃ i : Nat, shelf_May.li1 (a.2.2.2.2.1, (a.2.2.2.2.1.length : Int), 0, a) = some (.inl (((i : Nat) : Int), a)) ∧ a.2.2.2.2.1.all okH = false) ∨ (shelf_May.li1 (a.2.2.2.2.1, (a.2.2.2.2.1.length : Int), 0, a) = some (.inr a) ∧ a.2.2.2.2.1.all okH = true) :=
  scan_is (B := Unit) (t := shelf_May.ti1) a.2.2.2.2.1 zHd okH a (fun i hi => by
    have hw := wrap_up (n := i) (by have := s.nh; omega)
    have hx := s.h _ (at_mem (d := zHd) hi)
    unfold shelf_May.ti1 okH
    rw [dflt_hd]
    simp only [inb hi, ge0', Bool.and_self, cond_true, Int.toNat_natCast, hold_May_is (a.2.2.2.2.1.getD i zHd) (by omega), Option.bind_some, hw]
    cases mayB (a.2.2.2.2.1.getD i zHd)
    · rfl
    · by_cases hd : (a.2.2.2.2.1.getD i zHd).2.2.2.1 ≤ 9999999999999
      · simp only [decide_eq_true hd, decide_eq_false (show ¬ (a.2.2.2.2.1.getD i zHd).2.2.2.1 > 9999999999999 by omega)]; rfl
      · simp only [decide_eq_false hd, decide_eq_true (show (a.2.2.2.2.1.getD i zHd).2.2.2.1 > 9999999999999 by omega)]; rfl) (by unfold shelf_May.ti1; simp only [outb, cond_false])
theorem scan3 {a : St} (s : Small a) : (∃ i : Nat, shelf_May.li3 (a.2.2.2.2.2.2.2, (a.2.2.2.2.2.2.2.length : Int), 0, a) = some (.inl (((i : Nat) : Int), a)) ∧ a.2.2.2.2.2.2.2.all mayC = false) ∨ (shelf_May.li3 (a.2.2.2.2.2.2.2, (a.2.2.2.2.2.2.2.length : Int), 0, a) = some (.inr a) ∧ a.2.2.2.2.2.2.2.all mayC = true) :=
  scan_is (B := Unit) (t := shelf_May.ti3) a.2.2.2.2.2.2.2 zC mayC a (fun i hi => by
    have hw := wrap_up (n := i) (by have := s.nc; omega)
    have hx := s.c _ (at_mem (d := zC) hi)
    unfold shelf_May.ti3
    rw [dflt_cl]
    simp only [inb hi, ge0', Bool.and_self, cond_true, Int.toNat_natCast, disputeMay_is (c := a.2.2.2.2.2.2.2.getD i zC) (by omega), Option.bind_some, hw]
    cases mayC (a.2.2.2.2.2.2.2.getD i zC) <;> rfl) (by unfold shelf_May.ti3; simp only [outb, cond_false])
theorem keys2 {a : St} (s : Small a) (hm : a.2.2.2.2.1.all okH = true) (x1 x2 x3 : Int) (x4 : List Po) (x6 x7 : List Dp) (x8 : List Cl) : shelf_May.li2 (a.2.2.2.2.1, (a.2.2.2.2.1.length : Int), 0, x1, x2, x3, x4, a.2.2.2.2.1, x6, x7, x8, []) = some (a.2.2.2.2.1.map kH, x1, x2, x3, x4, a.2.2.2.2.1, x6, x7, x8) :=
  rounds_map (t := shelf_May.ti2) a.2.2.2.2.1 zHd kH (fun acc i => (a.2.2.2.2.1, (a.2.2.2.2.1.length : Int), ((i : Nat) : Int), x1, x2, x3, x4, a.2.2.2.2.1, x6, x7, x8, acc)) (fun acc => (acc, x1, x2, x3, x4, a.2.2.2.2.1, x6, x7, x8)) (fun i hi => by
    have hn := s.nh
    have hw := wrap_up (n := i) (by omega)
    have hx := s.h _ (at_mem (d := zHd) hi)
    have ho := (List.all_eq_true.1 hm) _ (at_mem (d := zHd) hi)
    have hb : mayB (a.2.2.2.2.1.getD i zHd) = true := by unfold okH at ho; simp only [Bool.and_eq_true] at ho; exact ho.1
    unfold shelf_May.ti2
    rw [dflt_hd]
    simp only [inb hi, ge0', Bool.and_self, cond_true, Int.toNat_natCast, holdKey_is hx.1 hx.2.1, hb, Option.bind_some, hw, len_take _ _ hi, List.length_cons, List.length_nil, Nat.zero_add, room 16 140737488355328 (show i ≤ 1000 by omega) (by decide), Nat.ble_eq_true_of_le (show i + 1 ≤ 140737488355328 by omega), Bool.true_and]) (fun acc _ => by unfold shelf_May.ti2; simp only [outb, cond_false])
theorem keys4 {a : St} (s : Small a) (x1 x2 x3 : Int) (x4 : List Po) (x5 : List Hd) (x6 x7 : List Dp) : shelf_May.li4 (a.2.2.2.2.2.2.2, (a.2.2.2.2.2.2.2.length : Int), 0, x1, x2, x3, x4, x5, x6, x7, a.2.2.2.2.2.2.2, []) = some (a.2.2.2.2.2.2.2.map kC, x1, x2, x3, x4, x5, x6, x7, a.2.2.2.2.2.2.2) :=
  rounds_map (t := shelf_May.ti4) a.2.2.2.2.2.2.2 zC kC (fun acc i => (a.2.2.2.2.2.2.2, (a.2.2.2.2.2.2.2.length : Int), ((i : Nat) : Int), x1, x2, x3, x4, x5, x6, x7, a.2.2.2.2.2.2.2, acc)) (fun acc => (acc, x1, x2, x3, x4, x5, x6, x7, a.2.2.2.2.2.2.2)) (fun i hi => by
    have hn := s.nc
    have hw := wrap_up (n := i) (by omega)
    have hx := s.c _ (at_mem (d := zC) hi)
    unfold shelf_May.ti4
    rw [dflt_cl]
    simp only [inb hi, ge0', Bool.and_self, cond_true, Int.toNat_natCast, claimKey_is hx.1 hx.2, Option.bind_some, hw, len_take _ _ hi, List.length_cons, List.length_nil, Nat.zero_add, room 16 140737488355328 (show i ≤ 1000 by omega) (by decide), Nat.ble_eq_true_of_le (show i + 1 ≤ 140737488355328 by omega), Bool.true_and]) (fun acc _ => by unfold shelf_May.ti4; simp only [outb, cond_false])
theorem gt_le {n : Nat} {m : Nat} : decide (((n : Nat) : Int) > (m : Int)) = !decide (n ≤ m) := by
  by_cases h : n ≤ m
  · rw [decide_eq_true h, decide_eq_false (by omega)]; rfl
  · rw [decide_eq_false h, decide_eq_true (by omega)]; rfl
theorem shelfMay_is {a : St} (s : Small a) : shelf_May.f a = some (mayS a) := by
  unfold shelf_May.f mayS
  simp only [in_is, Option.bind_some, show decide (((a.2.2.2.1.length : Nat) : Int) > 400) = !decide (a.2.2.2.1.length ≤ 400) from gt_le (m := 400), show decide (((a.2.2.2.2.1.length : Nat) : Int) > 150) = !decide (a.2.2.2.2.1.length ≤ 150) from gt_le (m := 150), show decide (((a.2.2.2.2.2.2.2.length : Nat) : Int) > 150) = !decide (a.2.2.2.2.2.2.2.length ≤ 150) from gt_le (m := 150)]
  cases (decide (0 ≤ a.1) && decide (a.1 ≤ 2147483647))
  · rfl
  cases (decide (0 ≤ a.2.1) && decide (a.2.1 ≤ 999999))
  · rfl
  cases (decide (0 ≤ a.2.2.1) && decide (a.2.2.1 ≤ 2147483647))
  · rfl
  cases decide (a.2.2.2.1.length ≤ 400)
  · rfl
  cases decide (a.2.2.2.2.1.length ≤ 150)
  · rfl
  cases decide (a.2.2.2.2.2.2.2.length ≤ 150)
  · rfl
  simp only [Bool.not_true, cond_false, Bool.true_and]
  rcases scan0 s with ⟨i, hi, h0⟩ | ⟨hi, h0⟩
  · simp only [hi, Option.bind_some, ge0i, cond_true, h0, Bool.false_and]
  simp only [hi, Option.bind_some, h0, Bool.true_and]
  rcases scan1 s with ⟨i, hj, h1⟩ | ⟨hj, h1⟩
  · simp only [hj, Option.bind_some, ge0i, cond_true, h1, Bool.false_and]
  simp only [hj, Option.bind_some, h1, Bool.true_and, keys2 s h1, rising_is (l := a.2.2.2.2.1.map kH) (by rw [List.length_map]; exact s.nh)]
  cases risB (a.2.2.2.2.1.map kH)
  · rfl
  simp only [Bool.not_true, cond_false, Bool.true_and]
  rcases scan3 s with ⟨i, hk, h2⟩ | ⟨hk, h2⟩
  · have hk' : shelf_May.li3 (a.2.2.2.2.2.2.2, (a.2.2.2.2.2.2.2.length : Int), 0, a.1, a.2.1, a.2.2.1, a.2.2.2.1, a.2.2.2.2.1, a.2.2.2.2.2.1, a.2.2.2.2.2.2.1, a.2.2.2.2.2.2.2) = _ := hk
    simp only [hk', Option.bind_some, ge0i, cond_true, h2, Bool.false_and]
  have hk' : shelf_May.li3 (a.2.2.2.2.2.2.2, (a.2.2.2.2.2.2.2.length : Int), 0, a.1, a.2.1, a.2.2.1, a.2.2.2.1, a.2.2.2.2.1, a.2.2.2.2.2.1, a.2.2.2.2.2.2.1, a.2.2.2.2.2.2.2) = _ := hk
  simp only [hk', Option.bind_some, h2, Bool.true_and, keys4 s, rising_is (l := a.2.2.2.2.2.2.2.map kC) (by rw [List.length_map]; exact s.nc)]
  cases risB (a.2.2.2.2.2.2.2.map kC)
  · rfl
  simp only [Bool.not_true, cond_false, Bool.true_and, dupsMay_is s.d s.nd, dupsMay_is s.e s.ne, below_is s.nd, below_is s.ne, Option.bind_some]
  cases mayDs a.2.2.2.2.2.1 <;> cases mayDs a.2.2.2.2.2.2.1 <;> cases belB a.2.2.2.2.2.1 a.2.2.1 <;> rfl
end Go.Proofs.YtopoklifappmcaaGreatDoor
end
section
set_option linter.unusedVariables false
set_option linter.unusedSimpArgs false
namespace Go.Proofs.YtopoklifappmcaaGreatDoor
open Go Go.Fw
theorem scanR {A : Type} {t : (Int × A) → Option ((Int × A) ⊕ (Bool ⊕ A))} (n : Nat) (p : Nat → Bool) (a : A)
    (hs : ∀ i, i < n → t (((i : Nat) : Int), a) = some (bif p i then .inl (((i + 1 : Nat) : Int), a) else .inr (.inl false)))
    (he : t ((n : Int), a) = some (.inr (.inr a))) : rounds t (0, a) = some (bif (List.range n).all p then .inr a else .inl false) :=
  rounds_all (t := t) (fun i => (((i : Nat) : Int), a)) p (.inl false) (.inr a) n hs he
end Go.Proofs.YtopoklifappmcaaGreatDoor
end
section
set_option linter.unusedVariables false
set_option maxRecDepth 100000
namespace Go.Proofs.YtopoklifappmcaaGreatDoor
open Go Go.Fw
abbrev shelf_Pairs.As : Shs := (.cons (.x T_api_State) .nil)
abbrev shelf_Pairs.m : Back := [(false, (.l (.g (.p .s .s)))), (false, (.i .i64))]
noncomputable abbrev shelf_Pairs.H : HK := hk P G0 E0 J0 [shelf_May.row, dispute_Text.row, shelf_claimKey.row, dup_Text.row, shelf_ten.row, hold_Text.row, hold_Key.row, trade_Text.row] noLoops 4
theorem shelf_Pairs.rows : TabOK P G0 (tabF [shelf_May.row, dispute_Text.row, shelf_claimKey.row, dup_Text.row, shelf_ten.row, hold_Text.row, hold_Key.row, trade_Text.row]) := rows_ok (ws := [shelf_May.row, dispute_Text.row, shelf_claimKey.row, dup_Text.row, shelf_ten.row, hold_Text.row, hold_Key.row, trade_Text.row]) ⟨shelf_May.row_ok, ⟨dispute_Text.row_ok, ⟨shelf_claimKey.row_ok, ⟨dup_Text.row_ok, ⟨shelf_ten.row_ok, ⟨hold_Text.row_ok, ⟨hold_Key.row_ok, ⟨trade_Text.row_ok, trivial⟩⟩⟩⟩⟩⟩⟩⟩
theorem shelf_Pairs.hok : HKOK P shelf_Pairs.H := hk_ok e0_ok j0_ok shelf_Pairs.rows (fun g n => noLoops_ok g n) 4
noncomputable abbrev shelf_Pairs.sh8 : SSh := ⟨[(1, (.pt 0 0)), (4, (.pt 1 0)), (5, (.bm 42 (.cons (.pt 1 0) .nil))), (34, (.x (.l (.g (.p .s (.p .s (.p .s (.p (.i .i64) (.p (.i .i64) (.i .i64)))))))))), (35, (.x (.i .i64))), (36, (.x (.i .i64)))], [.box (.cons (.x (.i .i64)) (.cons (.x (.i .i64)) (.cons (.x (.i .i64)) (.cons (.x (.l (.g (.p (.i .i64) (.p (.i .i64) (.p .s (.p .s (.p .s (.i .i64))))))))) (.cons (.x (.l (.g (.p .s (.p .s (.p .s (.p (.i .i64) (.p (.i .i64) (.p (.i .i64) .b))))))))) (.cons (.x (.l (.g (.p (.i .i64) (.p .s (.p .s (.p .s (.i .i64)))))))) (.cons (.x (.l (.g (.p (.i .i64) (.p .s (.p .s (.p .s (.i .i64)))))))) (.cons (.x (.l (.g (.p .s (.p .s (.p .s (.p (.i .i64) (.p (.i .i64) (.i .i64))))))))) .nil)))))))), .box (.cons (.own 2 2) .nil), .arrN T_api_Pair]⟩
noncomputable abbrev shelf_Pairs.os8 : PEnds := [((.exit 0), ⟨[(1, (.pt 0 0)), (4, (.pt 1 0)), (5, (.bm 42 (.cons (.pt 1 0) .nil)))], [.box (.cons (.x (.i .i64)) (.cons (.x (.i .i64)) (.cons (.x (.i .i64)) (.cons (.x (.l (.g (.p (.i .i64) (.p (.i .i64) (.p .s (.p .s (.p .s (.i .i64))))))))) (.cons (.x (.l (.g (.p .s (.p .s (.p .s (.p (.i .i64) (.p (.i .i64) (.p (.i .i64) .b))))))))) (.cons (.x (.l (.g (.p (.i .i64) (.p .s (.p .s (.p .s (.i .i64)))))))) (.cons (.x (.l (.g (.p (.i .i64) (.p .s (.p .s (.p .s (.i .i64)))))))) (.cons (.x (.l (.g (.p .s (.p .s (.p .s (.p (.i .i64) (.p (.i .i64) (.i .i64))))))))) .nil)))))))), .box (.cons (.own 2 2) .nil), .arrN T_api_Pair]⟩)]
noncomputable def shelf_Pairs.t8 (s : ((List (ByteArray × (ByteArray × (ByteArray × (Int × (Int × Int)))))) × (Int × (Int × (Int × (Int × (Int × ((List (Int × (Int × (ByteArray × (ByteArray × (ByteArray × Int)))))) × ((List (ByteArray × (ByteArray × (ByteArray × (Int × (Int × (Int × Bool))))))) × ((List (Int × (ByteArray × (ByteArray × (ByteArray × Int))))) × ((List (Int × (ByteArray × (ByteArray × (ByteArray × Int))))) × ((List (ByteArray × (ByteArray × (ByteArray × (Int × (Int × Int)))))) × (List (ByteArray × ByteArray)))))))))))))) : Option (((List (ByteArray × (ByteArray × (ByteArray × (Int × (Int × Int)))))) × (Int × (Int × (Int × (Int × (Int × ((List (Int × (Int × (ByteArray × (ByteArray × (ByteArray × Int)))))) × ((List (ByteArray × (ByteArray × (ByteArray × (Int × (Int × (Int × Bool))))))) × ((List (Int × (ByteArray × (ByteArray × (ByteArray × Int))))) × ((List (Int × (ByteArray × (ByteArray × (ByteArray × Int))))) × ((List (ByteArray × (ByteArray × (ByteArray × (Int × (Int × Int)))))) × (List (ByteArray × ByteArray))))))))))))) ⊕ ((Int × (Int × (Int × ((List (Int × (Int × (ByteArray × (ByteArray × (ByteArray × Int)))))) × ((List (ByteArray × (ByteArray × (ByteArray × (Int × (Int × (Int × Bool))))))) × ((List (Int × (ByteArray × (ByteArray × (ByteArray × Int))))) × ((List (Int × (ByteArray × (ByteArray × (ByteArray × Int))))) × ((List (ByteArray × (ByteArray × (ByteArray × (Int × (Int × Int)))))) × (List (ByteArray × ByteArray)))))))))))) := (bif (decide ((s.2.2.1 < s.2.1))) then (bif ((decide (((0 : Int) ≤ s.2.2.1))) && (decide ((s.2.2.1 < ((List.length s.1) : Int))))) then (((dispute_Text.f (List.getD s.1 (Int.toNat s.2.2.1) (Ty.dflt T_api_Claim)))).bind fun x13 => (((shelf_claimKey.f (List.getD s.1 (Int.toNat s.2.2.1) (Ty.dflt T_api_Claim)))).bind fun x14 => (bif (Nat.ble (1 + x14.size) 9223372036854775807) then (bif ((true && (Nat.ble (((List.length s.2.2.2.2.2.2.2.2.2.2.2) + (List.length ((((bs [99]) ++ x14), x13.1) :: []))) * 32) 140737488355328)) && (Nat.ble ((List.length s.2.2.2.2.2.2.2.2.2.2.2) + (List.length ((((bs [99]) ++ x14), x13.1) :: []))) 140737488355328)) then (some (.inl (s.1, (s.2.1, ((IntKind.wrap .i64 (s.2.2.1 + (1 : Int))), (s.2.2.2.1, (s.2.2.2.2.1, (s.2.2.2.2.2.1, (s.2.2.2.2.2.2.1, (s.2.2.2.2.2.2.2.1, (s.2.2.2.2.2.2.2.2.1, (s.2.2.2.2.2.2.2.2.2.1, (s.2.2.2.2.2.2.2.2.2.2.1, (s.2.2.2.2.2.2.2.2.2.2.2 ++ ((((bs [99]) ++ x14), x13.1) :: []))))))))))))))) else none) else none))) else none) else (some (.inr s.2.2.2)))
theorem shelf_Pairs.t8_ok : ∀ s : Vals shelf_Pairs.sh8.tys, turnK P shelf_Pairs.H (lp []) (bodyAt (codeOf P 19) 8) 0 shelf_Pairs.sh8 shelf_Pairs.os8 s some = shelf_Pairs.t8 s := by rintro ⟨s0, s1, s2, s3, s4, s5, s6, s7, s8, s9, s10, s11⟩; cases s11 <;> kernel_rfl
noncomputable def shelf_Pairs.l8 : ((List (ByteArray × (ByteArray × (ByteArray × (Int × (Int × Int)))))) × (Int × (Int × (Int × (Int × (Int × ((List (Int × (Int × (ByteArray × (ByteArray × (ByteArray × Int)))))) × ((List (ByteArray × (ByteArray × (ByteArray × (Int × (Int × (Int × Bool))))))) × ((List (Int × (ByteArray × (ByteArray × (ByteArray × Int))))) × ((List (Int × (ByteArray × (ByteArray × (ByteArray × Int))))) × ((List (ByteArray × (ByteArray × (ByteArray × (Int × (Int × Int)))))) × (List (ByteArray × ByteArray))))))))))))) → Option ((Int × (Int × (Int × ((List (Int × (Int × (ByteArray × (ByteArray × (ByteArray × Int)))))) × ((List (ByteArray × (ByteArray × (ByteArray × (Int × (Int × (Int × Bool))))))) × ((List (Int × (ByteArray × (ByteArray × (ByteArray × Int))))) × ((List (Int × (ByteArray × (ByteArray × (ByteArray × Int))))) × ((List (ByteArray × (ByteArray × (ByteArray × (Int × (Int × Int)))))) × (List (ByteArray × ByteArray))))))))))) := rounds shelf_Pairs.t8
noncomputable abbrev shelf_Pairs.sh11 : SSh := ⟨[(1, (.pt 0 0)), (4, (.pt 1 0)), (5, (.bm 42 (.cons (.pt 1 0) .nil))), (53, (.x (.l (.g (.p (.i .i64) (.p .s (.p .s (.p .s (.i .i64))))))))), (54, (.x (.i .i64))), (55, (.x (.i .i64)))], [.box (.cons (.x (.i .i64)) (.cons (.x (.i .i64)) (.cons (.x (.i .i64)) (.cons (.x (.l (.g (.p (.i .i64) (.p (.i .i64) (.p .s (.p .s (.p .s (.i .i64))))))))) (.cons (.x (.l (.g (.p .s (.p .s (.p .s (.p (.i .i64) (.p (.i .i64) (.p (.i .i64) .b))))))))) (.cons (.x (.l (.g (.p (.i .i64) (.p .s (.p .s (.p .s (.i .i64)))))))) (.cons (.x (.l (.g (.p (.i .i64) (.p .s (.p .s (.p .s (.i .i64)))))))) (.cons (.x (.l (.g (.p .s (.p .s (.p .s (.p (.i .i64) (.p (.i .i64) (.i .i64))))))))) .nil)))))))), .box (.cons (.own 2 2) .nil), .arrN T_api_Pair]⟩
noncomputable abbrev shelf_Pairs.os11 : PEnds := [((.exit 2), ⟨[(1, (.pt 0 0)), (4, (.pt 1 0)), (5, (.bm 42 (.cons (.pt 1 0) .nil)))], [.box (.cons (.x (.i .i64)) (.cons (.x (.i .i64)) (.cons (.x (.i .i64)) (.cons (.x (.l (.g (.p (.i .i64) (.p (.i .i64) (.p .s (.p .s (.p .s (.i .i64))))))))) (.cons (.x (.l (.g (.p .s (.p .s (.p .s (.p (.i .i64) (.p (.i .i64) (.p (.i .i64) .b))))))))) (.cons (.x (.l (.g (.p (.i .i64) (.p .s (.p .s (.p .s (.i .i64)))))))) (.cons (.x (.l (.g (.p (.i .i64) (.p .s (.p .s (.p .s (.i .i64)))))))) (.cons (.x (.l (.g (.p .s (.p .s (.p .s (.p (.i .i64) (.p (.i .i64) (.i .i64))))))))) .nil)))))))), .box (.cons (.own 2 2) .nil), .arrN T_api_Pair]⟩)]
noncomputable def shelf_Pairs.t11 (s : ((List (Int × (ByteArray × (ByteArray × (ByteArray × Int))))) × (Int × (Int × (Int × (Int × (Int × ((List (Int × (Int × (ByteArray × (ByteArray × (ByteArray × Int)))))) × ((List (ByteArray × (ByteArray × (ByteArray × (Int × (Int × (Int × Bool))))))) × ((List (Int × (ByteArray × (ByteArray × (ByteArray × Int))))) × ((List (Int × (ByteArray × (ByteArray × (ByteArray × Int))))) × ((List (ByteArray × (ByteArray × (ByteArray × (Int × (Int × Int)))))) × (List (ByteArray × ByteArray)))))))))))))) : Option (((List (Int × (ByteArray × (ByteArray × (ByteArray × Int))))) × (Int × (Int × (Int × (Int × (Int × ((List (Int × (Int × (ByteArray × (ByteArray × (ByteArray × Int)))))) × ((List (ByteArray × (ByteArray × (ByteArray × (Int × (Int × (Int × Bool))))))) × ((List (Int × (ByteArray × (ByteArray × (ByteArray × Int))))) × ((List (Int × (ByteArray × (ByteArray × (ByteArray × Int))))) × ((List (ByteArray × (ByteArray × (ByteArray × (Int × (Int × Int)))))) × (List (ByteArray × ByteArray))))))))))))) ⊕ ((Int × (Int × (Int × ((List (Int × (Int × (ByteArray × (ByteArray × (ByteArray × Int)))))) × ((List (ByteArray × (ByteArray × (ByteArray × (Int × (Int × (Int × Bool))))))) × ((List (Int × (ByteArray × (ByteArray × (ByteArray × Int))))) × ((List (Int × (ByteArray × (ByteArray × (ByteArray × Int))))) × ((List (ByteArray × (ByteArray × (ByteArray × (Int × (Int × Int)))))) × (List (ByteArray × ByteArray)))))))))))) := (bif (decide ((s.2.2.1 < s.2.1))) then (bif ((decide (((0 : Int) ≤ s.2.2.1))) && (decide ((s.2.2.1 < ((List.length s.1) : Int))))) then (((dup_Text.f (List.getD s.1 (Int.toNat s.2.2.1) (Ty.dflt T_api_Dup)))).bind fun x13 => (((shelf_ten.f (List.getD s.1 (Int.toNat s.2.2.1) (Ty.dflt T_api_Dup)).1)).bind fun x14 => (bif (Nat.ble (1 + x14.size) 9223372036854775807) then (bif ((true && (Nat.ble (((List.length s.2.2.2.2.2.2.2.2.2.2.2) + (List.length ((((bs [100]) ++ x14), x13.1) :: []))) * 32) 140737488355328)) && (Nat.ble ((List.length s.2.2.2.2.2.2.2.2.2.2.2) + (List.length ((((bs [100]) ++ x14), x13.1) :: []))) 140737488355328)) then (some (.inl (s.1, (s.2.1, ((IntKind.wrap .i64 (s.2.2.1 + (1 : Int))), (s.2.2.2.1, (s.2.2.2.2.1, (s.2.2.2.2.2.1, (s.2.2.2.2.2.2.1, (s.2.2.2.2.2.2.2.1, (s.2.2.2.2.2.2.2.2.1, (s.2.2.2.2.2.2.2.2.2.1, (s.2.2.2.2.2.2.2.2.2.2.1, (s.2.2.2.2.2.2.2.2.2.2.2 ++ ((((bs [100]) ++ x14), x13.1) :: []))))))))))))))) else none) else none))) else none) else (some (.inr s.2.2.2)))
theorem shelf_Pairs.t11_ok : ∀ s : Vals shelf_Pairs.sh11.tys, turnK P shelf_Pairs.H (lp []) (bodyAt (codeOf P 19) 11) 0 shelf_Pairs.sh11 shelf_Pairs.os11 s some = shelf_Pairs.t11 s := by rintro ⟨s0, s1, s2, s3, s4, s5, s6, s7, s8, s9, s10, s11⟩; cases s11 <;> kernel_rfl
noncomputable def shelf_Pairs.l11 : ((List (Int × (ByteArray × (ByteArray × (ByteArray × Int))))) × (Int × (Int × (Int × (Int × (Int × ((List (Int × (Int × (ByteArray × (ByteArray × (ByteArray × Int)))))) × ((List (ByteArray × (ByteArray × (ByteArray × (Int × (Int × (Int × Bool))))))) × ((List (Int × (ByteArray × (ByteArray × (ByteArray × Int))))) × ((List (Int × (ByteArray × (ByteArray × (ByteArray × Int))))) × ((List (ByteArray × (ByteArray × (ByteArray × (Int × (Int × Int)))))) × (List (ByteArray × ByteArray))))))))))))) → Option ((Int × (Int × (Int × ((List (Int × (Int × (ByteArray × (ByteArray × (ByteArray × Int)))))) × ((List (ByteArray × (ByteArray × (ByteArray × (Int × (Int × (Int × Bool))))))) × ((List (Int × (ByteArray × (ByteArray × (ByteArray × Int))))) × ((List (Int × (ByteArray × (ByteArray × (ByteArray × Int))))) × ((List (ByteArray × (ByteArray × (ByteArray × (Int × (Int × Int)))))) × (List (ByteArray × ByteArray))))))))))) := rounds shelf_Pairs.t11
noncomputable abbrev shelf_Pairs.sh14 : SSh := ⟨[(1, (.pt 0 0)), (4, (.pt 1 0)), (5, (.bm 42 (.cons (.pt 1 0) .nil))), (73, (.x (.l (.g (.p .s (.p .s (.p .s (.p (.i .i64) (.p (.i .i64) (.p (.i .i64) .b)))))))))), (74, (.x (.i .i64))), (75, (.x (.i .i64)))], [.box (.cons (.x (.i .i64)) (.cons (.x (.i .i64)) (.cons (.x (.i .i64)) (.cons (.x (.l (.g (.p (.i .i64) (.p (.i .i64) (.p .s (.p .s (.p .s (.i .i64))))))))) (.cons (.x (.l (.g (.p .s (.p .s (.p .s (.p (.i .i64) (.p (.i .i64) (.p (.i .i64) .b))))))))) (.cons (.x (.l (.g (.p (.i .i64) (.p .s (.p .s (.p .s (.i .i64)))))))) (.cons (.x (.l (.g (.p (.i .i64) (.p .s (.p .s (.p .s (.i .i64)))))))) (.cons (.x (.l (.g (.p .s (.p .s (.p .s (.p (.i .i64) (.p (.i .i64) (.i .i64))))))))) .nil)))))))), .box (.cons (.own 2 2) .nil), .arrN T_api_Pair]⟩
noncomputable abbrev shelf_Pairs.os14 : PEnds := [((.exit 4), ⟨[(1, (.pt 0 0)), (4, (.pt 1 0)), (5, (.bm 42 (.cons (.pt 1 0) .nil)))], [.box (.cons (.x (.i .i64)) (.cons (.x (.i .i64)) (.cons (.x (.i .i64)) (.cons (.x (.l (.g (.p (.i .i64) (.p (.i .i64) (.p .s (.p .s (.p .s (.i .i64))))))))) (.cons (.x (.l (.g (.p .s (.p .s (.p .s (.p (.i .i64) (.p (.i .i64) (.p (.i .i64) .b))))))))) (.cons (.x (.l (.g (.p (.i .i64) (.p .s (.p .s (.p .s (.i .i64)))))))) (.cons (.x (.l (.g (.p (.i .i64) (.p .s (.p .s (.p .s (.i .i64)))))))) (.cons (.x (.l (.g (.p .s (.p .s (.p .s (.p (.i .i64) (.p (.i .i64) (.i .i64))))))))) .nil)))))))), .box (.cons (.own 2 2) .nil), .arrN T_api_Pair]⟩)]
noncomputable def shelf_Pairs.t14 (s : ((List (ByteArray × (ByteArray × (ByteArray × (Int × (Int × (Int × Bool))))))) × (Int × (Int × (Int × (Int × (Int × ((List (Int × (Int × (ByteArray × (ByteArray × (ByteArray × Int)))))) × ((List (ByteArray × (ByteArray × (ByteArray × (Int × (Int × (Int × Bool))))))) × ((List (Int × (ByteArray × (ByteArray × (ByteArray × Int))))) × ((List (Int × (ByteArray × (ByteArray × (ByteArray × Int))))) × ((List (ByteArray × (ByteArray × (ByteArray × (Int × (Int × Int)))))) × (List (ByteArray × ByteArray)))))))))))))) : Option (((List (ByteArray × (ByteArray × (ByteArray × (Int × (Int × (Int × Bool))))))) × (Int × (Int × (Int × (Int × (Int × ((List (Int × (Int × (ByteArray × (ByteArray × (ByteArray × Int)))))) × ((List (ByteArray × (ByteArray × (ByteArray × (Int × (Int × (Int × Bool))))))) × ((List (Int × (ByteArray × (ByteArray × (ByteArray × Int))))) × ((List (Int × (ByteArray × (ByteArray × (ByteArray × Int))))) × ((List (ByteArray × (ByteArray × (ByteArray × (Int × (Int × Int)))))) × (List (ByteArray × ByteArray))))))))))))) ⊕ ((Int × (Int × (Int × ((List (Int × (Int × (ByteArray × (ByteArray × (ByteArray × Int)))))) × ((List (ByteArray × (ByteArray × (ByteArray × (Int × (Int × (Int × Bool))))))) × ((List (Int × (ByteArray × (ByteArray × (ByteArray × Int))))) × ((List (Int × (ByteArray × (ByteArray × (ByteArray × Int))))) × ((List (ByteArray × (ByteArray × (ByteArray × (Int × (Int × Int)))))) × (List (ByteArray × ByteArray)))))))))))) := (bif (decide ((s.2.2.1 < s.2.1))) then (bif ((decide (((0 : Int) ≤ s.2.2.1))) && (decide ((s.2.2.1 < ((List.length s.1) : Int))))) then (((hold_Text.f (List.getD s.1 (Int.toNat s.2.2.1) (Ty.dflt T_api_Hold)))).bind fun x13 => (((hold_Key.f (List.getD s.1 (Int.toNat s.2.2.1) (Ty.dflt T_api_Hold)))).bind fun x14 => (bif (Nat.ble (1 + x14.size) 9223372036854775807) then (((hold_Key.f (List.getD s.1 (Int.toNat s.2.2.1) (Ty.dflt T_api_Hold)))).bind fun x15 => (bif ((decide (((0 : Int) ≤ (x15.size : Int)))) && (decide (((x15.size : Int) ≤ (x13.1.size : Int))))) then (bif ((true && (Nat.ble (((List.length s.2.2.2.2.2.2.2.2.2.2.2) + (List.length ((((bs [104]) ++ x14), (ByteArray.extract x13.1 (Int.toNat (x15.size : Int)) x13.1.size)) :: []))) * 32) 140737488355328)) && (Nat.ble ((List.length s.2.2.2.2.2.2.2.2.2.2.2) + (List.length ((((bs [104]) ++ x14), (ByteArray.extract x13.1 (Int.toNat (x15.size : Int)) x13.1.size)) :: []))) 140737488355328)) then (some (.inl (s.1, (s.2.1, ((IntKind.wrap .i64 (s.2.2.1 + (1 : Int))), (s.2.2.2.1, (s.2.2.2.2.1, (s.2.2.2.2.2.1, (s.2.2.2.2.2.2.1, (s.2.2.2.2.2.2.2.1, (s.2.2.2.2.2.2.2.2.1, (s.2.2.2.2.2.2.2.2.2.1, (s.2.2.2.2.2.2.2.2.2.2.1, (s.2.2.2.2.2.2.2.2.2.2.2 ++ ((((bs [104]) ++ x14), (ByteArray.extract x13.1 (Int.toNat (x15.size : Int)) x13.1.size)) :: []))))))))))))))) else none) else none)) else none))) else none) else (some (.inr s.2.2.2)))
theorem shelf_Pairs.t14_ok : ∀ s : Vals shelf_Pairs.sh14.tys, turnK P shelf_Pairs.H (lp []) (bodyAt (codeOf P 19) 14) 0 shelf_Pairs.sh14 shelf_Pairs.os14 s some = shelf_Pairs.t14 s := by rintro ⟨s0, s1, s2, s3, s4, s5, s6, s7, s8, s9, s10, s11⟩; cases s11 <;> kernel_rfl
noncomputable def shelf_Pairs.l14 : ((List (ByteArray × (ByteArray × (ByteArray × (Int × (Int × (Int × Bool))))))) × (Int × (Int × (Int × (Int × (Int × ((List (Int × (Int × (ByteArray × (ByteArray × (ByteArray × Int)))))) × ((List (ByteArray × (ByteArray × (ByteArray × (Int × (Int × (Int × Bool))))))) × ((List (Int × (ByteArray × (ByteArray × (ByteArray × Int))))) × ((List (Int × (ByteArray × (ByteArray × (ByteArray × Int))))) × ((List (ByteArray × (ByteArray × (ByteArray × (Int × (Int × Int)))))) × (List (ByteArray × ByteArray))))))))))))) → Option ((Int × (Int × (Int × ((List (Int × (Int × (ByteArray × (ByteArray × (ByteArray × Int)))))) × ((List (ByteArray × (ByteArray × (ByteArray × (Int × (Int × (Int × Bool))))))) × ((List (Int × (ByteArray × (ByteArray × (ByteArray × Int))))) × ((List (Int × (ByteArray × (ByteArray × (ByteArray × Int))))) × ((List (ByteArray × (ByteArray × (ByteArray × (Int × (Int × Int)))))) × (List (ByteArray × ByteArray))))))))))) := rounds shelf_Pairs.t14
noncomputable abbrev shelf_Pairs.sh18 : SSh := ⟨[(1, (.pt 0 0)), (4, (.pt 1 0)), (5, (.bm 42 (.cons (.pt 1 0) .nil))), (109, (.x (.l (.g (.p (.i .i64) (.p (.i .i64) (.p .s (.p .s (.p .s (.i .i64)))))))))), (110, (.x (.i .i64))), (111, (.x (.i .i64)))], [.box (.cons (.x (.i .i64)) (.cons (.x (.i .i64)) (.cons (.x (.i .i64)) (.cons (.x (.l (.g (.p (.i .i64) (.p (.i .i64) (.p .s (.p .s (.p .s (.i .i64))))))))) (.cons (.x (.l (.g (.p .s (.p .s (.p .s (.p (.i .i64) (.p (.i .i64) (.p (.i .i64) .b))))))))) (.cons (.x (.l (.g (.p (.i .i64) (.p .s (.p .s (.p .s (.i .i64)))))))) (.cons (.x (.l (.g (.p (.i .i64) (.p .s (.p .s (.p .s (.i .i64)))))))) (.cons (.x (.l (.g (.p .s (.p .s (.p .s (.p (.i .i64) (.p (.i .i64) (.i .i64))))))))) .nil)))))))), .box (.cons (.own 2 2) .nil), .arr T_api_Pair]⟩
noncomputable abbrev shelf_Pairs.os18 : PEnds := [((.exit 6), ⟨[(1, (.pt 0 0)), (4, (.pt 1 0)), (5, (.bm 42 (.cons (.pt 1 0) .nil)))], [.box (.cons (.x (.i .i64)) (.cons (.x (.i .i64)) (.cons (.x (.i .i64)) (.cons (.x (.l (.g (.p (.i .i64) (.p (.i .i64) (.p .s (.p .s (.p .s (.i .i64))))))))) (.cons (.x (.l (.g (.p .s (.p .s (.p .s (.p (.i .i64) (.p (.i .i64) (.p (.i .i64) .b))))))))) (.cons (.x (.l (.g (.p (.i .i64) (.p .s (.p .s (.p .s (.i .i64)))))))) (.cons (.x (.l (.g (.p (.i .i64) (.p .s (.p .s (.p .s (.i .i64)))))))) (.cons (.x (.l (.g (.p .s (.p .s (.p .s (.p (.i .i64) (.p (.i .i64) (.i .i64))))))))) .nil)))))))), .box (.cons (.own 2 2) .nil), .arr T_api_Pair]⟩)]
noncomputable def shelf_Pairs.t18 (s : ((List (Int × (Int × (ByteArray × (ByteArray × (ByteArray × Int)))))) × (Int × (Int × (Int × (Int × (Int × ((List (Int × (Int × (ByteArray × (ByteArray × (ByteArray × Int)))))) × ((List (ByteArray × (ByteArray × (ByteArray × (Int × (Int × (Int × Bool))))))) × ((List (Int × (ByteArray × (ByteArray × (ByteArray × Int))))) × ((List (Int × (ByteArray × (ByteArray × (ByteArray × Int))))) × ((List (ByteArray × (ByteArray × (ByteArray × (Int × (Int × Int)))))) × (List (ByteArray × ByteArray)))))))))))))) : Option (((List (Int × (Int × (ByteArray × (ByteArray × (ByteArray × Int)))))) × (Int × (Int × (Int × (Int × (Int × ((List (Int × (Int × (ByteArray × (ByteArray × (ByteArray × Int)))))) × ((List (ByteArray × (ByteArray × (ByteArray × (Int × (Int × (Int × Bool))))))) × ((List (Int × (ByteArray × (ByteArray × (ByteArray × Int))))) × ((List (Int × (ByteArray × (ByteArray × (ByteArray × Int))))) × ((List (ByteArray × (ByteArray × (ByteArray × (Int × (Int × Int)))))) × (List (ByteArray × ByteArray))))))))))))) ⊕ ((Int × (Int × (Int × ((List (Int × (Int × (ByteArray × (ByteArray × (ByteArray × Int)))))) × ((List (ByteArray × (ByteArray × (ByteArray × (Int × (Int × (Int × Bool))))))) × ((List (Int × (ByteArray × (ByteArray × (ByteArray × Int))))) × ((List (Int × (ByteArray × (ByteArray × (ByteArray × Int))))) × ((List (ByteArray × (ByteArray × (ByteArray × (Int × (Int × Int)))))) × (List (ByteArray × ByteArray)))))))))))) := (bif (decide ((s.2.2.1 < s.2.1))) then (bif ((decide (((0 : Int) ≤ s.2.2.1))) && (decide ((s.2.2.1 < ((List.length s.1) : Int))))) then (((trade_Text.f (List.getD s.1 (Int.toNat s.2.2.1) (Ty.dflt T_api_Post)))).bind fun x12 => (((shelf_ten.f s.2.2.1)).bind fun x13 => (bif (Nat.ble (1 + x13.size) 9223372036854775807) then (bif ((true && (Nat.ble (((List.length s.2.2.2.2.2.2.2.2.2.2.2) + (List.length ((((bs [112]) ++ x13), x12.1) :: []))) * 32) 140737488355328)) && (Nat.ble ((List.length s.2.2.2.2.2.2.2.2.2.2.2) + (List.length ((((bs [112]) ++ x13), x12.1) :: []))) 140737488355328)) then (some (.inl (s.1, (s.2.1, ((IntKind.wrap .i64 (s.2.2.1 + (1 : Int))), (s.2.2.2.1, (s.2.2.2.2.1, (s.2.2.2.2.2.1, (s.2.2.2.2.2.2.1, (s.2.2.2.2.2.2.2.1, (s.2.2.2.2.2.2.2.2.1, (s.2.2.2.2.2.2.2.2.2.1, (s.2.2.2.2.2.2.2.2.2.2.1, (s.2.2.2.2.2.2.2.2.2.2.2 ++ ((((bs [112]) ++ x13), x12.1) :: []))))))))))))))) else none) else none))) else none) else (some (.inr s.2.2.2)))
theorem shelf_Pairs.t18_ok : ∀ s : Vals shelf_Pairs.sh18.tys, turnK P shelf_Pairs.H (lp []) (bodyAt (codeOf P 19) 18) 0 shelf_Pairs.sh18 shelf_Pairs.os18 s some = shelf_Pairs.t18 s := fun s => by kernel_rfl
noncomputable def shelf_Pairs.l18 : ((List (Int × (Int × (ByteArray × (ByteArray × (ByteArray × Int)))))) × (Int × (Int × (Int × (Int × (Int × ((List (Int × (Int × (ByteArray × (ByteArray × (ByteArray × Int)))))) × ((List (ByteArray × (ByteArray × (ByteArray × (Int × (Int × (Int × Bool))))))) × ((List (Int × (ByteArray × (ByteArray × (ByteArray × Int))))) × ((List (Int × (ByteArray × (ByteArray × (ByteArray × Int))))) × ((List (ByteArray × (ByteArray × (ByteArray × (Int × (Int × Int)))))) × (List (ByteArray × ByteArray))))))))))))) → Option ((Int × (Int × (Int × ((List (Int × (Int × (ByteArray × (ByteArray × (ByteArray × Int)))))) × ((List (ByteArray × (ByteArray × (ByteArray × (Int × (Int × (Int × Bool))))))) × ((List (Int × (ByteArray × (ByteArray × (ByteArray × Int))))) × ((List (Int × (ByteArray × (ByteArray × (ByteArray × Int))))) × ((List (ByteArray × (ByteArray × (ByteArray × (Int × (Int × Int)))))) × (List (ByteArray × ByteArray))))))))))) := rounds shelf_Pairs.t18
noncomputable abbrev shelf_Pairs.sh21 : SSh := ⟨[(4, (.pt 0 0)), (5, (.bm 42 (.cons (.pt 0 0) .nil))), (129, (.x (.l (.g (.p (.i .i64) (.p .s (.p .s (.p .s (.i .i64))))))))), (130, (.x (.i .i64))), (131, (.x (.i .i64)))], [.box (.cons (.own 1 2) .nil), .arr T_api_Pair]⟩
noncomputable abbrev shelf_Pairs.os21 : PEnds := [((.exit 8), ⟨[(4, (.pt 0 0))], [.box (.cons (.own 1 2) .nil), .arr T_api_Pair]⟩)]
noncomputable def shelf_Pairs.t21 (s : ((List (Int × (ByteArray × (ByteArray × (ByteArray × Int))))) × (Int × (Int × (List (ByteArray × ByteArray)))))) : Option (((List (Int × (ByteArray × (ByteArray × (ByteArray × Int))))) × (Int × (Int × (List (ByteArray × ByteArray))))) ⊕ ((List (ByteArray × ByteArray)))) := (bif (decide ((s.2.2.1 < s.2.1))) then (bif ((decide (((0 : Int) ≤ s.2.2.1))) && (decide ((s.2.2.1 < ((List.length s.1) : Int))))) then (((dup_Text.f (List.getD s.1 (Int.toNat s.2.2.1) (Ty.dflt T_api_Dup)))).bind fun x4 => (((shelf_ten.f (List.getD s.1 (Int.toNat s.2.2.1) (Ty.dflt T_api_Dup)).1)).bind fun x5 => (bif (Nat.ble (1 + x5.size) 9223372036854775807) then (bif ((true && (Nat.ble (((List.length s.2.2.2) + (List.length ((((bs [114]) ++ x5), x4.1) :: []))) * 32) 140737488355328)) && (Nat.ble ((List.length s.2.2.2) + (List.length ((((bs [114]) ++ x5), x4.1) :: []))) 140737488355328)) then (some (.inl (s.1, (s.2.1, ((IntKind.wrap .i64 (s.2.2.1 + (1 : Int))), (s.2.2.2 ++ ((((bs [114]) ++ x5), x4.1) :: []))))))) else none) else none))) else none) else (some (.inr s.2.2.2)))
theorem shelf_Pairs.t21_ok : ∀ s : Vals shelf_Pairs.sh21.tys, turnK P shelf_Pairs.H (lp []) (bodyAt (codeOf P 19) 21) 0 shelf_Pairs.sh21 shelf_Pairs.os21 s some = shelf_Pairs.t21 s := fun s => by kernel_rfl
noncomputable def shelf_Pairs.l21 : ((List (Int × (ByteArray × (ByteArray × (ByteArray × Int))))) × (Int × (Int × (List (ByteArray × ByteArray))))) → Option ((List (ByteArray × ByteArray))) := rounds shelf_Pairs.t21
noncomputable def shelf_Pairs.f (a : (Int × (Int × (Int × ((List (Int × (Int × (ByteArray × (ByteArray × (ByteArray × Int)))))) × ((List (ByteArray × (ByteArray × (ByteArray × (Int × (Int × (Int × Bool))))))) × ((List (Int × (ByteArray × (ByteArray × (ByteArray × Int))))) × ((List (Int × (ByteArray × (ByteArray × (ByteArray × Int))))) × (List (ByteArray × (ByteArray × (ByteArray × (Int × (Int × Int)))))))))))))) : Option ((List (ByteArray × ByteArray)) × Int) := (((shelf_May.f a)).bind fun x1 => (bif (!x1) then (some ([], (1 : Int))) else (((shelf_Pairs.l8 (a.2.2.2.2.2.2.2, (((List.length a.2.2.2.2.2.2.2) : Int), ((0 : Int), (a.1, (a.2.1, (a.2.2.1, (a.2.2.2.1, (a.2.2.2.2.1, (a.2.2.2.2.2.1, (a.2.2.2.2.2.2.1, (a.2.2.2.2.2.2.2, []))))))))))))).bind fun x2 => (match x2.2.2.2.2.2.2.2.2 with | [] => (((shelf_Pairs.l11 (x2.2.2.2.2.2.1, (((List.length x2.2.2.2.2.2.1) : Int), ((0 : Int), (x2.1, (x2.2.1, (x2.2.2.1, (x2.2.2.2.1, (x2.2.2.2.2.1, (x2.2.2.2.2.2.1, (x2.2.2.2.2.2.2.1, (x2.2.2.2.2.2.2.2.1, []))))))))))))).bind fun x3 => (match x3.2.2.2.2.2.2.2.2 with | [] => (((shelf_Pairs.l14 (x3.2.2.2.2.1, (((List.length x3.2.2.2.2.1) : Int), ((0 : Int), (x3.1, (x3.2.1, (x3.2.2.1, (x3.2.2.2.1, (x3.2.2.2.2.1, (x3.2.2.2.2.2.1, (x3.2.2.2.2.2.2.1, (x3.2.2.2.2.2.2.2.1, []))))))))))))).bind fun x4 => (match x4.2.2.2.2.2.2.2.2 with | [] => (((shelf_ten.f x4.1)).bind fun x5 => (((shelf_ten.f x4.2.1)).bind fun x6 => (bif (Nat.ble (x5.size + x6.size) 9223372036854775807) then (((shelf_ten.f x4.2.2.1)).bind fun x7 => (bif (Nat.ble ((x5 ++ x6).size + x7.size) 9223372036854775807) then (((shelf_Pairs.l18 (x4.2.2.2.1, (((List.length x4.2.2.2.1) : Int), ((0 : Int), (x4.1, (x4.2.1, (x4.2.2.1, (x4.2.2.2.1, (x4.2.2.2.2.1, (x4.2.2.2.2.2.1, (x4.2.2.2.2.2.2.1, (x4.2.2.2.2.2.2.2.1, (((bs [109]), ((x5 ++ x6) ++ x7)) :: [])))))))))))))).bind fun x8 => (((shelf_Pairs.l21 (x8.2.2.2.2.2.2.1, (((List.length x8.2.2.2.2.2.2.1) : Int), ((0 : Int), x8.2.2.2.2.2.2.2.2))))).bind fun x9 => (some (x9, (0 : Int))))) else none)) else none))) | x5 :: x6 => (((shelf_ten.f x4.1)).bind fun x7 => (((shelf_ten.f x4.2.1)).bind fun x8 => (bif (Nat.ble (x7.size + x8.size) 9223372036854775807) then (((shelf_ten.f x4.2.2.1)).bind fun x9 => (bif (Nat.ble ((x7 ++ x8).size + x9.size) 9223372036854775807) then (bif ((true && (Nat.ble (((List.length (x5 :: x6)) + (List.length (((bs [109]), ((x7 ++ x8) ++ x9)) :: []))) * 32) 140737488355328)) && (Nat.ble ((List.length (x5 :: x6)) + (List.length (((bs [109]), ((x7 ++ x8) ++ x9)) :: []))) 140737488355328)) then (((shelf_Pairs.l18 (x4.2.2.2.1, (((List.length x4.2.2.2.1) : Int), ((0 : Int), (x4.1, (x4.2.1, (x4.2.2.1, (x4.2.2.2.1, (x4.2.2.2.2.1, (x4.2.2.2.2.2.1, (x4.2.2.2.2.2.2.1, (x4.2.2.2.2.2.2.2.1, ((x5 :: x6) ++ (((bs [109]), ((x7 ++ x8) ++ x9)) :: []))))))))))))))).bind fun x10 => (((shelf_Pairs.l21 (x10.2.2.2.2.2.2.1, (((List.length x10.2.2.2.2.2.2.1) : Int), ((0 : Int), x10.2.2.2.2.2.2.2.2))))).bind fun x11 => (some (x11, (0 : Int))))) else none) else none)) else none))))) | x4 :: x5 => (((shelf_Pairs.l14 (x3.2.2.2.2.1, (((List.length x3.2.2.2.2.1) : Int), ((0 : Int), (x3.1, (x3.2.1, (x3.2.2.1, (x3.2.2.2.1, (x3.2.2.2.2.1, (x3.2.2.2.2.2.1, (x3.2.2.2.2.2.2.1, (x3.2.2.2.2.2.2.2.1, (x4 :: x5)))))))))))))).bind fun x6 => (match x6.2.2.2.2.2.2.2.2 with | [] => (((shelf_ten.f x6.1)).bind fun x7 => (((shelf_ten.f x6.2.1)).bind fun x8 => (bif (Nat.ble (x7.size + x8.size) 9223372036854775807) then (((shelf_ten.f x6.2.2.1)).bind fun x9 => (bif (Nat.ble ((x7 ++ x8).size + x9.size) 9223372036854775807) then (((shelf_Pairs.l18 (x6.2.2.2.1, (((List.length x6.2.2.2.1) : Int), ((0 : Int), (x6.1, (x6.2.1, (x6.2.2.1, (x6.2.2.2.1, (x6.2.2.2.2.1, (x6.2.2.2.2.2.1, (x6.2.2.2.2.2.2.1, (x6.2.2.2.2.2.2.2.1, (((bs [109]), ((x7 ++ x8) ++ x9)) :: [])))))))))))))).bind fun x10 => (((shelf_Pairs.l21 (x10.2.2.2.2.2.2.1, (((List.length x10.2.2.2.2.2.2.1) : Int), ((0 : Int), x10.2.2.2.2.2.2.2.2))))).bind fun x11 => (some (x11, (0 : Int))))) else none)) else none))) | x7 :: x8 => (((shelf_ten.f x6.1)).bind fun x9 => (((shelf_ten.f x6.2.1)).bind fun x10 => (bif (Nat.ble (x9.size + x10.size) 9223372036854775807) then (((shelf_ten.f x6.2.2.1)).bind fun x11 => (bif (Nat.ble ((x9 ++ x10).size + x11.size) 9223372036854775807) then (bif ((true && (Nat.ble (((List.length (x7 :: x8)) + (List.length (((bs [109]), ((x9 ++ x10) ++ x11)) :: []))) * 32) 140737488355328)) && (Nat.ble ((List.length (x7 :: x8)) + (List.length (((bs [109]), ((x9 ++ x10) ++ x11)) :: []))) 140737488355328)) then (((shelf_Pairs.l18 (x6.2.2.2.1, (((List.length x6.2.2.2.1) : Int), ((0 : Int), (x6.1, (x6.2.1, (x6.2.2.1, (x6.2.2.2.1, (x6.2.2.2.2.1, (x6.2.2.2.2.2.1, (x6.2.2.2.2.2.2.1, (x6.2.2.2.2.2.2.2.1, ((x7 :: x8) ++ (((bs [109]), ((x9 ++ x10) ++ x11)) :: []))))))))))))))).bind fun x12 => (((shelf_Pairs.l21 (x12.2.2.2.2.2.2.1, (((List.length x12.2.2.2.2.2.2.1) : Int), ((0 : Int), x12.2.2.2.2.2.2.2.2))))).bind fun x13 => (some (x13, (0 : Int))))) else none) else none)) else none))))))) | x3 :: x4 => (((shelf_Pairs.l11 (x2.2.2.2.2.2.1, (((List.length x2.2.2.2.2.2.1) : Int), ((0 : Int), (x2.1, (x2.2.1, (x2.2.2.1, (x2.2.2.2.1, (x2.2.2.2.2.1, (x2.2.2.2.2.2.1, (x2.2.2.2.2.2.2.1, (x2.2.2.2.2.2.2.2.1, (x3 :: x4)))))))))))))).bind fun x5 => (match x5.2.2.2.2.2.2.2.2 with | [] => (((shelf_Pairs.l14 (x5.2.2.2.2.1, (((List.length x5.2.2.2.2.1) : Int), ((0 : Int), (x5.1, (x5.2.1, (x5.2.2.1, (x5.2.2.2.1, (x5.2.2.2.2.1, (x5.2.2.2.2.2.1, (x5.2.2.2.2.2.2.1, (x5.2.2.2.2.2.2.2.1, []))))))))))))).bind fun x6 => (match x6.2.2.2.2.2.2.2.2 with | [] => (((shelf_ten.f x6.1)).bind fun x7 => (((shelf_ten.f x6.2.1)).bind fun x8 => (bif (Nat.ble (x7.size + x8.size) 9223372036854775807) then (((shelf_ten.f x6.2.2.1)).bind fun x9 => (bif (Nat.ble ((x7 ++ x8).size + x9.size) 9223372036854775807) then (((shelf_Pairs.l18 (x6.2.2.2.1, (((List.length x6.2.2.2.1) : Int), ((0 : Int), (x6.1, (x6.2.1, (x6.2.2.1, (x6.2.2.2.1, (x6.2.2.2.2.1, (x6.2.2.2.2.2.1, (x6.2.2.2.2.2.2.1, (x6.2.2.2.2.2.2.2.1, (((bs [109]), ((x7 ++ x8) ++ x9)) :: [])))))))))))))).bind fun x10 => (((shelf_Pairs.l21 (x10.2.2.2.2.2.2.1, (((List.length x10.2.2.2.2.2.2.1) : Int), ((0 : Int), x10.2.2.2.2.2.2.2.2))))).bind fun x11 => (some (x11, (0 : Int))))) else none)) else none))) | x7 :: x8 => (((shelf_ten.f x6.1)).bind fun x9 => (((shelf_ten.f x6.2.1)).bind fun x10 => (bif (Nat.ble (x9.size + x10.size) 9223372036854775807) then (((shelf_ten.f x6.2.2.1)).bind fun x11 => (bif (Nat.ble ((x9 ++ x10).size + x11.size) 9223372036854775807) then (bif ((true && (Nat.ble (((List.length (x7 :: x8)) + (List.length (((bs [109]), ((x9 ++ x10) ++ x11)) :: []))) * 32) 140737488355328)) && (Nat.ble ((List.length (x7 :: x8)) + (List.length (((bs [109]), ((x9 ++ x10) ++ x11)) :: []))) 140737488355328)) then (((shelf_Pairs.l18 (x6.2.2.2.1, (((List.length x6.2.2.2.1) : Int), ((0 : Int), (x6.1, (x6.2.1, (x6.2.2.1, (x6.2.2.2.1, (x6.2.2.2.2.1, (x6.2.2.2.2.2.1, (x6.2.2.2.2.2.2.1, (x6.2.2.2.2.2.2.2.1, ((x7 :: x8) ++ (((bs [109]), ((x9 ++ x10) ++ x11)) :: []))))))))))))))).bind fun x12 => (((shelf_Pairs.l21 (x12.2.2.2.2.2.2.1, (((List.length x12.2.2.2.2.2.2.1) : Int), ((0 : Int), x12.2.2.2.2.2.2.2.2))))).bind fun x13 => (some (x13, (0 : Int))))) else none) else none)) else none))))) | x6 :: x7 => (((shelf_Pairs.l14 (x5.2.2.2.2.1, (((List.length x5.2.2.2.2.1) : Int), ((0 : Int), (x5.1, (x5.2.1, (x5.2.2.1, (x5.2.2.2.1, (x5.2.2.2.2.1, (x5.2.2.2.2.2.1, (x5.2.2.2.2.2.2.1, (x5.2.2.2.2.2.2.2.1, (x6 :: x7)))))))))))))).bind fun x8 => (match x8.2.2.2.2.2.2.2.2 with | [] => (((shelf_ten.f x8.1)).bind fun x9 => (((shelf_ten.f x8.2.1)).bind fun x10 => (bif (Nat.ble (x9.size + x10.size) 9223372036854775807) then (((shelf_ten.f x8.2.2.1)).bind fun x11 => (bif (Nat.ble ((x9 ++ x10).size + x11.size) 9223372036854775807) then (((shelf_Pairs.l18 (x8.2.2.2.1, (((List.length x8.2.2.2.1) : Int), ((0 : Int), (x8.1, (x8.2.1, (x8.2.2.1, (x8.2.2.2.1, (x8.2.2.2.2.1, (x8.2.2.2.2.2.1, (x8.2.2.2.2.2.2.1, (x8.2.2.2.2.2.2.2.1, (((bs [109]), ((x9 ++ x10) ++ x11)) :: [])))))))))))))).bind fun x12 => (((shelf_Pairs.l21 (x12.2.2.2.2.2.2.1, (((List.length x12.2.2.2.2.2.2.1) : Int), ((0 : Int), x12.2.2.2.2.2.2.2.2))))).bind fun x13 => (some (x13, (0 : Int))))) else none)) else none))) | x9 :: x10 => (((shelf_ten.f x8.1)).bind fun x11 => (((shelf_ten.f x8.2.1)).bind fun x12 => (bif (Nat.ble (x11.size + x12.size) 9223372036854775807) then (((shelf_ten.f x8.2.2.1)).bind fun x13 => (bif (Nat.ble ((x11 ++ x12).size + x13.size) 9223372036854775807) then (bif ((true && (Nat.ble (((List.length (x9 :: x10)) + (List.length (((bs [109]), ((x11 ++ x12) ++ x13)) :: []))) * 32) 140737488355328)) && (Nat.ble ((List.length (x9 :: x10)) + (List.length (((bs [109]), ((x11 ++ x12) ++ x13)) :: []))) 140737488355328)) then (((shelf_Pairs.l18 (x8.2.2.2.1, (((List.length x8.2.2.2.1) : Int), ((0 : Int), (x8.1, (x8.2.1, (x8.2.2.1, (x8.2.2.2.1, (x8.2.2.2.2.1, (x8.2.2.2.2.2.1, (x8.2.2.2.2.2.2.1, (x8.2.2.2.2.2.2.2.1, ((x9 :: x10) ++ (((bs [109]), ((x11 ++ x12) ++ x13)) :: []))))))))))))))).bind fun x14 => (((shelf_Pairs.l21 (x14.2.2.2.2.2.2.1, (((List.length x14.2.2.2.2.2.2.1) : Int), ((0 : Int), x14.2.2.2.2.2.2.2.2))))).bind fun x15 => (some (x15, (0 : Int))))) else none) else none)) else none)))))))))))
theorem shelf_Pairs.ok : ∀ a : Vals shelf_Pairs.As.tys, fnK P shelf_Pairs.H (lp [(8, (NodeT.summ ⟨shelf_Pairs.sh8, shelf_Pairs.os8, shelf_Pairs.l8⟩ 0)), (11, (NodeT.summ ⟨shelf_Pairs.sh11, shelf_Pairs.os11, shelf_Pairs.l11⟩ 0)), (14, (NodeT.summ ⟨shelf_Pairs.sh14, shelf_Pairs.os14, shelf_Pairs.l14⟩ 0)), (18, (NodeT.summ ⟨shelf_Pairs.sh18, shelf_Pairs.os18, shelf_Pairs.l18⟩ 0)), (21, (NodeT.summ ⟨shelf_Pairs.sh21, shelf_Pairs.os21, shelf_Pairs.l21⟩ 0))]) 19 shelf_Pairs.As shelf_Pairs.m a some = shelf_Pairs.f a := fun a => by kernel_rfl
noncomputable abbrev shelf_Pairs.row : Row := fnRow 19 shelf_Pairs.As shelf_Pairs.m shelf_Pairs.f
theorem shelf_Pairs.row_ok : RowOK P G0 shelf_Pairs.row := row_told shelf_Pairs.hok (lp_of (l := [(8, (NodeT.summ ⟨shelf_Pairs.sh8, shelf_Pairs.os8, shelf_Pairs.l8⟩ 0)), (11, (NodeT.summ ⟨shelf_Pairs.sh11, shelf_Pairs.os11, shelf_Pairs.l11⟩ 0)), (14, (NodeT.summ ⟨shelf_Pairs.sh14, shelf_Pairs.os14, shelf_Pairs.l14⟩ 0)), (18, (NodeT.summ ⟨shelf_Pairs.sh18, shelf_Pairs.os18, shelf_Pairs.l18⟩ 0)), (21, (NodeT.summ ⟨shelf_Pairs.sh21, shelf_Pairs.os21, shelf_Pairs.l21⟩ 0))]) ⟨(loop_sum shelf_Pairs.hok (by kernel_rfl) (by kernel_rfl) (l := []) trivial shelf_Pairs.sh8 shelf_Pairs.os8 (by kernel_rfl) shelf_Pairs.t8 shelf_Pairs.t8_ok), ⟨(loop_sum shelf_Pairs.hok (by kernel_rfl) (by kernel_rfl) (l := []) trivial shelf_Pairs.sh11 shelf_Pairs.os11 (by kernel_rfl) shelf_Pairs.t11 shelf_Pairs.t11_ok), ⟨(loop_sum shelf_Pairs.hok (by kernel_rfl) (by kernel_rfl) (l := []) trivial shelf_Pairs.sh14 shelf_Pairs.os14 (by kernel_rfl) shelf_Pairs.t14 shelf_Pairs.t14_ok), ⟨(loop_sum shelf_Pairs.hok (by kernel_rfl) (by kernel_rfl) (l := []) trivial shelf_Pairs.sh18 shelf_Pairs.os18 (by kernel_rfl) shelf_Pairs.t18 shelf_Pairs.t18_ok), ⟨(loop_sum shelf_Pairs.hok (by kernel_rfl) (by kernel_rfl) (l := []) trivial shelf_Pairs.sh21 shelf_Pairs.os21 (by kernel_rfl) shelf_Pairs.t21 shelf_Pairs.t21_ok), trivial⟩⟩⟩⟩⟩) (fun _ => rfl) shelf_Pairs.ok
end Go.Proofs.YtopoklifappmcaaGreatDoor
end
section
set_option linter.unusedVariables false
set_option linter.unusedSimpArgs false
namespace Go.Proofs.YtopoklifappmcaaGreatDoor
open Go Go.Fw
abbrev Pr := ByteArray × ByteArray
theorem rounds_app {S R β : Type} {t : S → Option (S ⊕ R)} (n : Nat) (g : Nat → β) (st : List β → Nat → S) (out : List β → R) (acc0 : List β)
    (h : ∀ acc i, i < n → acc.length = acc0.length + i → t (st acc i) = some (.inl (st (acc ++ [g i]) (i + 1)))) (hf : ∀ acc, t (st acc n) = some (.inr (out acc))) :
    rounds t (st acc0 0) = some (out (acc0 ++ (List.range n).map g)) := by
  have := rounds_to (t := t) (fun i => st (acc0 ++ (List.range i).map g) i) n (fun i hi => by
    rw [h _ i hi (by simp), List.range_succ, List.map_append, List.append_assoc]; rfl)
  simp only [List.range_zero, List.map_nil, List.append_nil] at this
  rw [this]
  exact rounds_end (hf _)
theorem range_map {α β : Type} (g : α → β) (l : List α) (d : α) : (List.range l.length).map (fun i => g (l.getD i d)) = l.map g := by
  apply List.ext_getElem
  · simp
  · intro i h1 h2
    rw [List.getElem_map, List.getElem_map, List.getElem_range, getD_at (by simpa using h2)]
structure ParS (a : St) : Prop where
  t : 0 ≤ a.1 ∧ a.1 ≤ 2147483647
  b : 0 ≤ a.2.1 ∧ a.2.1 ≤ 999999
  n : 0 ≤ a.2.2.1 ∧ a.2.2.1 ≤ 2147483647
  np : a.2.2.2.1.length ≤ 400
  nh : a.2.2.2.2.1.length ≤ 150
  nc : a.2.2.2.2.2.2.2.length ≤ 150
  p : ∀ x ∈ a.2.2.2.1, mayP x = true
  h : ∀ x ∈ a.2.2.2.2.1, mayB x = true ∧ x.2.2.2.1 ≤ 9999999999999
  c : ∀ x ∈ a.2.2.2.2.2.2.2, mayC x = true
  d : mayDs a.2.2.2.2.2.1 = true
  e : mayDs a.2.2.2.2.2.2.1 = true
  rh : risB (a.2.2.2.2.1.map kH) = true
  rc : risB (a.2.2.2.2.2.2.2.map kC) = true
theorem mayS_parts {a : St} (h : mayS a = true) : ParS a := by
  unfold mayS at h
  simp only [Bool.and_eq_true, decide_eq_true_eq, List.all_eq_true] at h
  obtain ⟨h1, h2, h3, h4, h5, h6, h7, h8, h9, h10, h11, h12, h13, _⟩ := h
  exact ⟨h1, h2, h3, h4, h5, h6, h7, fun x hx => by have := h8 x hx; unfold okH at this; simpa using this, h10, h12, h13, h9, h11⟩
theorem mayDs_each {l : List Dp} (h : mayDs l = true) : l.length ≤ 100 ∧ ∀ x ∈ l, mayD x = true := by
  unfold mayDs at h
  rw [Bool.and_eq_true, List.all_eq_true] at h
  refine ⟨of_decide_eq_true h.1, fun x hx => ?_⟩
  obtain ⟨i, hi, rfl⟩ := List.getElem_of_mem hx
  have := h.2 i (List.mem_range.2 hi)
  unfold okD at this
  simp only [Bool.and_eq_true, getD_at hi] at this
  exact this.1
def pC (c : Cl) : Pr := (bs [99] ++ kC c, bs (txtC c))
def pD (k : UInt8) (x : Dp) : Pr := (bs [k] ++ bs (padD 10 x.1.toNat), bs (txtD x))
def pH (h : Hd) : Pr := (bs [104] ++ kH h, bs ((txtH h).drop 18))
def pM (a : St) : Pr := (bs [109], (bs (padD 10 a.1.toNat) ++ bs (padD 10 a.2.1.toNat)) ++ bs (padD 10 a.2.2.1.toNat))
def pP (l : List Po) (i : Nat) : Pr := (bs [112] ++ bs (padD 10 i), bs (txtP (l.getD i zP)))
def pairsS (a : St) : List Pr := (((((([] : List Pr) ++ a.2.2.2.2.2.2.2.map pC) ++ a.2.2.2.2.2.1.map (pD 100)) ++ a.2.2.2.2.1.map pH) ++ [pM a]) ++ (List.range a.2.2.2.1.length).map (pP a.2.2.2.1)) ++ a.2.2.2.2.2.2.1.map (pD 114)
theorem pairs8 {a : St} (s : Small a) (m : ParS a) (x1 x2 x3 : Int) (x4 : List Po) (x5 : List Hd) (x6 x7 : List Dp) (acc : List Pr) (ha : acc.length ≤ 1000) :
    shelf_Pairs.l8 (a.2.2.2.2.2.2.2, (a.2.2.2.2.2.2.2.length : Int), 0, x1, x2, x3, x4, x5, x6, x7, a.2.2.2.2.2.2.2, acc) = some (x1, x2, x3, x4, x5, x6, x7, a.2.2.2.2.2.2.2, acc ++ a.2.2.2.2.2.2.2.map pC) := by
  rw [← range_map pC a.2.2.2.2.2.2.2 zC]
  exact rounds_app (t := shelf_Pairs.t8) a.2.2.2.2.2.2.2.length (fun i => pC (a.2.2.2.2.2.2.2.getD i zC)) (fun acc i => (a.2.2.2.2.2.2.2, (a.2.2.2.2.2.2.2.length : Int), ((i : Nat) : Int), x1, x2, x3, x4, x5, x6, x7, a.2.2.2.2.2.2.2, acc)) (fun acc => (x1, x2, x3, x4, x5, x6, x7, a.2.2.2.2.2.2.2, acc)) acc (fun l i hi hl => by
    have hn := m.nc
    have hw := wrap_up (n := i) (by omega)
    have hx := s.c _ (at_mem (d := zC) hi)
    have hm := m.c _ (at_mem (d := zC) hi)
    have hz : (kC (a.2.2.2.2.2.2.2.getD i zC)).size ≤ 2000 := by unfold kC; rw [ByteArray.size_append]; omega
    unfold shelf_Pairs.t8
    rw [dflt_cl]
    simp only [inb hi, ge0', Bool.and_self, cond_true, Int.toNat_natCast, disputeText_is (c := a.2.2.2.2.2.2.2.getD i zC) (by omega), hm, claimKey_is hx.1 hx.2, Option.bind_some, hw, List.length_cons, List.length_nil, Nat.zero_add, room 32 140737488355328 (show l.length ≤ 2000 by omega) (by decide), Nat.ble_eq_true_of_le (show l.length + 1 ≤ 140737488355328 by omega), Nat.ble_eq_true_of_le (show 1 + (kC (a.2.2.2.2.2.2.2.getD i zC)).size ≤ 9223372036854775807 by omega), Bool.true_and]
    rfl) (fun acc => by unfold shelf_Pairs.t8; simp only [outb, cond_false])
theorem pD_size (k : UInt8) (n : Nat) : (bs (padD 10 n)).size = 10 := by rw [bs_size, padD_len]
theorem pairs11 {a : St} (s : Small a) (m : ParS a) (x1 x2 x3 : Int) (x4 : List Po) (x5 : List Hd) (x7 : List Dp) (x8 : List Cl) (acc : List Pr) (ha : acc.length ≤ 1000) :
    shelf_Pairs.l11 (a.2.2.2.2.2.1, (a.2.2.2.2.2.1.length : Int), 0, x1, x2, x3, x4, x5, a.2.2.2.2.2.1, x7, x8, acc) = some (x1, x2, x3, x4, x5, a.2.2.2.2.2.1, x7, x8, acc ++ a.2.2.2.2.2.1.map (pD 100)) := by
  obtain ⟨hn, hd⟩ := mayDs_each m.d
  rw [← range_map (pD 100) a.2.2.2.2.2.1 zD]
  exact rounds_app (t := shelf_Pairs.t11) a.2.2.2.2.2.1.length (fun i => pD 100 (a.2.2.2.2.2.1.getD i zD)) (fun acc i => (a.2.2.2.2.2.1, (a.2.2.2.2.2.1.length : Int), ((i : Nat) : Int), x1, x2, x3, x4, x5, a.2.2.2.2.2.1, x7, x8, acc)) (fun acc => (x1, x2, x3, x4, x5, a.2.2.2.2.2.1, x7, x8, acc)) acc (fun l i hi hl => by
    have hw := wrap_up (n := i) (by omega)
    have hx := s.d _ (at_mem (d := zD) hi)
    have hm := hd _ (at_mem (d := zD) hi)
    have hp := (mayD_parts hm).1
    unfold shelf_Pairs.t11
    rw [dflt_dup]
    simp only [inb hi, ge0', Bool.and_self, cond_true, Int.toNat_natCast, dupText_is hx, hm, ten_is (n := (a.2.2.2.2.2.1.getD i zD).1) (by omega) hp.2, Option.bind_some, hw, List.length_cons, List.length_nil, Nat.zero_add, room 32 140737488355328 (show l.length ≤ 2000 by omega) (by decide), Nat.ble_eq_true_of_le (show l.length + 1 ≤ 140737488355328 by omega), pD_size 0, show Nat.ble (1 + 10) 9223372036854775807 = true from rfl, Bool.true_and]
    rfl) (fun acc => by unfold shelf_Pairs.t11; simp only [outb, cond_false])
theorem kH_size {h : Hd} (hm : mayB h = true) : (kH h).size = 18 := by
  obtain ⟨h1, h2, _⟩ := may_parts hm
  unfold kH
  rw [ByteArray.size_append, h1, h2]
theorem txtH_len {h : Hd} (hm : mayB h = true) : 45 ≤ (txtH h).length := by
  obtain ⟨h1, h2, h3, _⟩ := may_parts hm
  unfold txtH
  simp only [List.length_append, size_len, h1, h2, h3, padD_len, List.length_cons, List.length_nil]
  omega
theorem pairs14 {a : St} (s : Small a) (m : ParS a) (x1 x2 x3 : Int) (x4 : List Po) (x6 x7 : List Dp) (x8 : List Cl) (acc : List Pr) (ha : acc.length ≤ 1000) :
    shelf_Pairs.l14 (a.2.2.2.2.1, (a.2.2.2.2.1.length : Int), 0, x1, x2, x3, x4, a.2.2.2.2.1, x6, x7, x8, acc) = some (x1, x2, x3, x4, a.2.2.2.2.1, x6, x7, x8, acc ++ a.2.2.2.2.1.map pH) := by
  rw [← range_map pH a.2.2.2.2.1 zHd]
  exact rounds_app (t := shelf_Pairs.t14) a.2.2.2.2.1.length (fun i => pH (a.2.2.2.2.1.getD i zHd)) (fun acc i => (a.2.2.2.2.1, (a.2.2.2.2.1.length : Int), ((i : Nat) : Int), x1, x2, x3, x4, a.2.2.2.2.1, x6, x7, x8, acc)) (fun acc => (x1, x2, x3, x4, a.2.2.2.2.1, x6, x7, x8, acc)) acc (fun l i hi hl => by
    have hn := m.nh
    have hw := wrap_up (n := i) (by omega)
    have hx := s.h _ (at_mem (d := zHd) hi)
    have hm := (m.h _ (at_mem (d := zHd) hi)).1
    have hz := kH_size hm
    have hl5 := txtH_len hm
    have e1 : decide (((18 : Nat) : Int) ≤ ((txtH (a.2.2.2.2.1.getD i zHd)).length : Int)) = true := decide_eq_true (by omega)
    have e2 : (txtH (a.2.2.2.2.1.getD i zHd)).take (txtH (a.2.2.2.2.1.getD i zHd)).length = txtH (a.2.2.2.2.1.getD i zHd) := List.take_length
    unfold shelf_Pairs.t14
    rw [dflt_hd]
    simp only [inb hi, ge0', Bool.and_self, cond_true, Int.toNat_natCast, Text_hold_is (h := a.2.2.2.2.1.getD i zHd) (by omega) hx.2.2, hm, holdKey_is hx.1 hx.2.1, Option.bind_some, hw, List.length_cons, List.length_nil, Nat.zero_add, room 32 140737488355328 (show l.length ≤ 2000 by omega) (by decide), Nat.ble_eq_true_of_le (show l.length + 1 ≤ 140737488355328 by omega), hz, bs_size, e1, bs_extract, e2, show Nat.ble (1 + 18) 9223372036854775807 = true from rfl, Bool.true_and]
    rfl) (fun acc => by unfold shelf_Pairs.t14; simp only [outb, cond_false])
theorem pairs18 {a : St} (s : Small a) (m : ParS a) (x1 x2 x3 : Int) (x5 : List Hd) (x6 x7 : List Dp) (x8 : List Cl) (acc : List Pr) (ha : acc.length ≤ 1000) :
    shelf_Pairs.l18 (a.2.2.2.1, (a.2.2.2.1.length : Int), 0, x1, x2, x3, a.2.2.2.1, x5, x6, x7, x8, acc) = some (x1, x2, x3, a.2.2.2.1, x5, x6, x7, x8, acc ++ (List.range a.2.2.2.1.length).map (pP a.2.2.2.1)) :=
  rounds_app (t := shelf_Pairs.t18) a.2.2.2.1.length (pP a.2.2.2.1) (fun acc i => (a.2.2.2.1, (a.2.2.2.1.length : Int), ((i : Nat) : Int), x1, x2, x3, a.2.2.2.1, x5, x6, x7, x8, acc)) (fun acc => (x1, x2, x3, a.2.2.2.1, x5, x6, x7, x8, acc)) acc (fun l i hi hl => by
    have hn := m.np
    have hw := wrap_up (n := i) (by omega)
    have hm := m.p _ (at_mem (d := zP) hi)
    unfold shelf_Pairs.t18
    rw [dflt_po]
    simp only [inb hi, ge0', Bool.and_self, cond_true, Int.toNat_natCast, tradeText_is (mayP_small hm), hm, ten_is (n := ((i : Nat) : Int)) (by omega) (by omega), Option.bind_some, hw, List.length_cons, List.length_nil, Nat.zero_add, room 32 140737488355328 (show l.length ≤ 2000 by omega) (by decide), Nat.ble_eq_true_of_le (show l.length + 1 ≤ 140737488355328 by omega), pD_size 0, show Nat.ble (1 + 10) 9223372036854775807 = true from rfl, Bool.true_and]
    rfl) (fun acc => by unfold shelf_Pairs.t18; simp only [outb, cond_false])
theorem pairs21 {a : St} (s : Small a) (m : ParS a) (acc : List Pr) (ha : acc.length ≤ 1000) :
    shelf_Pairs.l21 (a.2.2.2.2.2.2.1, (a.2.2.2.2.2.2.1.length : Int), 0, acc) = some (acc ++ a.2.2.2.2.2.2.1.map (pD 114)) := by
  obtain ⟨hn, hd⟩ := mayDs_each m.e
  rw [← range_map (pD 114) a.2.2.2.2.2.2.1 zD]
  exact rounds_app (t := shelf_Pairs.t21) a.2.2.2.2.2.2.1.length (fun i => pD 114 (a.2.2.2.2.2.2.1.getD i zD)) (fun acc i => (a.2.2.2.2.2.2.1, (a.2.2.2.2.2.2.1.length : Int), ((i : Nat) : Int), acc)) (fun acc => acc) acc (fun l i hi hl => by
    have hw := wrap_up (n := i) (by omega)
    have hx := s.e _ (at_mem (d := zD) hi)
    have hm := hd _ (at_mem (d := zD) hi)
    have hp := (mayD_parts hm).1
    unfold shelf_Pairs.t21
    rw [dflt_dup]
    simp only [inb hi, ge0', Bool.and_self, cond_true, Int.toNat_natCast, dupText_is hx, hm, ten_is (n := (a.2.2.2.2.2.2.1.getD i zD).1) (by omega) hp.2, Option.bind_some, hw, List.length_cons, List.length_nil, Nat.zero_add, room 32 140737488355328 (show l.length ≤ 2000 by omega) (by decide), Nat.ble_eq_true_of_le (show l.length + 1 ≤ 140737488355328 by omega), pD_size 0, show Nat.ble (1 + 10) 9223372036854775807 = true from rfl, Bool.true_and]
    rfl) (fun acc => by unfold shelf_Pairs.t21; simp only [outb, cond_false])
theorem shelfPairs_is {a : St} (s : Small a) : shelf_Pairs.f a = some (bif mayS a then (pairsS a, 0) else ([], 1)) := by
  unfold shelf_Pairs.f
  rw [shelfMay_is s, Option.bind_some]
  cases hm : mayS a
  · rfl
  have m := mayS_parts hm
  have n1 := m.nc
  have n2 := (mayDs_each m.d).1
  have n3 := m.nh
  have n4 := m.np
  have z2 : Nat.ble (10 + 10) 9223372036854775807 = true := rfl
  have z3 : Nat.ble (10 + 10 + 10) 9223372036854775807 = true := rfl
  simp only [Bool.not_true, cond_false, cond_true, pairs8 s m _ _ _ _ _ _ _ [] (by simp), Option.bind_some]
  unfold pairsS
  generalize h1 : ([] : List Pr) ++ a.2.2.2.2.2.2.2.map pC = s1
  have l1 : s1.length ≤ 150 := by rw [← h1]; simpa using n1
  have k1 : s1.length ≤ 1000 := by omega
  clear h1
  rcases s1 with _ | ⟨y1, r1⟩ <;> simp only [pairs11 s m, k1, Option.bind_some] <;> (
    generalize h2 : _ ++ a.2.2.2.2.2.1.map (pD 100) = s2
    have l2 : s2.length ≤ 250 := by rw [← h2, List.length_append, List.length_map]; omega
    have k2 : s2.length ≤ 1000 := by omega
    clear h2
    rcases s2 with _ | ⟨y2, r2⟩ <;> simp only [pairs14 s m, k2, Option.bind_some] <;> (
      generalize h3 : _ ++ a.2.2.2.2.1.map pH = s3
      have l3 : s3.length ≤ 400 := by rw [← h3, List.length_append, List.length_map]; omega
      clear h3
      rcases s3 with _ | ⟨y3, r3⟩
      · simp only [ten_is m.t.1 m.t.2, ten_is m.b.1 (show a.2.1 ≤ 2147483647 by have := m.b; omega), ten_is m.n.1 m.n.2, Option.bind_some, ByteArray.size_append, pD_size 0, z2, z3, cond_true, List.nil_append]
        rw [pairs18 s m]
        · simp only [Option.bind_some]
          rw [pairs21 s m]
          · rfl
          · simp only [List.length_append, List.length_map, List.length_range, List.length_cons, List.length_nil]; omega
        · simp only [List.length_cons, List.length_nil]; omega
      · have l4 : r3.length + 1 ≤ 400 := l3
        have r1 := room 32 140737488355328 (show r3.length + 1 ≤ 2000 by omega) (by decide)
        have r2 := Nat.ble_eq_true_of_le (show r3.length + 1 + 1 ≤ 140737488355328 by omega)
        simp only [ten_is m.t.1 m.t.2, ten_is m.b.1 (show a.2.1 ≤ 2147483647 by have := m.b; omega), ten_is m.n.1 m.n.2, Option.bind_some, ByteArray.size_append, pD_size 0, z2, z3, cond_true, List.length_cons, List.length_nil, Nat.zero_add, r1, r2, Bool.and_self]
        rw [pairs18 s m]
        · simp only [Option.bind_some]
          rw [pairs21 s m]
          · rfl
          · simp only [List.length_append, List.length_map, List.length_range, List.length_cons, List.length_nil]; omega
        · simp only [List.length_append, List.length_cons, List.length_nil]; omega))
end Go.Proofs.YtopoklifappmcaaGreatDoor
end
section
set_option linter.unusedVariables false
set_option maxRecDepth 100000
namespace Go.Proofs.YtopoklifappmcaaGreatDoor
open Go Go.Fw
abbrev bursarlaw27_text.As : Shs := (.cons (.x .s) .nil)
abbrev bursarlaw27_text.m : Back := [(false, .s)]
noncomputable abbrev bursarlaw27_text.H : HK := hk P G0 E0 J0 [] noLoops 4
theorem bursarlaw27_text.rows : TabOK P G0 (tabF []) := rows_ok (ws := []) trivial
theorem bursarlaw27_text.hok : HKOK P bursarlaw27_text.H := hk_ok e0_ok j0_ok bursarlaw27_text.rows (fun g n => noLoops_ok g n) 4
noncomputable def bursarlaw27_text.f (a : ByteArray) : Option ByteArray := (bif (decide (((a.size : Int) > (70 : Int)))) then (bif (true && (decide (((70 : Int) ≤ (a.size : Int))))) then (some (ByteArray.extract a 0 70)) else none) else (some a))
theorem bursarlaw27_text.ok : ∀ a : Vals bursarlaw27_text.As.tys, fnK P bursarlaw27_text.H (lp []) 26 bursarlaw27_text.As bursarlaw27_text.m a some = bursarlaw27_text.f a := fun a => by kernel_rfl
noncomputable abbrev bursarlaw27_text.row : Row := fnRow 26 bursarlaw27_text.As bursarlaw27_text.m bursarlaw27_text.f
theorem bursarlaw27_text.row_ok : RowOK P G0 bursarlaw27_text.row := row_told bursarlaw27_text.hok (lp_of (l := []) trivial) (fun _ => rfl) bursarlaw27_text.ok
abbrev bursarlaw27_dups.As : Shs := (.cons (.x (.l (.g (.p (.i .i64) (.p .s (.p .s (.p .s (.i .i64)))))))) .nil)
abbrev bursarlaw27_dups.m : Back := [(false, (.l (.g (.p (.i .i64) (.p .s (.p .s (.p .s (.i .i64))))))))]
noncomputable abbrev bursarlaw27_dups.H : HK := hk P G0 E0 J0 [bursarlaw27_text.row] noLoops 4
theorem bursarlaw27_dups.rows : TabOK P G0 (tabF [bursarlaw27_text.row]) := rows_ok (ws := [bursarlaw27_text.row]) ⟨bursarlaw27_text.row_ok, trivial⟩
theorem bursarlaw27_dups.hok : HKOK P bursarlaw27_dups.H := hk_ok e0_ok j0_ok bursarlaw27_dups.rows (fun g n => noLoops_ok g n) 4
noncomputable abbrev bursarlaw27_dups.sh4 : SSh := ⟨[(0, (.x (.l (.g (.p (.i .i64) (.p .s (.p .s (.p .s (.i .i64))))))))), (3, (.own 0 5)), (4, (.x (.i .i64)))], [.arrN T_api_Dup]⟩
noncomputable abbrev bursarlaw27_dups.os4 : PEnds := [((.exit 0), ⟨[(3, (.x (.l (.g (.p (.i .i64) (.p .s (.p .s (.p .s (.i .i64)))))))))], []⟩)]
noncomputable def bursarlaw27_dups.t4 (s : ((List (Int × (ByteArray × (ByteArray × (ByteArray × Int))))) × (Int × (List (Int × (ByteArray × (ByteArray × (ByteArray × Int)))))))) : Option (((List (Int × (ByteArray × (ByteArray × (ByteArray × Int))))) × (Int × (List (Int × (ByteArray × (ByteArray × (ByteArray × Int))))))) ⊕ ((List (Int × (ByteArray × (ByteArray × (ByteArray × Int))))))) := (bif (decide ((s.2.1 < ((List.length s.1) : Int)))) then (bif (decide ((s.2.1 < (101 : Int)))) then (bif ((decide (((0 : Int) ≤ s.2.1))) && (decide ((s.2.1 < ((List.length s.1) : Int))))) then (((bursarlaw27_text.f (List.getD s.1 (Int.toNat s.2.1) (Ty.dflt T_api_Dup)).2.1)).bind fun x4 => (((bursarlaw27_text.f (List.getD s.1 (Int.toNat s.2.1) (Ty.dflt T_api_Dup)).2.2.1)).bind fun x5 => (((bursarlaw27_text.f (List.getD s.1 (Int.toNat s.2.1) (Ty.dflt T_api_Dup)).2.2.2.1)).bind fun x6 => (bif ((true && (Nat.ble (((List.length s.2.2) + (List.length (((List.getD s.1 (Int.toNat s.2.1) (Ty.dflt T_api_Dup)).1, (x4, (x5, (x6, (List.getD s.1 (Int.toNat s.2.1) (Ty.dflt T_api_Dup)).2.2.2.2)))) :: []))) * 64) 140737488355328)) && (Nat.ble ((List.length s.2.2) + (List.length (((List.getD s.1 (Int.toNat s.2.1) (Ty.dflt T_api_Dup)).1, (x4, (x5, (x6, (List.getD s.1 (Int.toNat s.2.1) (Ty.dflt T_api_Dup)).2.2.2.2)))) :: []))) 140737488355328)) then (some (.inl (s.1, ((IntKind.wrap .i64 (s.2.1 + (1 : Int))), (s.2.2 ++ (((List.getD s.1 (Int.toNat s.2.1) (Ty.dflt T_api_Dup)).1, (x4, (x5, (x6, (List.getD s.1 (Int.toNat s.2.1) (Ty.dflt T_api_Dup)).2.2.2.2)))) :: [])))))) else none)))) else none) else (some (.inr s.2.2))) else (some (.inr s.2.2)))
theorem bursarlaw27_dups.t4_ok : ∀ s : Vals bursarlaw27_dups.sh4.tys, turnK P bursarlaw27_dups.H (lp []) (bodyAt (codeOf P 41) 4) 0 bursarlaw27_dups.sh4 bursarlaw27_dups.os4 s some = bursarlaw27_dups.t4 s := by rintro ⟨s0, s1, s2⟩; cases s2 <;> kernel_rfl
noncomputable def bursarlaw27_dups.l4 : ((List (Int × (ByteArray × (ByteArray × (ByteArray × Int))))) × (Int × (List (Int × (ByteArray × (ByteArray × (ByteArray × Int))))))) → Option ((List (Int × (ByteArray × (ByteArray × (ByteArray × Int)))))) := rounds bursarlaw27_dups.t4
noncomputable def bursarlaw27_dups.f (a : (List (Int × (ByteArray × (ByteArray × (ByteArray × Int)))))) : Option (List (Int × (ByteArray × (ByteArray × (ByteArray × Int))))) := (((bursarlaw27_dups.l4 (a, ((0 : Int), [])))).bind fun x1 => (some x1))
theorem bursarlaw27_dups.ok : ∀ a : Vals bursarlaw27_dups.As.tys, fnK P bursarlaw27_dups.H (lp [(4, (NodeT.summ ⟨bursarlaw27_dups.sh4, bursarlaw27_dups.os4, bursarlaw27_dups.l4⟩ 0))]) 41 bursarlaw27_dups.As bursarlaw27_dups.m a some = bursarlaw27_dups.f a := fun a => by kernel_rfl
noncomputable abbrev bursarlaw27_dups.row : Row := fnRow 41 bursarlaw27_dups.As bursarlaw27_dups.m bursarlaw27_dups.f
theorem bursarlaw27_dups.row_ok : RowOK P G0 bursarlaw27_dups.row := row_told bursarlaw27_dups.hok (lp_of (l := [(4, (NodeT.summ ⟨bursarlaw27_dups.sh4, bursarlaw27_dups.os4, bursarlaw27_dups.l4⟩ 0))]) ⟨(loop_sum bursarlaw27_dups.hok (by kernel_rfl) (by kernel_rfl) (l := []) trivial bursarlaw27_dups.sh4 bursarlaw27_dups.os4 (by kernel_rfl) bursarlaw27_dups.t4 bursarlaw27_dups.t4_ok), trivial⟩) (fun _ => rfl) bursarlaw27_dups.ok
abbrev bursarlaw27_Few.As : Shs := (.cons (.x T_api_State) .nil)
abbrev bursarlaw27_Few.m : Back := [(false, T_api_State)]
noncomputable abbrev bursarlaw27_Few.H : HK := hk P G0 E0 J0 [bursarlaw27_text.row, bursarlaw27_dups.row] noLoops 4
theorem bursarlaw27_Few.rows : TabOK P G0 (tabF [bursarlaw27_text.row, bursarlaw27_dups.row]) := rows_ok (ws := [bursarlaw27_text.row, bursarlaw27_dups.row]) ⟨bursarlaw27_text.row_ok, ⟨bursarlaw27_dups.row_ok, trivial⟩⟩
theorem bursarlaw27_Few.hok : HKOK P bursarlaw27_Few.H := hk_ok e0_ok j0_ok bursarlaw27_Few.rows (fun g n => noLoops_ok g n) 4
noncomputable abbrev bursarlaw27_Few.sh4 : SSh := ⟨[(1, (.pt 0 0)), (2, (.pt 1 0)), (3, (.pt 2 0)), (4, (.x (.i .i64)))], [.box (.cons (.x (.i .i64)) (.cons (.x (.i .i64)) (.cons (.x (.i .i64)) (.cons (.x (.l (.g (.p (.i .i64) (.p (.i .i64) (.p .s (.p .s (.p .s (.i .i64))))))))) (.cons (.x (.l (.g (.p .s (.p .s (.p .s (.p (.i .i64) (.p (.i .i64) (.p (.i .i64) .b))))))))) (.cons (.x (.l (.g (.p (.i .i64) (.p .s (.p .s (.p .s (.i .i64)))))))) (.cons (.x (.l (.g (.p (.i .i64) (.p .s (.p .s (.p .s (.i .i64)))))))) (.cons (.x (.l (.g (.p .s (.p .s (.p .s (.p (.i .i64) (.p (.i .i64) (.i .i64))))))))) .nil)))))))), .box (.cons (.x (.i .i64)) (.cons (.x (.i .i64)) (.cons (.x (.i .i64)) (.cons (.x (.l (.g (.p (.i .i64) (.p (.i .i64) (.p .s (.p .s (.p .s (.i .i64))))))))) (.cons (.x (.l (.g (.p .s (.p .s (.p .s (.p (.i .i64) (.p (.i .i64) (.p (.i .i64) .b))))))))) (.cons (.x (.l (.g (.p (.i .i64) (.p .s (.p .s (.p .s (.i .i64)))))))) (.cons (.x (.l (.g (.p (.i .i64) (.p .s (.p .s (.p .s (.i .i64)))))))) (.cons (.x (.l (.g (.p .s (.p .s (.p .s (.p (.i .i64) (.p (.i .i64) (.i .i64))))))))) .nil)))))))), .box (.cons (.x (.i .i64)) (.cons (.x (.i .i64)) (.cons (.x (.i .i64)) (.cons (.own 3 6) (.cons (.c 5) (.cons (.c 5) (.cons (.c 5) (.cons (.c 5) .nil)))))))), .arrN T_api_Post]⟩
noncomputable abbrev bursarlaw27_Few.os4 : PEnds := [((.exit 0), ⟨[(1, (.pt 0 0)), (2, (.pt 1 0)), (3, (.pt 2 0))], [.box (.cons (.x (.i .i64)) (.cons (.x (.i .i64)) (.cons (.x (.i .i64)) (.cons (.x (.l (.g (.p (.i .i64) (.p (.i .i64) (.p .s (.p .s (.p .s (.i .i64))))))))) (.cons (.x (.l (.g (.p .s (.p .s (.p .s (.p (.i .i64) (.p (.i .i64) (.p (.i .i64) .b))))))))) (.cons (.x (.l (.g (.p (.i .i64) (.p .s (.p .s (.p .s (.i .i64)))))))) (.cons (.x (.l (.g (.p (.i .i64) (.p .s (.p .s (.p .s (.i .i64)))))))) (.cons (.x (.l (.g (.p .s (.p .s (.p .s (.p (.i .i64) (.p (.i .i64) (.i .i64))))))))) .nil)))))))), .box (.cons (.x (.i .i64)) (.cons (.x (.i .i64)) (.cons (.x (.i .i64)) (.cons (.x (.l (.g (.p (.i .i64) (.p (.i .i64) (.p .s (.p .s (.p .s (.i .i64))))))))) (.cons (.x (.l (.g (.p .s (.p .s (.p .s (.p (.i .i64) (.p (.i .i64) (.p (.i .i64) .b))))))))) (.cons (.x (.l (.g (.p (.i .i64) (.p .s (.p .s (.p .s (.i .i64)))))))) (.cons (.x (.l (.g (.p (.i .i64) (.p .s (.p .s (.p .s (.i .i64)))))))) (.cons (.x (.l (.g (.p .s (.p .s (.p .s (.p (.i .i64) (.p (.i .i64) (.i .i64))))))))) .nil)))))))), .box (.cons (.x (.i .i64)) (.cons (.x (.i .i64)) (.cons (.x (.i .i64)) (.cons (.own 3 6) (.cons (.c 5) (.cons (.c 5) (.cons (.c 5) (.cons (.c 5) .nil)))))))), .arrN T_api_Post]⟩)]
noncomputable def bursarlaw27_Few.t4 (s : (Int × (Int × (Int × (Int × ((List (Int × (Int × (ByteArray × (ByteArray × (ByteArray × Int)))))) × ((List (ByteArray × (ByteArray × (ByteArray × (Int × (Int × (Int × Bool))))))) × ((List (Int × (ByteArray × (ByteArray × (ByteArray × Int))))) × ((List (Int × (ByteArray × (ByteArray × (ByteArray × Int))))) × ((List (ByteArray × (ByteArray × (ByteArray × (Int × (Int × Int)))))) × (Int × (Int × (Int × ((List (Int × (Int × (ByteArray × (ByteArray × (ByteArray × Int)))))) × ((List (ByteArray × (ByteArray × (ByteArray × (Int × (Int × (Int × Bool))))))) × ((List (Int × (ByteArray × (ByteArray × (ByteArray × Int))))) × ((List (Int × (ByteArray × (ByteArray × (ByteArray × Int))))) × ((List (ByteArray × (ByteArray × (ByteArray × (Int × (Int × Int)))))) × (Int × (Int × (Int × (List (Int × (Int × (ByteArray × (ByteArray × (ByteArray × Int))))))))))))))))))))))))))) : Option ((Int × (Int × (Int × (Int × ((List (Int × (Int × (ByteArray × (ByteArray × (ByteArray × Int)))))) × ((List (ByteArray × (ByteArray × (ByteArray × (Int × (Int × (Int × Bool))))))) × ((List (Int × (ByteArray × (ByteArray × (ByteArray × Int))))) × ((List (Int × (ByteArray × (ByteArray × (ByteArray × Int))))) × ((List (ByteArray × (ByteArray × (ByteArray × (Int × (Int × Int)))))) × (Int × (Int × (Int × ((List (Int × (Int × (ByteArray × (ByteArray × (ByteArray × Int)))))) × ((List (ByteArray × (ByteArray × (ByteArray × (Int × (Int × (Int × Bool))))))) × ((List (Int × (ByteArray × (ByteArray × (ByteArray × Int))))) × ((List (Int × (ByteArray × (ByteArray × (ByteArray × Int))))) × ((List (ByteArray × (ByteArray × (ByteArray × (Int × (Int × Int)))))) × (Int × (Int × (Int × (List (Int × (Int × (ByteArray × (ByteArray × (ByteArray × Int)))))))))))))))))))))))))) ⊕ ((Int × (Int × (Int × ((List (Int × (Int × (ByteArray × (ByteArray × (ByteArray × Int)))))) × ((List (ByteArray × (ByteArray × (ByteArray × (Int × (Int × (Int × Bool))))))) × ((List (Int × (ByteArray × (ByteArray × (ByteArray × Int))))) × ((List (Int × (ByteArray × (ByteArray × (ByteArray × Int))))) × ((List (ByteArray × (ByteArray × (ByteArray × (Int × (Int × Int)))))) × (Int × (Int × (Int × ((List (Int × (Int × (ByteArray × (ByteArray × (ByteArray × Int)))))) × ((List (ByteArray × (ByteArray × (ByteArray × (Int × (Int × (Int × Bool))))))) × ((List (Int × (ByteArray × (ByteArray × (ByteArray × Int))))) × ((List (Int × (ByteArray × (ByteArray × (ByteArray × Int))))) × ((List (ByteArray × (ByteArray × (ByteArray × (Int × (Int × Int)))))) × (Int × (Int × (Int × (List (Int × (Int × (ByteArray × (ByteArray × (ByteArray × Int))))))))))))))))))))))))))) := match s with | (s0, s1, s2, s3, s4, s5, s6, s7, s8, s9, s10, s11, s12, s13, s14, s15, s16, s17, s18, s19, s20) => (bif (decide ((s0 < ((List.length s4) : Int)))) then (bif (decide ((s0 < (401 : Int)))) then (bif ((decide (((0 : Int) ≤ s0))) && (decide ((s0 < ((List.length s4) : Int))))) then (((bursarlaw27_text.f (List.getD s4 (Int.toNat s0) (Ty.dflt T_api_Post)).2.2.1)).bind fun x22 => (((bursarlaw27_text.f (List.getD s4 (Int.toNat s0) (Ty.dflt T_api_Post)).2.2.2.1)).bind fun x23 => (((bursarlaw27_text.f (List.getD s4 (Int.toNat s0) (Ty.dflt T_api_Post)).2.2.2.2.1)).bind fun x24 => (bif ((true && (Nat.ble (((List.length s20) + (List.length (((List.getD s4 (Int.toNat s0) (Ty.dflt T_api_Post)).1, ((List.getD s4 (Int.toNat s0) (Ty.dflt T_api_Post)).2.1, (x22, (x23, (x24, (List.getD s4 (Int.toNat s0) (Ty.dflt T_api_Post)).2.2.2.2.2))))) :: []))) * 72) 140737488355328)) && (Nat.ble ((List.length s20) + (List.length (((List.getD s4 (Int.toNat s0) (Ty.dflt T_api_Post)).1, ((List.getD s4 (Int.toNat s0) (Ty.dflt T_api_Post)).2.1, (x22, (x23, (x24, (List.getD s4 (Int.toNat s0) (Ty.dflt T_api_Post)).2.2.2.2.2))))) :: []))) 140737488355328)) then (some (.inl ((IntKind.wrap .i64 (s0 + (1 : Int))), (s1, (s2, (s3, (s4, (s5, (s6, (s7, (s8, (s9, (s10, (s11, (s12, (s13, (s14, (s15, (s16, (s17, (s18, (s19, (s20 ++ (((List.getD s4 (Int.toNat s0) (Ty.dflt T_api_Post)).1, ((List.getD s4 (Int.toNat s0) (Ty.dflt T_api_Post)).2.1, (x22, (x23, (x24, (List.getD s4 (Int.toNat s0) (Ty.dflt T_api_Post)).2.2.2.2.2))))) :: [])))))))))))))))))))))))) else none)))) else none) else (some (.inr (s1, (s2, (s3, (s4, (s5, (s6, (s7, (s8, (s9, (s10, (s11, (s12, (s13, (s14, (s15, (s16, (s17, (s18, (s19, s20)))))))))))))))))))))) else (some (.inr (s1, (s2, (s3, (s4, (s5, (s6, (s7, (s8, (s9, (s10, (s11, (s12, (s13, (s14, (s15, (s16, (s17, (s18, (s19, s20))))))))))))))))))))))
theorem bursarlaw27_Few.t4_ok : ∀ s : Vals bursarlaw27_Few.sh4.tys, turnK P bursarlaw27_Few.H (lp []) (bodyAt (codeOf P 18) 4) 0 bursarlaw27_Few.sh4 bursarlaw27_Few.os4 s some = bursarlaw27_Few.t4 s := by rintro ⟨s0, s1, s2, s3, s4, s5, s6, s7, s8, s9, s10, s11, s12, s13, s14, s15, s16, s17, s18, s19, s20⟩; cases s20 <;> kernel_rfl
noncomputable def bursarlaw27_Few.l4 : (Int × (Int × (Int × (Int × ((List (Int × (Int × (ByteArray × (ByteArray × (ByteArray × Int)))))) × ((List (ByteArray × (ByteArray × (ByteArray × (Int × (Int × (Int × Bool))))))) × ((List (Int × (ByteArray × (ByteArray × (ByteArray × Int))))) × ((List (Int × (ByteArray × (ByteArray × (ByteArray × Int))))) × ((List (ByteArray × (ByteArray × (ByteArray × (Int × (Int × Int)))))) × (Int × (Int × (Int × ((List (Int × (Int × (ByteArray × (ByteArray × (ByteArray × Int)))))) × ((List (ByteArray × (ByteArray × (ByteArray × (Int × (Int × (Int × Bool))))))) × ((List (Int × (ByteArray × (ByteArray × (ByteArray × Int))))) × ((List (Int × (ByteArray × (ByteArray × (ByteArray × Int))))) × ((List (ByteArray × (ByteArray × (ByteArray × (Int × (Int × Int)))))) × (Int × (Int × (Int × (List (Int × (Int × (ByteArray × (ByteArray × (ByteArray × Int)))))))))))))))))))))))))) → Option ((Int × (Int × (Int × ((List (Int × (Int × (ByteArray × (ByteArray × (ByteArray × Int)))))) × ((List (ByteArray × (ByteArray × (ByteArray × (Int × (Int × (Int × Bool))))))) × ((List (Int × (ByteArray × (ByteArray × (ByteArray × Int))))) × ((List (Int × (ByteArray × (ByteArray × (ByteArray × Int))))) × ((List (ByteArray × (ByteArray × (ByteArray × (Int × (Int × Int)))))) × (Int × (Int × (Int × ((List (Int × (Int × (ByteArray × (ByteArray × (ByteArray × Int)))))) × ((List (ByteArray × (ByteArray × (ByteArray × (Int × (Int × (Int × Bool))))))) × ((List (Int × (ByteArray × (ByteArray × (ByteArray × Int))))) × ((List (Int × (ByteArray × (ByteArray × (ByteArray × Int))))) × ((List (ByteArray × (ByteArray × (ByteArray × (Int × (Int × Int)))))) × (Int × (Int × (Int × (List (Int × (Int × (ByteArray × (ByteArray × (ByteArray × Int)))))))))))))))))))))))))) := rounds bursarlaw27_Few.t4
noncomputable abbrev bursarlaw27_Few.sh7 : SSh := ⟨[(1, (.pt 0 0)), (2, (.pt 1 0)), (3, (.pt 2 0)), (6, (.x (.i .i64)))], [.box (.cons (.x (.i .i64)) (.cons (.x (.i .i64)) (.cons (.x (.i .i64)) (.cons (.x (.l (.g (.p (.i .i64) (.p (.i .i64) (.p .s (.p .s (.p .s (.i .i64))))))))) (.cons (.x (.l (.g (.p .s (.p .s (.p .s (.p (.i .i64) (.p (.i .i64) (.p (.i .i64) .b))))))))) (.cons (.x (.l (.g (.p (.i .i64) (.p .s (.p .s (.p .s (.i .i64)))))))) (.cons (.x (.l (.g (.p (.i .i64) (.p .s (.p .s (.p .s (.i .i64)))))))) (.cons (.x (.l (.g (.p .s (.p .s (.p .s (.p (.i .i64) (.p (.i .i64) (.i .i64))))))))) .nil)))))))), .box (.cons (.x (.i .i64)) (.cons (.x (.i .i64)) (.cons (.x (.i .i64)) (.cons (.x (.l (.g (.p (.i .i64) (.p (.i .i64) (.p .s (.p .s (.p .s (.i .i64))))))))) (.cons (.x (.l (.g (.p .s (.p .s (.p .s (.p (.i .i64) (.p (.i .i64) (.p (.i .i64) .b))))))))) (.cons (.x (.l (.g (.p (.i .i64) (.p .s (.p .s (.p .s (.i .i64)))))))) (.cons (.x (.l (.g (.p (.i .i64) (.p .s (.p .s (.p .s (.i .i64)))))))) (.cons (.x (.l (.g (.p .s (.p .s (.p .s (.p (.i .i64) (.p (.i .i64) (.i .i64))))))))) .nil)))))))), .box (.cons (.x (.i .i64)) (.cons (.x (.i .i64)) (.cons (.x (.i .i64)) (.cons (.x (.l (.g (.p (.i .i64) (.p (.i .i64) (.p .s (.p .s (.p .s (.i .i64))))))))) (.cons (.own 3 7) (.cons (.c 5) (.cons (.c 5) (.cons (.c 5) .nil)))))))), .arrN T_api_Hold]⟩
noncomputable abbrev bursarlaw27_Few.os7 : PEnds := [((.exit 2), ⟨[(1, (.pt 0 0)), (2, (.pt 1 0)), (3, (.pt 2 0))], [.box (.cons (.x (.i .i64)) (.cons (.x (.i .i64)) (.cons (.x (.i .i64)) (.cons (.x (.l (.g (.p (.i .i64) (.p (.i .i64) (.p .s (.p .s (.p .s (.i .i64))))))))) (.cons (.x (.l (.g (.p .s (.p .s (.p .s (.p (.i .i64) (.p (.i .i64) (.p (.i .i64) .b))))))))) (.cons (.x (.l (.g (.p (.i .i64) (.p .s (.p .s (.p .s (.i .i64)))))))) (.cons (.x (.l (.g (.p (.i .i64) (.p .s (.p .s (.p .s (.i .i64)))))))) (.cons (.x (.l (.g (.p .s (.p .s (.p .s (.p (.i .i64) (.p (.i .i64) (.i .i64))))))))) .nil)))))))), .box (.cons (.x (.i .i64)) (.cons (.x (.i .i64)) (.cons (.x (.i .i64)) (.cons (.x (.l (.g (.p (.i .i64) (.p (.i .i64) (.p .s (.p .s (.p .s (.i .i64))))))))) (.cons (.x (.l (.g (.p .s (.p .s (.p .s (.p (.i .i64) (.p (.i .i64) (.p (.i .i64) .b))))))))) (.cons (.x (.l (.g (.p (.i .i64) (.p .s (.p .s (.p .s (.i .i64)))))))) (.cons (.x (.l (.g (.p (.i .i64) (.p .s (.p .s (.p .s (.i .i64)))))))) (.cons (.x (.l (.g (.p .s (.p .s (.p .s (.p (.i .i64) (.p (.i .i64) (.i .i64))))))))) .nil)))))))), .box (.cons (.x (.i .i64)) (.cons (.x (.i .i64)) (.cons (.x (.i .i64)) (.cons (.x (.l (.g (.p (.i .i64) (.p (.i .i64) (.p .s (.p .s (.p .s (.i .i64))))))))) (.cons (.own 3 7) (.cons (.c 5) (.cons (.c 5) (.cons (.c 5) .nil)))))))), .arrN T_api_Hold]⟩)]
noncomputable def bursarlaw27_Few.t7 (s : (Int × (Int × (Int × (Int × ((List (Int × (Int × (ByteArray × (ByteArray × (ByteArray × Int)))))) × ((List (ByteArray × (ByteArray × (ByteArray × (Int × (Int × (Int × Bool))))))) × ((List (Int × (ByteArray × (ByteArray × (ByteArray × Int))))) × ((List (Int × (ByteArray × (ByteArray × (ByteArray × Int))))) × ((List (ByteArray × (ByteArray × (ByteArray × (Int × (Int × Int)))))) × (Int × (Int × (Int × ((List (Int × (Int × (ByteArray × (ByteArray × (ByteArray × Int)))))) × ((List (ByteArray × (ByteArray × (ByteArray × (Int × (Int × (Int × Bool))))))) × ((List (Int × (ByteArray × (ByteArray × (ByteArray × Int))))) × ((List (Int × (ByteArray × (ByteArray × (ByteArray × Int))))) × ((List (ByteArray × (ByteArray × (ByteArray × (Int × (Int × Int)))))) × (Int × (Int × (Int × ((List (Int × (Int × (ByteArray × (ByteArray × (ByteArray × Int)))))) × (List (ByteArray × (ByteArray × (ByteArray × (Int × (Int × (Int × Bool))))))))))))))))))))))))))))) : Option ((Int × (Int × (Int × (Int × ((List (Int × (Int × (ByteArray × (ByteArray × (ByteArray × Int)))))) × ((List (ByteArray × (ByteArray × (ByteArray × (Int × (Int × (Int × Bool))))))) × ((List (Int × (ByteArray × (ByteArray × (ByteArray × Int))))) × ((List (Int × (ByteArray × (ByteArray × (ByteArray × Int))))) × ((List (ByteArray × (ByteArray × (ByteArray × (Int × (Int × Int)))))) × (Int × (Int × (Int × ((List (Int × (Int × (ByteArray × (ByteArray × (ByteArray × Int)))))) × ((List (ByteArray × (ByteArray × (ByteArray × (Int × (Int × (Int × Bool))))))) × ((List (Int × (ByteArray × (ByteArray × (ByteArray × Int))))) × ((List (Int × (ByteArray × (ByteArray × (ByteArray × Int))))) × ((List (ByteArray × (ByteArray × (ByteArray × (Int × (Int × Int)))))) × (Int × (Int × (Int × ((List (Int × (Int × (ByteArray × (ByteArray × (ByteArray × Int)))))) × (List (ByteArray × (ByteArray × (ByteArray × (Int × (Int × (Int × Bool)))))))))))))))))))))))))))) ⊕ ((Int × (Int × (Int × ((List (Int × (Int × (ByteArray × (ByteArray × (ByteArray × Int)))))) × ((List (ByteArray × (ByteArray × (ByteArray × (Int × (Int × (Int × Bool))))))) × ((List (Int × (ByteArray × (ByteArray × (ByteArray × Int))))) × ((List (Int × (ByteArray × (ByteArray × (ByteArray × Int))))) × ((List (ByteArray × (ByteArray × (ByteArray × (Int × (Int × Int)))))) × (Int × (Int × (Int × ((List (Int × (Int × (ByteArray × (ByteArray × (ByteArray × Int)))))) × ((List (ByteArray × (ByteArray × (ByteArray × (Int × (Int × (Int × Bool))))))) × ((List (Int × (ByteArray × (ByteArray × (ByteArray × Int))))) × ((List (Int × (ByteArray × (ByteArray × (ByteArray × Int))))) × ((List (ByteArray × (ByteArray × (ByteArray × (Int × (Int × Int)))))) × (Int × (Int × (Int × ((List (Int × (Int × (ByteArray × (ByteArray × (ByteArray × Int)))))) × (List (ByteArray × (ByteArray × (ByteArray × (Int × (Int × (Int × Bool))))))))))))))))))))))))))))) := match s with | (s0, s1, s2, s3, s4, s5, s6, s7, s8, s9, s10, s11, s12, s13, s14, s15, s16, s17, s18, s19, s20, s21) => (bif (decide ((s0 < ((List.length s5) : Int)))) then (bif (decide ((s0 < (151 : Int)))) then (bif ((decide (((0 : Int) ≤ s0))) && (decide ((s0 < ((List.length s5) : Int))))) then (((bursarlaw27_text.f (List.getD s5 (Int.toNat s0) (Ty.dflt T_api_Hold)).2.2.1)).bind fun x23 => (((bursarlaw27_text.f (List.getD s5 (Int.toNat s0) (Ty.dflt T_api_Hold)).2.1)).bind fun x24 => (((bursarlaw27_text.f (List.getD s5 (Int.toNat s0) (Ty.dflt T_api_Hold)).1)).bind fun x25 => (bif ((true && (Nat.ble (((List.length s21) + (List.length ((x25, (x24, (x23, (List.getD s5 (Int.toNat s0) (Ty.dflt T_api_Hold)).2.2.2))) :: []))) * 80) 140737488355328)) && (Nat.ble ((List.length s21) + (List.length ((x25, (x24, (x23, (List.getD s5 (Int.toNat s0) (Ty.dflt T_api_Hold)).2.2.2))) :: []))) 140737488355328)) then (some (.inl ((IntKind.wrap .i64 (s0 + (1 : Int))), (s1, (s2, (s3, (s4, (s5, (s6, (s7, (s8, (s9, (s10, (s11, (s12, (s13, (s14, (s15, (s16, (s17, (s18, (s19, (s20, (s21 ++ ((x25, (x24, (x23, (List.getD s5 (Int.toNat s0) (Ty.dflt T_api_Hold)).2.2.2))) :: []))))))))))))))))))))))))) else none)))) else none) else (some (.inr (s1, (s2, (s3, (s4, (s5, (s6, (s7, (s8, (s9, (s10, (s11, (s12, (s13, (s14, (s15, (s16, (s17, (s18, (s19, (s20, s21))))))))))))))))))))))) else (some (.inr (s1, (s2, (s3, (s4, (s5, (s6, (s7, (s8, (s9, (s10, (s11, (s12, (s13, (s14, (s15, (s16, (s17, (s18, (s19, (s20, s21)))))))))))))))))))))))
theorem bursarlaw27_Few.t7_ok : ∀ s : Vals bursarlaw27_Few.sh7.tys, turnK P bursarlaw27_Few.H (lp []) (bodyAt (codeOf P 18) 7) 0 bursarlaw27_Few.sh7 bursarlaw27_Few.os7 s some = bursarlaw27_Few.t7 s := by rintro ⟨s0, s1, s2, s3, s4, s5, s6, s7, s8, s9, s10, s11, s12, s13, s14, s15, s16, s17, s18, s19, s20, s21⟩; cases s21 <;> kernel_rfl
noncomputable def bursarlaw27_Few.l7 : (Int × (Int × (Int × (Int × ((List (Int × (Int × (ByteArray × (ByteArray × (ByteArray × Int)))))) × ((List (ByteArray × (ByteArray × (ByteArray × (Int × (Int × (Int × Bool))))))) × ((List (Int × (ByteArray × (ByteArray × (ByteArray × Int))))) × ((List (Int × (ByteArray × (ByteArray × (ByteArray × Int))))) × ((List (ByteArray × (ByteArray × (ByteArray × (Int × (Int × Int)))))) × (Int × (Int × (Int × ((List (Int × (Int × (ByteArray × (ByteArray × (ByteArray × Int)))))) × ((List (ByteArray × (ByteArray × (ByteArray × (Int × (Int × (Int × Bool))))))) × ((List (Int × (ByteArray × (ByteArray × (ByteArray × Int))))) × ((List (Int × (ByteArray × (ByteArray × (ByteArray × Int))))) × ((List (ByteArray × (ByteArray × (ByteArray × (Int × (Int × Int)))))) × (Int × (Int × (Int × ((List (Int × (Int × (ByteArray × (ByteArray × (ByteArray × Int)))))) × (List (ByteArray × (ByteArray × (ByteArray × (Int × (Int × (Int × Bool)))))))))))))))))))))))))))) → Option ((Int × (Int × (Int × ((List (Int × (Int × (ByteArray × (ByteArray × (ByteArray × Int)))))) × ((List (ByteArray × (ByteArray × (ByteArray × (Int × (Int × (Int × Bool))))))) × ((List (Int × (ByteArray × (ByteArray × (ByteArray × Int))))) × ((List (Int × (ByteArray × (ByteArray × (ByteArray × Int))))) × ((List (ByteArray × (ByteArray × (ByteArray × (Int × (Int × Int)))))) × (Int × (Int × (Int × ((List (Int × (Int × (ByteArray × (ByteArray × (ByteArray × Int)))))) × ((List (ByteArray × (ByteArray × (ByteArray × (Int × (Int × (Int × Bool))))))) × ((List (Int × (ByteArray × (ByteArray × (ByteArray × Int))))) × ((List (Int × (ByteArray × (ByteArray × (ByteArray × Int))))) × ((List (ByteArray × (ByteArray × (ByteArray × (Int × (Int × Int)))))) × (Int × (Int × (Int × ((List (Int × (Int × (ByteArray × (ByteArray × (ByteArray × Int)))))) × (List (ByteArray × (ByteArray × (ByteArray × (Int × (Int × (Int × Bool)))))))))))))))))))))))))))) := rounds bursarlaw27_Few.t7
noncomputable abbrev bursarlaw27_Few.sh10 : SSh := ⟨[(1, (.pt 0 0)), (2, (.pt 1 0)), (3, (.pt 2 0)), (8, (.x (.i .i64)))], [.box (.cons (.x (.i .i64)) (.cons (.x (.i .i64)) (.cons (.x (.i .i64)) (.cons (.x (.l (.g (.p (.i .i64) (.p (.i .i64) (.p .s (.p .s (.p .s (.i .i64))))))))) (.cons (.x (.l (.g (.p .s (.p .s (.p .s (.p (.i .i64) (.p (.i .i64) (.p (.i .i64) .b))))))))) (.cons (.x (.l (.g (.p (.i .i64) (.p .s (.p .s (.p .s (.i .i64)))))))) (.cons (.x (.l (.g (.p (.i .i64) (.p .s (.p .s (.p .s (.i .i64)))))))) (.cons (.x (.l (.g (.p .s (.p .s (.p .s (.p (.i .i64) (.p (.i .i64) (.i .i64))))))))) .nil)))))))), .box (.cons (.x (.i .i64)) (.cons (.x (.i .i64)) (.cons (.x (.i .i64)) (.cons (.x (.l (.g (.p (.i .i64) (.p (.i .i64) (.p .s (.p .s (.p .s (.i .i64))))))))) (.cons (.x (.l (.g (.p .s (.p .s (.p .s (.p (.i .i64) (.p (.i .i64) (.p (.i .i64) .b))))))))) (.cons (.x (.l (.g (.p (.i .i64) (.p .s (.p .s (.p .s (.i .i64)))))))) (.cons (.x (.l (.g (.p (.i .i64) (.p .s (.p .s (.p .s (.i .i64)))))))) (.cons (.x (.l (.g (.p .s (.p .s (.p .s (.p (.i .i64) (.p (.i .i64) (.i .i64))))))))) .nil)))))))), .box (.cons (.x (.i .i64)) (.cons (.x (.i .i64)) (.cons (.x (.i .i64)) (.cons (.x (.l (.g (.p (.i .i64) (.p (.i .i64) (.p .s (.p .s (.p .s (.i .i64))))))))) (.cons (.x (.l (.g (.p .s (.p .s (.p .s (.p (.i .i64) (.p (.i .i64) (.p (.i .i64) .b))))))))) (.cons (.c 5) (.cons (.c 5) (.cons (.own 3 6) .nil)))))))), .arrN T_api_Claim]⟩
noncomputable abbrev bursarlaw27_Few.os10 : PEnds := [((.exit 4), ⟨[(1, (.pt 0 0)), (2, (.pt 1 0)), (3, (.pt 2 0))], [.box (.cons (.x (.i .i64)) (.cons (.x (.i .i64)) (.cons (.x (.i .i64)) (.cons (.x (.l (.g (.p (.i .i64) (.p (.i .i64) (.p .s (.p .s (.p .s (.i .i64))))))))) (.cons (.x (.l (.g (.p .s (.p .s (.p .s (.p (.i .i64) (.p (.i .i64) (.p (.i .i64) .b))))))))) (.cons (.x (.l (.g (.p (.i .i64) (.p .s (.p .s (.p .s (.i .i64)))))))) (.cons (.x (.l (.g (.p (.i .i64) (.p .s (.p .s (.p .s (.i .i64)))))))) (.cons (.x (.l (.g (.p .s (.p .s (.p .s (.p (.i .i64) (.p (.i .i64) (.i .i64))))))))) .nil)))))))), .box (.cons (.x (.i .i64)) (.cons (.x (.i .i64)) (.cons (.x (.i .i64)) (.cons (.x (.l (.g (.p (.i .i64) (.p (.i .i64) (.p .s (.p .s (.p .s (.i .i64))))))))) (.cons (.x (.l (.g (.p .s (.p .s (.p .s (.p (.i .i64) (.p (.i .i64) (.p (.i .i64) .b))))))))) (.cons (.x (.l (.g (.p (.i .i64) (.p .s (.p .s (.p .s (.i .i64)))))))) (.cons (.x (.l (.g (.p (.i .i64) (.p .s (.p .s (.p .s (.i .i64)))))))) (.cons (.x (.l (.g (.p .s (.p .s (.p .s (.p (.i .i64) (.p (.i .i64) (.i .i64))))))))) .nil)))))))), .box (.cons (.x (.i .i64)) (.cons (.x (.i .i64)) (.cons (.x (.i .i64)) (.cons (.x (.l (.g (.p (.i .i64) (.p (.i .i64) (.p .s (.p .s (.p .s (.i .i64))))))))) (.cons (.x (.l (.g (.p .s (.p .s (.p .s (.p (.i .i64) (.p (.i .i64) (.p (.i .i64) .b))))))))) (.cons (.c 5) (.cons (.c 5) (.cons (.own 3 6) .nil)))))))), .arrN T_api_Claim]⟩)]
noncomputable def bursarlaw27_Few.t10 (s : (Int × (Int × (Int × (Int × ((List (Int × (Int × (ByteArray × (ByteArray × (ByteArray × Int)))))) × ((List (ByteArray × (ByteArray × (ByteArray × (Int × (Int × (Int × Bool))))))) × ((List (Int × (ByteArray × (ByteArray × (ByteArray × Int))))) × ((List (Int × (ByteArray × (ByteArray × (ByteArray × Int))))) × ((List (ByteArray × (ByteArray × (ByteArray × (Int × (Int × Int)))))) × (Int × (Int × (Int × ((List (Int × (Int × (ByteArray × (ByteArray × (ByteArray × Int)))))) × ((List (ByteArray × (ByteArray × (ByteArray × (Int × (Int × (Int × Bool))))))) × ((List (Int × (ByteArray × (ByteArray × (ByteArray × Int))))) × ((List (Int × (ByteArray × (ByteArray × (ByteArray × Int))))) × ((List (ByteArray × (ByteArray × (ByteArray × (Int × (Int × Int)))))) × (Int × (Int × (Int × ((List (Int × (Int × (ByteArray × (ByteArray × (ByteArray × Int)))))) × ((List (ByteArray × (ByteArray × (ByteArray × (Int × (Int × (Int × Bool))))))) × (List (ByteArray × (ByteArray × (ByteArray × (Int × (Int × Int))))))))))))))))))))))))))))) : Option ((Int × (Int × (Int × (Int × ((List (Int × (Int × (ByteArray × (ByteArray × (ByteArray × Int)))))) × ((List (ByteArray × (ByteArray × (ByteArray × (Int × (Int × (Int × Bool))))))) × ((List (Int × (ByteArray × (ByteArray × (ByteArray × Int))))) × ((List (Int × (ByteArray × (ByteArray × (ByteArray × Int))))) × ((List (ByteArray × (ByteArray × (ByteArray × (Int × (Int × Int)))))) × (Int × (Int × (Int × ((List (Int × (Int × (ByteArray × (ByteArray × (ByteArray × Int)))))) × ((List (ByteArray × (ByteArray × (ByteArray × (Int × (Int × (Int × Bool))))))) × ((List (Int × (ByteArray × (ByteArray × (ByteArray × Int))))) × ((List (Int × (ByteArray × (ByteArray × (ByteArray × Int))))) × ((List (ByteArray × (ByteArray × (ByteArray × (Int × (Int × Int)))))) × (Int × (Int × (Int × ((List (Int × (Int × (ByteArray × (ByteArray × (ByteArray × Int)))))) × ((List (ByteArray × (ByteArray × (ByteArray × (Int × (Int × (Int × Bool))))))) × (List (ByteArray × (ByteArray × (ByteArray × (Int × (Int × Int)))))))))))))))))))))))))))) ⊕ ((Int × (Int × (Int × ((List (Int × (Int × (ByteArray × (ByteArray × (ByteArray × Int)))))) × ((List (ByteArray × (ByteArray × (ByteArray × (Int × (Int × (Int × Bool))))))) × ((List (Int × (ByteArray × (ByteArray × (ByteArray × Int))))) × ((List (Int × (ByteArray × (ByteArray × (ByteArray × Int))))) × ((List (ByteArray × (ByteArray × (ByteArray × (Int × (Int × Int)))))) × (Int × (Int × (Int × ((List (Int × (Int × (ByteArray × (ByteArray × (ByteArray × Int)))))) × ((List (ByteArray × (ByteArray × (ByteArray × (Int × (Int × (Int × Bool))))))) × ((List (Int × (ByteArray × (ByteArray × (ByteArray × Int))))) × ((List (Int × (ByteArray × (ByteArray × (ByteArray × Int))))) × ((List (ByteArray × (ByteArray × (ByteArray × (Int × (Int × Int)))))) × (Int × (Int × (Int × ((List (Int × (Int × (ByteArray × (ByteArray × (ByteArray × Int)))))) × ((List (ByteArray × (ByteArray × (ByteArray × (Int × (Int × (Int × Bool))))))) × (List (ByteArray × (ByteArray × (ByteArray × (Int × (Int × Int))))))))))))))))))))))))))))) := match s with | (s0, s1, s2, s3, s4, s5, s6, s7, s8, s9, s10, s11, s12, s13, s14, s15, s16, s17, s18, s19, s20, s21, s22) => (bif (decide ((s0 < ((List.length s8) : Int)))) then (bif (decide ((s0 < (151 : Int)))) then (bif ((decide (((0 : Int) ≤ s0))) && (decide ((s0 < ((List.length s8) : Int))))) then (((bursarlaw27_text.f (List.getD s8 (Int.toNat s0) (Ty.dflt T_api_Claim)).2.2.1)).bind fun x24 => (((bursarlaw27_text.f (List.getD s8 (Int.toNat s0) (Ty.dflt T_api_Claim)).2.1)).bind fun x25 => (((bursarlaw27_text.f (List.getD s8 (Int.toNat s0) (Ty.dflt T_api_Claim)).1)).bind fun x26 => (bif ((true && (Nat.ble (((List.length s22) + (List.length ((x26, (x25, (x24, (List.getD s8 (Int.toNat s0) (Ty.dflt T_api_Claim)).2.2.2))) :: []))) * 72) 140737488355328)) && (Nat.ble ((List.length s22) + (List.length ((x26, (x25, (x24, (List.getD s8 (Int.toNat s0) (Ty.dflt T_api_Claim)).2.2.2))) :: []))) 140737488355328)) then (some (.inl ((IntKind.wrap .i64 (s0 + (1 : Int))), (s1, (s2, (s3, (s4, (s5, (s6, (s7, (s8, (s9, (s10, (s11, (s12, (s13, (s14, (s15, (s16, (s17, (s18, (s19, (s20, (s21, (s22 ++ ((x26, (x25, (x24, (List.getD s8 (Int.toNat s0) (Ty.dflt T_api_Claim)).2.2.2))) :: [])))))))))))))))))))))))))) else none)))) else none) else (some (.inr (s1, (s2, (s3, (s4, (s5, (s6, (s7, (s8, (s9, (s10, (s11, (s12, (s13, (s14, (s15, (s16, (s17, (s18, (s19, (s20, (s21, s22)))))))))))))))))))))))) else (some (.inr (s1, (s2, (s3, (s4, (s5, (s6, (s7, (s8, (s9, (s10, (s11, (s12, (s13, (s14, (s15, (s16, (s17, (s18, (s19, (s20, (s21, s22))))))))))))))))))))))))
theorem bursarlaw27_Few.t10_ok : ∀ s : Vals bursarlaw27_Few.sh10.tys, turnK P bursarlaw27_Few.H (lp []) (bodyAt (codeOf P 18) 10) 0 bursarlaw27_Few.sh10 bursarlaw27_Few.os10 s some = bursarlaw27_Few.t10 s := by rintro ⟨s0, s1, s2, s3, s4, s5, s6, s7, s8, s9, s10, s11, s12, s13, s14, s15, s16, s17, s18, s19, s20, s21, s22⟩; cases s22 <;> kernel_rfl
noncomputable def bursarlaw27_Few.l10 : (Int × (Int × (Int × (Int × ((List (Int × (Int × (ByteArray × (ByteArray × (ByteArray × Int)))))) × ((List (ByteArray × (ByteArray × (ByteArray × (Int × (Int × (Int × Bool))))))) × ((List (Int × (ByteArray × (ByteArray × (ByteArray × Int))))) × ((List (Int × (ByteArray × (ByteArray × (ByteArray × Int))))) × ((List (ByteArray × (ByteArray × (ByteArray × (Int × (Int × Int)))))) × (Int × (Int × (Int × ((List (Int × (Int × (ByteArray × (ByteArray × (ByteArray × Int)))))) × ((List (ByteArray × (ByteArray × (ByteArray × (Int × (Int × (Int × Bool))))))) × ((List (Int × (ByteArray × (ByteArray × (ByteArray × Int))))) × ((List (Int × (ByteArray × (ByteArray × (ByteArray × Int))))) × ((List (ByteArray × (ByteArray × (ByteArray × (Int × (Int × Int)))))) × (Int × (Int × (Int × ((List (Int × (Int × (ByteArray × (ByteArray × (ByteArray × Int)))))) × ((List (ByteArray × (ByteArray × (ByteArray × (Int × (Int × (Int × Bool))))))) × (List (ByteArray × (ByteArray × (ByteArray × (Int × (Int × Int)))))))))))))))))))))))))))) → Option ((Int × (Int × (Int × ((List (Int × (Int × (ByteArray × (ByteArray × (ByteArray × Int)))))) × ((List (ByteArray × (ByteArray × (ByteArray × (Int × (Int × (Int × Bool))))))) × ((List (Int × (ByteArray × (ByteArray × (ByteArray × Int))))) × ((List (Int × (ByteArray × (ByteArray × (ByteArray × Int))))) × ((List (ByteArray × (ByteArray × (ByteArray × (Int × (Int × Int)))))) × (Int × (Int × (Int × ((List (Int × (Int × (ByteArray × (ByteArray × (ByteArray × Int)))))) × ((List (ByteArray × (ByteArray × (ByteArray × (Int × (Int × (Int × Bool))))))) × ((List (Int × (ByteArray × (ByteArray × (ByteArray × Int))))) × ((List (Int × (ByteArray × (ByteArray × (ByteArray × Int))))) × ((List (ByteArray × (ByteArray × (ByteArray × (Int × (Int × Int)))))) × (Int × (Int × (Int × ((List (Int × (Int × (ByteArray × (ByteArray × (ByteArray × Int)))))) × ((List (ByteArray × (ByteArray × (ByteArray × (Int × (Int × (Int × Bool))))))) × (List (ByteArray × (ByteArray × (ByteArray × (Int × (Int × Int)))))))))))))))))))))))))))) := rounds bursarlaw27_Few.t10
noncomputable def bursarlaw27_Few.f (a : (Int × (Int × (Int × ((List (Int × (Int × (ByteArray × (ByteArray × (ByteArray × Int)))))) × ((List (ByteArray × (ByteArray × (ByteArray × (Int × (Int × (Int × Bool))))))) × ((List (Int × (ByteArray × (ByteArray × (ByteArray × Int))))) × ((List (Int × (ByteArray × (ByteArray × (ByteArray × Int))))) × (List (ByteArray × (ByteArray × (ByteArray × (Int × (Int × Int)))))))))))))) : Option (Int × (Int × (Int × ((List (Int × (Int × (ByteArray × (ByteArray × (ByteArray × Int)))))) × ((List (ByteArray × (ByteArray × (ByteArray × (Int × (Int × (Int × Bool))))))) × ((List (Int × (ByteArray × (ByteArray × (ByteArray × Int))))) × ((List (Int × (ByteArray × (ByteArray × (ByteArray × Int))))) × (List (ByteArray × (ByteArray × (ByteArray × (Int × (Int × Int))))))))))))) := (((bursarlaw27_Few.l4 ((0 : Int), (a.1, (a.2.1, (a.2.2.1, (a.2.2.2.1, (a.2.2.2.2.1, (a.2.2.2.2.2.1, (a.2.2.2.2.2.2.1, (a.2.2.2.2.2.2.2, ((0 : Int), ((0 : Int), ((0 : Int), ([], ([], ([], ([], ([], (a.1, (a.2.1, (a.2.2.1, [])))))))))))))))))))))).bind fun x1 => (match x1.2.2.2.2.2.2.2.2.2.2.2.2.2.2.2.2.2.2.2 with | [] => (((bursarlaw27_Few.l7 ((0 : Int), (x1.1, (x1.2.1, (x1.2.2.1, (x1.2.2.2.1, (x1.2.2.2.2.1, (x1.2.2.2.2.2.1, (x1.2.2.2.2.2.2.1, (x1.2.2.2.2.2.2.2.1, (x1.2.2.2.2.2.2.2.2.1, (x1.2.2.2.2.2.2.2.2.2.1, (x1.2.2.2.2.2.2.2.2.2.2.1, (x1.2.2.2.2.2.2.2.2.2.2.2.1, (x1.2.2.2.2.2.2.2.2.2.2.2.2.1, (x1.2.2.2.2.2.2.2.2.2.2.2.2.2.1, (x1.2.2.2.2.2.2.2.2.2.2.2.2.2.2.1, (x1.2.2.2.2.2.2.2.2.2.2.2.2.2.2.2.1, (x1.2.2.2.2.2.2.2.2.2.2.2.2.2.2.2.2.1, (x1.2.2.2.2.2.2.2.2.2.2.2.2.2.2.2.2.2.1, (x1.2.2.2.2.2.2.2.2.2.2.2.2.2.2.2.2.2.2.1, ([], []))))))))))))))))))))))).bind fun x2 => (match x2.2.2.2.2.2.2.2.2.2.2.2.2.2.2.2.2.2.2.2.2 with | [] => (((bursarlaw27_Few.l10 ((0 : Int), (x2.1, (x2.2.1, (x2.2.2.1, (x2.2.2.2.1, (x2.2.2.2.2.1, (x2.2.2.2.2.2.1, (x2.2.2.2.2.2.2.1, (x2.2.2.2.2.2.2.2.1, (x2.2.2.2.2.2.2.2.2.1, (x2.2.2.2.2.2.2.2.2.2.1, (x2.2.2.2.2.2.2.2.2.2.2.1, (x2.2.2.2.2.2.2.2.2.2.2.2.1, (x2.2.2.2.2.2.2.2.2.2.2.2.2.1, (x2.2.2.2.2.2.2.2.2.2.2.2.2.2.1, (x2.2.2.2.2.2.2.2.2.2.2.2.2.2.2.1, (x2.2.2.2.2.2.2.2.2.2.2.2.2.2.2.2.1, (x2.2.2.2.2.2.2.2.2.2.2.2.2.2.2.2.2.1, (x2.2.2.2.2.2.2.2.2.2.2.2.2.2.2.2.2.2.1, (x2.2.2.2.2.2.2.2.2.2.2.2.2.2.2.2.2.2.2.1, (x2.2.2.2.2.2.2.2.2.2.2.2.2.2.2.2.2.2.2.2.1, ([], [])))))))))))))))))))))))).bind fun x3 => (match x3.2.2.2.2.2.2.2.2.2.2.2.2.2.2.2.2.2.2.2.2.2 with | [] => (((bursarlaw27_dups.f x3.2.2.2.2.2.1)).bind fun x4 => (((bursarlaw27_dups.f x3.2.2.2.2.2.2.1)).bind fun x5 => (some (x3.2.2.2.2.2.2.2.2.2.2.2.2.2.2.2.2.1, (x3.2.2.2.2.2.2.2.2.2.2.2.2.2.2.2.2.2.1, (x3.2.2.2.2.2.2.2.2.2.2.2.2.2.2.2.2.2.2.1, (x3.2.2.2.2.2.2.2.2.2.2.2.2.2.2.2.2.2.2.2.1, (x3.2.2.2.2.2.2.2.2.2.2.2.2.2.2.2.2.2.2.2.2.1, (x4, (x5, [])))))))))) | x4 :: x5 => (((bursarlaw27_dups.f x3.2.2.2.2.2.1)).bind fun x6 => (((bursarlaw27_dups.f x3.2.2.2.2.2.2.1)).bind fun x7 => (some (x3.2.2.2.2.2.2.2.2.2.2.2.2.2.2.2.2.1, (x3.2.2.2.2.2.2.2.2.2.2.2.2.2.2.2.2.2.1, (x3.2.2.2.2.2.2.2.2.2.2.2.2.2.2.2.2.2.2.1, (x3.2.2.2.2.2.2.2.2.2.2.2.2.2.2.2.2.2.2.2.1, (x3.2.2.2.2.2.2.2.2.2.2.2.2.2.2.2.2.2.2.2.2.1, (x6, (x7, (x4 :: x5))))))))))))) | x3 :: x4 => (((bursarlaw27_Few.l10 ((0 : Int), (x2.1, (x2.2.1, (x2.2.2.1, (x2.2.2.2.1, (x2.2.2.2.2.1, (x2.2.2.2.2.2.1, (x2.2.2.2.2.2.2.1, (x2.2.2.2.2.2.2.2.1, (x2.2.2.2.2.2.2.2.2.1, (x2.2.2.2.2.2.2.2.2.2.1, (x2.2.2.2.2.2.2.2.2.2.2.1, (x2.2.2.2.2.2.2.2.2.2.2.2.1, (x2.2.2.2.2.2.2.2.2.2.2.2.2.1, (x2.2.2.2.2.2.2.2.2.2.2.2.2.2.1, (x2.2.2.2.2.2.2.2.2.2.2.2.2.2.2.1, (x2.2.2.2.2.2.2.2.2.2.2.2.2.2.2.2.1, (x2.2.2.2.2.2.2.2.2.2.2.2.2.2.2.2.2.1, (x2.2.2.2.2.2.2.2.2.2.2.2.2.2.2.2.2.2.1, (x2.2.2.2.2.2.2.2.2.2.2.2.2.2.2.2.2.2.2.1, (x2.2.2.2.2.2.2.2.2.2.2.2.2.2.2.2.2.2.2.2.1, ((x3 :: x4), [])))))))))))))))))))))))).bind fun x5 => (match x5.2.2.2.2.2.2.2.2.2.2.2.2.2.2.2.2.2.2.2.2.2 with | [] => (((bursarlaw27_dups.f x5.2.2.2.2.2.1)).bind fun x6 => (((bursarlaw27_dups.f x5.2.2.2.2.2.2.1)).bind fun x7 => (some (x5.2.2.2.2.2.2.2.2.2.2.2.2.2.2.2.2.1, (x5.2.2.2.2.2.2.2.2.2.2.2.2.2.2.2.2.2.1, (x5.2.2.2.2.2.2.2.2.2.2.2.2.2.2.2.2.2.2.1, (x5.2.2.2.2.2.2.2.2.2.2.2.2.2.2.2.2.2.2.2.1, (x5.2.2.2.2.2.2.2.2.2.2.2.2.2.2.2.2.2.2.2.2.1, (x6, (x7, [])))))))))) | x6 :: x7 => (((bursarlaw27_dups.f x5.2.2.2.2.2.1)).bind fun x8 => (((bursarlaw27_dups.f x5.2.2.2.2.2.2.1)).bind fun x9 => (some (x5.2.2.2.2.2.2.2.2.2.2.2.2.2.2.2.2.1, (x5.2.2.2.2.2.2.2.2.2.2.2.2.2.2.2.2.2.1, (x5.2.2.2.2.2.2.2.2.2.2.2.2.2.2.2.2.2.2.1, (x5.2.2.2.2.2.2.2.2.2.2.2.2.2.2.2.2.2.2.2.1, (x5.2.2.2.2.2.2.2.2.2.2.2.2.2.2.2.2.2.2.2.2.1, (x8, (x9, (x6 :: x7))))))))))))))) | x2 :: x3 => (((bursarlaw27_Few.l7 ((0 : Int), (x1.1, (x1.2.1, (x1.2.2.1, (x1.2.2.2.1, (x1.2.2.2.2.1, (x1.2.2.2.2.2.1, (x1.2.2.2.2.2.2.1, (x1.2.2.2.2.2.2.2.1, (x1.2.2.2.2.2.2.2.2.1, (x1.2.2.2.2.2.2.2.2.2.1, (x1.2.2.2.2.2.2.2.2.2.2.1, (x1.2.2.2.2.2.2.2.2.2.2.2.1, (x1.2.2.2.2.2.2.2.2.2.2.2.2.1, (x1.2.2.2.2.2.2.2.2.2.2.2.2.2.1, (x1.2.2.2.2.2.2.2.2.2.2.2.2.2.2.1, (x1.2.2.2.2.2.2.2.2.2.2.2.2.2.2.2.1, (x1.2.2.2.2.2.2.2.2.2.2.2.2.2.2.2.2.1, (x1.2.2.2.2.2.2.2.2.2.2.2.2.2.2.2.2.2.1, (x1.2.2.2.2.2.2.2.2.2.2.2.2.2.2.2.2.2.2.1, ((x2 :: x3), []))))))))))))))))))))))).bind fun x4 => (match x4.2.2.2.2.2.2.2.2.2.2.2.2.2.2.2.2.2.2.2.2 with | [] => (((bursarlaw27_Few.l10 ((0 : Int), (x4.1, (x4.2.1, (x4.2.2.1, (x4.2.2.2.1, (x4.2.2.2.2.1, (x4.2.2.2.2.2.1, (x4.2.2.2.2.2.2.1, (x4.2.2.2.2.2.2.2.1, (x4.2.2.2.2.2.2.2.2.1, (x4.2.2.2.2.2.2.2.2.2.1, (x4.2.2.2.2.2.2.2.2.2.2.1, (x4.2.2.2.2.2.2.2.2.2.2.2.1, (x4.2.2.2.2.2.2.2.2.2.2.2.2.1, (x4.2.2.2.2.2.2.2.2.2.2.2.2.2.1, (x4.2.2.2.2.2.2.2.2.2.2.2.2.2.2.1, (x4.2.2.2.2.2.2.2.2.2.2.2.2.2.2.2.1, (x4.2.2.2.2.2.2.2.2.2.2.2.2.2.2.2.2.1, (x4.2.2.2.2.2.2.2.2.2.2.2.2.2.2.2.2.2.1, (x4.2.2.2.2.2.2.2.2.2.2.2.2.2.2.2.2.2.2.1, (x4.2.2.2.2.2.2.2.2.2.2.2.2.2.2.2.2.2.2.2.1, ([], [])))))))))))))))))))))))).bind fun x5 => (match x5.2.2.2.2.2.2.2.2.2.2.2.2.2.2.2.2.2.2.2.2.2 with | [] => (((bursarlaw27_dups.f x5.2.2.2.2.2.1)).bind fun x6 => (((bursarlaw27_dups.f x5.2.2.2.2.2.2.1)).bind fun x7 => (some (x5.2.2.2.2.2.2.2.2.2.2.2.2.2.2.2.2.1, (x5.2.2.2.2.2.2.2.2.2.2.2.2.2.2.2.2.2.1, (x5.2.2.2.2.2.2.2.2.2.2.2.2.2.2.2.2.2.2.1, (x5.2.2.2.2.2.2.2.2.2.2.2.2.2.2.2.2.2.2.2.1, (x5.2.2.2.2.2.2.2.2.2.2.2.2.2.2.2.2.2.2.2.2.1, (x6, (x7, [])))))))))) | x6 :: x7 => (((bursarlaw27_dups.f x5.2.2.2.2.2.1)).bind fun x8 => (((bursarlaw27_dups.f x5.2.2.2.2.2.2.1)).bind fun x9 => (some (x5.2.2.2.2.2.2.2.2.2.2.2.2.2.2.2.2.1, (x5.2.2.2.2.2.2.2.2.2.2.2.2.2.2.2.2.2.1, (x5.2.2.2.2.2.2.2.2.2.2.2.2.2.2.2.2.2.2.1, (x5.2.2.2.2.2.2.2.2.2.2.2.2.2.2.2.2.2.2.2.1, (x5.2.2.2.2.2.2.2.2.2.2.2.2.2.2.2.2.2.2.2.2.1, (x8, (x9, (x6 :: x7))))))))))))) | x5 :: x6 => (((bursarlaw27_Few.l10 ((0 : Int), (x4.1, (x4.2.1, (x4.2.2.1, (x4.2.2.2.1, (x4.2.2.2.2.1, (x4.2.2.2.2.2.1, (x4.2.2.2.2.2.2.1, (x4.2.2.2.2.2.2.2.1, (x4.2.2.2.2.2.2.2.2.1, (x4.2.2.2.2.2.2.2.2.2.1, (x4.2.2.2.2.2.2.2.2.2.2.1, (x4.2.2.2.2.2.2.2.2.2.2.2.1, (x4.2.2.2.2.2.2.2.2.2.2.2.2.1, (x4.2.2.2.2.2.2.2.2.2.2.2.2.2.1, (x4.2.2.2.2.2.2.2.2.2.2.2.2.2.2.1, (x4.2.2.2.2.2.2.2.2.2.2.2.2.2.2.2.1, (x4.2.2.2.2.2.2.2.2.2.2.2.2.2.2.2.2.1, (x4.2.2.2.2.2.2.2.2.2.2.2.2.2.2.2.2.2.1, (x4.2.2.2.2.2.2.2.2.2.2.2.2.2.2.2.2.2.2.1, (x4.2.2.2.2.2.2.2.2.2.2.2.2.2.2.2.2.2.2.2.1, ((x5 :: x6), [])))))))))))))))))))))))).bind fun x7 => (match x7.2.2.2.2.2.2.2.2.2.2.2.2.2.2.2.2.2.2.2.2.2 with | [] => (((bursarlaw27_dups.f x7.2.2.2.2.2.1)).bind fun x8 => (((bursarlaw27_dups.f x7.2.2.2.2.2.2.1)).bind fun x9 => (some (x7.2.2.2.2.2.2.2.2.2.2.2.2.2.2.2.2.1, (x7.2.2.2.2.2.2.2.2.2.2.2.2.2.2.2.2.2.1, (x7.2.2.2.2.2.2.2.2.2.2.2.2.2.2.2.2.2.2.1, (x7.2.2.2.2.2.2.2.2.2.2.2.2.2.2.2.2.2.2.2.1, (x7.2.2.2.2.2.2.2.2.2.2.2.2.2.2.2.2.2.2.2.2.1, (x8, (x9, [])))))))))) | x8 :: x9 => (((bursarlaw27_dups.f x7.2.2.2.2.2.1)).bind fun x10 => (((bursarlaw27_dups.f x7.2.2.2.2.2.2.1)).bind fun x11 => (some (x7.2.2.2.2.2.2.2.2.2.2.2.2.2.2.2.2.1, (x7.2.2.2.2.2.2.2.2.2.2.2.2.2.2.2.2.2.1, (x7.2.2.2.2.2.2.2.2.2.2.2.2.2.2.2.2.2.2.1, (x7.2.2.2.2.2.2.2.2.2.2.2.2.2.2.2.2.2.2.2.1, (x7.2.2.2.2.2.2.2.2.2.2.2.2.2.2.2.2.2.2.2.2.1, (x10, (x11, (x8 :: x9)))))))))))))))))
theorem bursarlaw27_Few.ok : ∀ a : Vals bursarlaw27_Few.As.tys, fnK P bursarlaw27_Few.H (lp [(4, (NodeT.summ ⟨bursarlaw27_Few.sh4, bursarlaw27_Few.os4, bursarlaw27_Few.l4⟩ 0)), (7, (NodeT.summ ⟨bursarlaw27_Few.sh7, bursarlaw27_Few.os7, bursarlaw27_Few.l7⟩ 0)), (10, (NodeT.summ ⟨bursarlaw27_Few.sh10, bursarlaw27_Few.os10, bursarlaw27_Few.l10⟩ 0))]) 18 bursarlaw27_Few.As bursarlaw27_Few.m a some = bursarlaw27_Few.f a := fun a => by kernel_rfl
noncomputable abbrev bursarlaw27_Few.row : Row := fnRow 18 bursarlaw27_Few.As bursarlaw27_Few.m bursarlaw27_Few.f
theorem bursarlaw27_Few.row_ok : RowOK P G0 bursarlaw27_Few.row := row_told bursarlaw27_Few.hok (lp_of (l := [(4, (NodeT.summ ⟨bursarlaw27_Few.sh4, bursarlaw27_Few.os4, bursarlaw27_Few.l4⟩ 0)), (7, (NodeT.summ ⟨bursarlaw27_Few.sh7, bursarlaw27_Few.os7, bursarlaw27_Few.l7⟩ 0)), (10, (NodeT.summ ⟨bursarlaw27_Few.sh10, bursarlaw27_Few.os10, bursarlaw27_Few.l10⟩ 0))]) ⟨(loop_sum bursarlaw27_Few.hok (by kernel_rfl) (by kernel_rfl) (l := []) trivial bursarlaw27_Few.sh4 bursarlaw27_Few.os4 (by kernel_rfl) bursarlaw27_Few.t4 bursarlaw27_Few.t4_ok), ⟨(loop_sum bursarlaw27_Few.hok (by kernel_rfl) (by kernel_rfl) (l := []) trivial bursarlaw27_Few.sh7 bursarlaw27_Few.os7 (by kernel_rfl) bursarlaw27_Few.t7 bursarlaw27_Few.t7_ok), ⟨(loop_sum bursarlaw27_Few.hok (by kernel_rfl) (by kernel_rfl) (l := []) trivial bursarlaw27_Few.sh10 bursarlaw27_Few.os10 (by kernel_rfl) bursarlaw27_Few.t10 bursarlaw27_Few.t10_ok), trivial⟩⟩⟩) (fun _ => rfl) bursarlaw27_Few.ok
end Go.Proofs.YtopoklifappmcaaGreatDoor
end
section
set_option linter.unusedVariables false
set_option linter.unusedSimpArgs false
namespace Go.Proofs.YtopoklifappmcaaGreatDoor
open Go Go.Fw
def cutB (s : ByteArray) : ByteArray := bif decide ((s.size : Int) > 70) then ByteArray.extract s 0 70 else s
theorem cutB_size (s : ByteArray) : (cutB s).size ≤ 70 := by
  unfold cutB
  by_cases h : (s.size : Int) > 70
  · rw [decide_eq_true h, cond_true, ByteArray.size_extract]; omega
  · rw [decide_eq_false h, cond_false]; omega
theorem text27_is (s : ByteArray) : bursarlaw27_text.f s = some (cutB s) := by
  unfold bursarlaw27_text.f cutB
  by_cases h : (s.size : Int) > 70
  · rw [decide_eq_true h, decide_eq_true (show (70 : Int) ≤ (s.size : Int) by omega)]; rfl
  · rw [decide_eq_false h]; rfl
def fP (p : Po) : Po := (p.1, p.2.1, cutB p.2.2.1, cutB p.2.2.2.1, cutB p.2.2.2.2.1, p.2.2.2.2.2)
def fH (h : Hd) : Hd := (cutB h.1, cutB h.2.1, cutB h.2.2.1, h.2.2.2)
def fC (c : Cl) : Cl := (cutB c.1, cutB c.2.1, cutB c.2.2.1, c.2.2.2)
def fD (x : Dp) : Dp := (x.1, cutB x.2.1, cutB x.2.2.1, cutB x.2.2.2.1, x.2.2.2.2)
def cutL {α : Type} (f : α → α) (n : Nat) (l : List α) : List α := (l.take n).map f
theorem cutL_len {α : Type} (f : α → α) (n : Nat) (l : List α) : (cutL f n l).length ≤ n := by unfold cutL; simp; omega
theorem cutL_mem {α : Type} {f : α → α} {n : Nat} {l : List α} {x : α} (h : x ∈ cutL f n l) : ∃ y ∈ l, x = f y := by
  unfold cutL at h
  obtain ⟨y, hy, rfl⟩ := List.mem_map.1 h
  exact ⟨y, List.mem_of_mem_take hy, rfl⟩
theorem cutL_range {α : Type} (f : α → α) (n : Nat) (l : List α) (d : α) : (List.range (min l.length n)).map (fun i => f (l.getD i d)) = cutL f n l := by
  unfold cutL
  apply List.ext_getElem
  · simp; omega
  · intro i h1 h2
    have h3 : i < l.length := by simp at h1; omega
    rw [List.getElem_map, List.getElem_map, List.getElem_range, getD_at h3, List.getElem_take]
def fewS (a : St) : St := (a.1, a.2.1, a.2.2.1, cutL fP 401 a.2.2.2.1, cutL fH 151 a.2.2.2.2.1, cutL fD 101 a.2.2.2.2.2.1, cutL fD 101 a.2.2.2.2.2.2.1, cutL fC 151 a.2.2.2.2.2.2.2)
theorem fD_small (x : Dp) : smallD (fD x) := ⟨Nat.le_trans (cutB_size _) (by decide), Nat.le_trans (cutB_size _) (by decide), Nat.le_trans (cutB_size _) (by decide)⟩
theorem fewS_small {a : St} (hh : ∀ x ∈ a.2.2.2.2.1, Am x.2.2.2.1) : Small (fewS a) where
  p x hx := by
    obtain ⟨y, _, rfl⟩ := cutL_mem hx
    exact ⟨Nat.le_trans (cutB_size _) (by decide), Nat.le_trans (cutB_size _) (by decide), Nat.le_trans (cutB_size _) (by decide)⟩
  h x hx := by
    obtain ⟨y, hy, rfl⟩ := cutL_mem hx
    exact ⟨Nat.le_trans (cutB_size _) (by decide), Nat.le_trans (cutB_size _) (by decide), hh y hy⟩
  d x hx := by
    obtain ⟨y, hy, rfl⟩ := cutL_mem hx
    exact fD_small y
  e x hx := by
    obtain ⟨y, hy, rfl⟩ := cutL_mem hx
    exact fD_small y
  c x hx := by
    obtain ⟨y, hy, rfl⟩ := cutL_mem hx
    exact ⟨Nat.le_trans (cutB_size _) (by decide), Nat.le_trans (cutB_size _) (by decide)⟩
  np := Nat.le_trans (cutL_len _ _ _) (by decide)
  nh := Nat.le_trans (cutL_len _ _ _) (by decide)
  nd := Nat.le_trans (cutL_len _ _ _) (by decide)
  ne := Nat.le_trans (cutL_len _ _ _) (by decide)
  nc := Nat.le_trans (cutL_len _ _ _) (by decide)
theorem dups27_is (l : List Dp) : bursarlaw27_dups.f l = some (cutL fD 101 l) := by
  have hf := rounds_app (t := bursarlaw27_dups.t4) (min l.length 101) (fun i => fD (l.getD i zD)) (fun acc i => (l, ((i : Nat) : Int), acc)) (fun acc => acc) [] (fun acc i hi ha => by
    have hi1 : i < l.length := by omega
    have hi2 : i < 101 := by omega
    have ha : acc.length = i := by rw [ha]; simp
    have hw := wrap_up (n := i) (by omega)
    unfold bursarlaw27_dups.t4
    rw [dflt_dup]
    simp only [inb hi1, show decide (((i : Nat) : Int) < 101) = true from decide_eq_true (by omega), ge0', Bool.and_self, cond_true, Int.toNat_natCast, text27_is, Option.bind_some, hw, ha, List.length_cons, List.length_nil, Nat.zero_add, room 64 140737488355328 (show i ≤ 2000 by omega) (by decide), Nat.ble_eq_true_of_le (show i + 1 ≤ 140737488355328 by omega), Bool.true_and]
    rfl) (fun acc => by
    unfold bursarlaw27_dups.t4
    by_cases h : l.length ≤ 101
    · simp only [show min l.length 101 = l.length by omega, outb, cond_false]
    · simp only [show min l.length 101 = 101 by omega, inb (show 101 < l.length by omega), show decide (((101 : Nat) : Int) < 101) = false from rfl, cond_true, cond_false])
  have hf' : bursarlaw27_dups.l4 (l, 0, []) = _ := hf
  unfold bursarlaw27_dups.f
  rw [hf', Option.bind_some, List.nil_append, cutL_range fD 101 l zD]
theorem few4 (l : List Po) (s1 s2 s3 : Int) (s5 : List Hd) (s6 s7 : List Dp) (s8 : List Cl) (s9 s10 s11 : Int) (s12 : List Po) (s13 : List Hd) (s14 s15 : List Dp) (s16 : List Cl) (s17 s18 s19 : Int) :
    bursarlaw27_Few.l4 (0, s1, s2, s3, l, s5, s6, s7, s8, s9, s10, s11, s12, s13, s14, s15, s16, s17, s18, s19, []) = some (s1, s2, s3, l, s5, s6, s7, s8, s9, s10, s11, s12, s13, s14, s15, s16, s17, s18, s19, cutL fP 401 l) := by
  have hf := rounds_app (t := bursarlaw27_Few.t4) (min l.length 401) (fun i => fP (l.getD i zP)) (fun acc i => (((i : Nat) : Int), s1, s2, s3, l, s5, s6, s7, s8, s9, s10, s11, s12, s13, s14, s15, s16, s17, s18, s19, acc)) (fun acc => (s1, s2, s3, l, s5, s6, s7, s8, s9, s10, s11, s12, s13, s14, s15, s16, s17, s18, s19, acc)) [] (fun acc i hi ha => by
    have hi1 : i < l.length := by omega
    have hi2 : i < 401 := by omega
    have ha : acc.length = i := by rw [ha]; simp
    have hw := wrap_up (n := i) (by omega)
    unfold bursarlaw27_Few.t4
    rw [dflt_po]
    simp only [inb hi1, show decide (((i : Nat) : Int) < 401) = true from decide_eq_true (by omega), ge0', Bool.and_self, cond_true, Int.toNat_natCast, text27_is, Option.bind_some, hw, ha, List.length_cons, List.length_nil, Nat.zero_add, room 72 140737488355328 (show i ≤ 2000 by omega) (by decide), Nat.ble_eq_true_of_le (show i + 1 ≤ 140737488355328 by omega), Bool.true_and]
    rfl) (fun acc => by
    unfold bursarlaw27_Few.t4
    by_cases h : l.length ≤ 401
    · simp only [show min l.length 401 = l.length by omega, outb, cond_false]
    · simp only [show min l.length 401 = 401 by omega, inb (show 401 < l.length by omega), show decide (((401 : Nat) : Int) < 401) = false from rfl, cond_true, cond_false])
  rw [List.nil_append, cutL_range fP 401 l zP] at hf
  exact hf
theorem few7 (l : List Hd) (s1 s2 s3 : Int) (s4 : List Po) (s6 s7 : List Dp) (s8 : List Cl) (s9 s10 s11 : Int) (s12 : List Po) (s13 : List Hd) (s14 s15 : List Dp) (s16 : List Cl) (s17 s18 s19 : Int) (s20 : List Po) :
    bursarlaw27_Few.l7 (0, s1, s2, s3, s4, l, s6, s7, s8, s9, s10, s11, s12, s13, s14, s15, s16, s17, s18, s19, s20, []) = some (s1, s2, s3, s4, l, s6, s7, s8, s9, s10, s11, s12, s13, s14, s15, s16, s17, s18, s19, s20, cutL fH 151 l) := by
  have hf := rounds_app (t := bursarlaw27_Few.t7) (min l.length 151) (fun i => fH (l.getD i zHd)) (fun acc i => (((i : Nat) : Int), s1, s2, s3, s4, l, s6, s7, s8, s9, s10, s11, s12, s13, s14, s15, s16, s17, s18, s19, s20, acc)) (fun acc => (s1, s2, s3, s4, l, s6, s7, s8, s9, s10, s11, s12, s13, s14, s15, s16, s17, s18, s19, s20, acc)) [] (fun acc i hi ha => by
    have hi1 : i < l.length := by omega
    have hi2 : i < 151 := by omega
    have ha : acc.length = i := by rw [ha]; simp
    have hw := wrap_up (n := i) (by omega)
    unfold bursarlaw27_Few.t7
    rw [dflt_hd]
    simp only [inb hi1, show decide (((i : Nat) : Int) < 151) = true from decide_eq_true (by omega), ge0', Bool.and_self, cond_true, Int.toNat_natCast, text27_is, Option.bind_some, hw, ha, List.length_cons, List.length_nil, Nat.zero_add, room 80 140737488355328 (show i ≤ 2000 by omega) (by decide), Nat.ble_eq_true_of_le (show i + 1 ≤ 140737488355328 by omega), Bool.true_and]
    rfl) (fun acc => by
    unfold bursarlaw27_Few.t7
    by_cases h : l.length ≤ 151
    · simp only [show min l.length 151 = l.length by omega, outb, cond_false]
    · simp only [show min l.length 151 = 151 by omega, inb (show 151 < l.length by omega), show decide (((151 : Nat) : Int) < 151) = false from rfl, cond_true, cond_false])
  rw [List.nil_append, cutL_range fH 151 l zHd] at hf
  exact hf
theorem few10 (l : List Cl) (s1 s2 s3 : Int) (s4 : List Po) (s5 : List Hd) (s6 s7 : List Dp) (s9 s10 s11 : Int) (s12 : List Po) (s13 : List Hd) (s14 s15 : List Dp) (s16 : List Cl) (s17 s18 s19 : Int) (s20 : List Po) (s21 : List Hd) :
    bursarlaw27_Few.l10 (0, s1, s2, s3, s4, s5, s6, s7, l, s9, s10, s11, s12, s13, s14, s15, s16, s17, s18, s19, s20, s21, []) = some (s1, s2, s3, s4, s5, s6, s7, l, s9, s10, s11, s12, s13, s14, s15, s16, s17, s18, s19, s20, s21, cutL fC 151 l) := by
  have hf := rounds_app (t := bursarlaw27_Few.t10) (min l.length 151) (fun i => fC (l.getD i zC)) (fun acc i => (((i : Nat) : Int), s1, s2, s3, s4, s5, s6, s7, l, s9, s10, s11, s12, s13, s14, s15, s16, s17, s18, s19, s20, s21, acc)) (fun acc => (s1, s2, s3, s4, s5, s6, s7, l, s9, s10, s11, s12, s13, s14, s15, s16, s17, s18, s19, s20, s21, acc)) [] (fun acc i hi ha => by
    have hi1 : i < l.length := by omega
    have hi2 : i < 151 := by omega
    have ha : acc.length = i := by rw [ha]; simp
    have hw := wrap_up (n := i) (by omega)
    unfold bursarlaw27_Few.t10
    rw [dflt_cl]
    simp only [inb hi1, show decide (((i : Nat) : Int) < 151) = true from decide_eq_true (by omega), ge0', Bool.and_self, cond_true, Int.toNat_natCast, text27_is, Option.bind_some, hw, ha, List.length_cons, List.length_nil, Nat.zero_add, room 72 140737488355328 (show i ≤ 2000 by omega) (by decide), Nat.ble_eq_true_of_le (show i + 1 ≤ 140737488355328 by omega), Bool.true_and]
    rfl) (fun acc => by
    unfold bursarlaw27_Few.t10
    by_cases h : l.length ≤ 151
    · simp only [show min l.length 151 = l.length by omega, outb, cond_false]
    · simp only [show min l.length 151 = 151 by omega, inb (show 151 < l.length by omega), show decide (((151 : Nat) : Int) < 151) = false from rfl, cond_true, cond_false])
  rw [List.nil_append, cutL_range fC 151 l zC] at hf
  exact hf
theorem few27_is (a : St) : bursarlaw27_Few.f a = some (fewS a) := by
  unfold bursarlaw27_Few.f fewS
  simp only [few4, Option.bind_some]
  generalize cutL fP 401 a.2.2.2.1 = p
  rcases p with _ | ⟨y1, r1⟩ <;> simp only [few7, Option.bind_some] <;> (
    generalize cutL fH 151 a.2.2.2.2.1 = h
    rcases h with _ | ⟨y2, r2⟩ <;> simp only [few10, Option.bind_some] <;> (
      generalize cutL fC 151 a.2.2.2.2.2.2.2 = c
      rcases c with _ | ⟨y3, r3⟩ <;> simp only [dups27_is, Option.bind_some]))
end Go.Proofs.YtopoklifappmcaaGreatDoor
end
section
set_option linter.unusedVariables false
set_option maxRecDepth 100000
namespace Go.Proofs.YtopoklifappmcaaGreatDoor
open Go Go.Fw
abbrev slices_Equal_api_Claim_api_Claim.As : Shs := (.cons (.x (.l (.g (.p .s (.p .s (.p .s (.p (.i .i64) (.p (.i .i64) (.i .i64))))))))) (.cons (.x (.l (.g (.p .s (.p .s (.p .s (.p (.i .i64) (.p (.i .i64) (.i .i64))))))))) .nil))
abbrev slices_Equal_api_Claim_api_Claim.m : Back := [(false, .b)]
noncomputable abbrev slices_Equal_api_Claim_api_Claim.H : HK := hk P G0 E0 J0 [] noLoops 4
theorem slices_Equal_api_Claim_api_Claim.rows : TabOK P G0 (tabF []) := rows_ok (ws := []) trivial
theorem slices_Equal_api_Claim_api_Claim.hok : HKOK P slices_Equal_api_Claim_api_Claim.H := hk_ok e0_ok j0_ok slices_Equal_api_Claim_api_Claim.rows (fun g n => noLoops_ok g n) 4
noncomputable abbrev slices_Equal_api_Claim_api_Claim.sh6 : SSh := ⟨[(0, (.x (.l (.g (.p .s (.p .s (.p .s (.p (.i .i64) (.p (.i .i64) (.i .i64)))))))))), (1, (.x (.l (.g (.p .s (.p .s (.p .s (.p (.i .i64) (.p (.i .i64) (.i .i64)))))))))), (12, (.x (.i .i64))), (13, (.x (.i .i64)))], []⟩
noncomputable abbrev slices_Equal_api_Claim_api_Claim.os6 : PEnds := [(.ret, ⟨[(4, (.x .b))], []⟩), ((.exit 0), ⟨[], []⟩)]
noncomputable def slices_Equal_api_Claim_api_Claim.t6 (s : ((List (ByteArray × (ByteArray × (ByteArray × (Int × (Int × Int)))))) × ((List (ByteArray × (ByteArray × (ByteArray × (Int × (Int × Int)))))) × (Int × Int)))) : Option (((List (ByteArray × (ByteArray × (ByteArray × (Int × (Int × Int)))))) × ((List (ByteArray × (ByteArray × (ByteArray × (Int × (Int × Int)))))) × (Int × Int))) ⊕ (Bool ⊕ Unit)) := (bif (decide ((s.2.2.2 < s.2.2.1))) then (bif ((decide (((0 : Int) ≤ s.2.2.2))) && (decide ((s.2.2.2 < ((List.length s.1) : Int))))) then (bif ((decide (((0 : Int) ≤ s.2.2.2))) && (decide ((s.2.2.2 < ((List.length s.2.1) : Int))))) then (bif (!(((ByteArray.toList (List.getD s.1 (Int.toNat s.2.2.2) (Ty.dflt T_api_Claim)).1) == (ByteArray.toList (List.getD s.2.1 (Int.toNat s.2.2.2) (Ty.dflt T_api_Claim)).1)) && (((ByteArray.toList (List.getD s.1 (Int.toNat s.2.2.2) (Ty.dflt T_api_Claim)).2.1) == (ByteArray.toList (List.getD s.2.1 (Int.toNat s.2.2.2) (Ty.dflt T_api_Claim)).2.1)) && (((ByteArray.toList (List.getD s.1 (Int.toNat s.2.2.2) (Ty.dflt T_api_Claim)).2.2.1) == (ByteArray.toList (List.getD s.2.1 (Int.toNat s.2.2.2) (Ty.dflt T_api_Claim)).2.2.1)) && (((List.getD s.1 (Int.toNat s.2.2.2) (Ty.dflt T_api_Claim)).2.2.2.1 == (List.getD s.2.1 (Int.toNat s.2.2.2) (Ty.dflt T_api_Claim)).2.2.2.1) && (((List.getD s.1 (Int.toNat s.2.2.2) (Ty.dflt T_api_Claim)).2.2.2.2.1 == (List.getD s.2.1 (Int.toNat s.2.2.2) (Ty.dflt T_api_Claim)).2.2.2.2.1) && (((List.getD s.1 (Int.toNat s.2.2.2) (Ty.dflt T_api_Claim)).2.2.2.2.2 == (List.getD s.2.1 (Int.toNat s.2.2.2) (Ty.dflt T_api_Claim)).2.2.2.2.2) && true))))))) then (some (.inr (.inl false))) else (some (.inl (s.1, (s.2.1, (s.2.2.1, (IntKind.wrap .i64 (s.2.2.2 + (1 : Int))))))))) else none) else none) else (some (.inr (.inr ()))))
theorem slices_Equal_api_Claim_api_Claim.t6_ok : ∀ s : Vals slices_Equal_api_Claim_api_Claim.sh6.tys, turnK P slices_Equal_api_Claim_api_Claim.H (lp []) (bodyAt (codeOf P 77) 6) 0 slices_Equal_api_Claim_api_Claim.sh6 slices_Equal_api_Claim_api_Claim.os6 s some = slices_Equal_api_Claim_api_Claim.t6 s := fun s => by kernel_rfl
noncomputable def slices_Equal_api_Claim_api_Claim.l6 : ((List (ByteArray × (ByteArray × (ByteArray × (Int × (Int × Int)))))) × ((List (ByteArray × (ByteArray × (ByteArray × (Int × (Int × Int)))))) × (Int × Int))) → Option (Bool ⊕ Unit) := rounds slices_Equal_api_Claim_api_Claim.t6
noncomputable def slices_Equal_api_Claim_api_Claim.f (a : ((List (ByteArray × (ByteArray × (ByteArray × (Int × (Int × Int)))))) × (List (ByteArray × (ByteArray × (ByteArray × (Int × (Int × Int)))))))) : Option Bool := (bif (((List.length a.1) : Int) != ((List.length a.2) : Int)) then (some false) else (((slices_Equal_api_Claim_api_Claim.l6 (a.1, (a.2, (((List.length a.1) : Int), (0 : Int)))))).bind fun x2 => (match x2 with | .inl x3 => (some x3) | .inr x3 => (some true))))
theorem slices_Equal_api_Claim_api_Claim.ok : ∀ a : Vals slices_Equal_api_Claim_api_Claim.As.tys, fnK P slices_Equal_api_Claim_api_Claim.H (lp [(6, (NodeT.summ ⟨slices_Equal_api_Claim_api_Claim.sh6, slices_Equal_api_Claim_api_Claim.os6, slices_Equal_api_Claim_api_Claim.l6⟩ 0))]) 77 slices_Equal_api_Claim_api_Claim.As slices_Equal_api_Claim_api_Claim.m a some = slices_Equal_api_Claim_api_Claim.f a := fun a => by kernel_rfl
noncomputable abbrev slices_Equal_api_Claim_api_Claim.row : Row := fnRow 77 slices_Equal_api_Claim_api_Claim.As slices_Equal_api_Claim_api_Claim.m slices_Equal_api_Claim_api_Claim.f
theorem slices_Equal_api_Claim_api_Claim.row_ok : RowOK P G0 slices_Equal_api_Claim_api_Claim.row := row_told slices_Equal_api_Claim_api_Claim.hok (lp_of (l := [(6, (NodeT.summ ⟨slices_Equal_api_Claim_api_Claim.sh6, slices_Equal_api_Claim_api_Claim.os6, slices_Equal_api_Claim_api_Claim.l6⟩ 0))]) ⟨(loop_sum slices_Equal_api_Claim_api_Claim.hok (by kernel_rfl) (by kernel_rfl) (l := []) trivial slices_Equal_api_Claim_api_Claim.sh6 slices_Equal_api_Claim_api_Claim.os6 (by kernel_rfl) slices_Equal_api_Claim_api_Claim.t6 slices_Equal_api_Claim_api_Claim.t6_ok), trivial⟩) (fun _ => rfl) slices_Equal_api_Claim_api_Claim.ok
abbrev slices_Equal_api_Dup_api_Dup.As : Shs := (.cons (.x (.l (.g (.p (.i .i64) (.p .s (.p .s (.p .s (.i .i64)))))))) (.cons (.x (.l (.g (.p (.i .i64) (.p .s (.p .s (.p .s (.i .i64)))))))) .nil))
abbrev slices_Equal_api_Dup_api_Dup.m : Back := [(false, .b)]
noncomputable abbrev slices_Equal_api_Dup_api_Dup.H : HK := hk P G0 E0 J0 [] noLoops 4
theorem slices_Equal_api_Dup_api_Dup.rows : TabOK P G0 (tabF []) := rows_ok (ws := []) trivial
theorem slices_Equal_api_Dup_api_Dup.hok : HKOK P slices_Equal_api_Dup_api_Dup.H := hk_ok e0_ok j0_ok slices_Equal_api_Dup_api_Dup.rows (fun g n => noLoops_ok g n) 4
noncomputable abbrev slices_Equal_api_Dup_api_Dup.sh6 : SSh := ⟨[(0, (.x (.l (.g (.p (.i .i64) (.p .s (.p .s (.p .s (.i .i64))))))))), (1, (.x (.l (.g (.p (.i .i64) (.p .s (.p .s (.p .s (.i .i64))))))))), (12, (.x (.i .i64))), (13, (.x (.i .i64)))], []⟩
noncomputable abbrev slices_Equal_api_Dup_api_Dup.os6 : PEnds := [(.ret, ⟨[(4, (.x .b))], []⟩), ((.exit 0), ⟨[], []⟩)]
noncomputable def slices_Equal_api_Dup_api_Dup.t6 (s : ((List (Int × (ByteArray × (ByteArray × (ByteArray × Int))))) × ((List (Int × (ByteArray × (ByteArray × (ByteArray × Int))))) × (Int × Int)))) : Option (((List (Int × (ByteArray × (ByteArray × (ByteArray × Int))))) × ((List (Int × (ByteArray × (ByteArray × (ByteArray × Int))))) × (Int × Int))) ⊕ (Bool ⊕ Unit)) := (bif (decide ((s.2.2.2 < s.2.2.1))) then (bif ((decide (((0 : Int) ≤ s.2.2.2))) && (decide ((s.2.2.2 < ((List.length s.1) : Int))))) then (bif ((decide (((0 : Int) ≤ s.2.2.2))) && (decide ((s.2.2.2 < ((List.length s.2.1) : Int))))) then (bif (!(((List.getD s.1 (Int.toNat s.2.2.2) (Ty.dflt T_api_Dup)).1 == (List.getD s.2.1 (Int.toNat s.2.2.2) (Ty.dflt T_api_Dup)).1) && (((ByteArray.toList (List.getD s.1 (Int.toNat s.2.2.2) (Ty.dflt T_api_Dup)).2.1) == (ByteArray.toList (List.getD s.2.1 (Int.toNat s.2.2.2) (Ty.dflt T_api_Dup)).2.1)) && (((ByteArray.toList (List.getD s.1 (Int.toNat s.2.2.2) (Ty.dflt T_api_Dup)).2.2.1) == (ByteArray.toList (List.getD s.2.1 (Int.toNat s.2.2.2) (Ty.dflt T_api_Dup)).2.2.1)) && (((ByteArray.toList (List.getD s.1 (Int.toNat s.2.2.2) (Ty.dflt T_api_Dup)).2.2.2.1) == (ByteArray.toList (List.getD s.2.1 (Int.toNat s.2.2.2) (Ty.dflt T_api_Dup)).2.2.2.1)) && (((List.getD s.1 (Int.toNat s.2.2.2) (Ty.dflt T_api_Dup)).2.2.2.2 == (List.getD s.2.1 (Int.toNat s.2.2.2) (Ty.dflt T_api_Dup)).2.2.2.2) && true)))))) then (some (.inr (.inl false))) else (some (.inl (s.1, (s.2.1, (s.2.2.1, (IntKind.wrap .i64 (s.2.2.2 + (1 : Int))))))))) else none) else none) else (some (.inr (.inr ()))))
theorem slices_Equal_api_Dup_api_Dup.t6_ok : ∀ s : Vals slices_Equal_api_Dup_api_Dup.sh6.tys, turnK P slices_Equal_api_Dup_api_Dup.H (lp []) (bodyAt (codeOf P 76) 6) 0 slices_Equal_api_Dup_api_Dup.sh6 slices_Equal_api_Dup_api_Dup.os6 s some = slices_Equal_api_Dup_api_Dup.t6 s := fun s => by kernel_rfl
noncomputable def slices_Equal_api_Dup_api_Dup.l6 : ((List (Int × (ByteArray × (ByteArray × (ByteArray × Int))))) × ((List (Int × (ByteArray × (ByteArray × (ByteArray × Int))))) × (Int × Int))) → Option (Bool ⊕ Unit) := rounds slices_Equal_api_Dup_api_Dup.t6
noncomputable def slices_Equal_api_Dup_api_Dup.f (a : ((List (Int × (ByteArray × (ByteArray × (ByteArray × Int))))) × (List (Int × (ByteArray × (ByteArray × (ByteArray × Int))))))) : Option Bool := (bif (((List.length a.1) : Int) != ((List.length a.2) : Int)) then (some false) else (((slices_Equal_api_Dup_api_Dup.l6 (a.1, (a.2, (((List.length a.1) : Int), (0 : Int)))))).bind fun x2 => (match x2 with | .inl x3 => (some x3) | .inr x3 => (some true))))
theorem slices_Equal_api_Dup_api_Dup.ok : ∀ a : Vals slices_Equal_api_Dup_api_Dup.As.tys, fnK P slices_Equal_api_Dup_api_Dup.H (lp [(6, (NodeT.summ ⟨slices_Equal_api_Dup_api_Dup.sh6, slices_Equal_api_Dup_api_Dup.os6, slices_Equal_api_Dup_api_Dup.l6⟩ 0))]) 76 slices_Equal_api_Dup_api_Dup.As slices_Equal_api_Dup_api_Dup.m a some = slices_Equal_api_Dup_api_Dup.f a := fun a => by kernel_rfl
noncomputable abbrev slices_Equal_api_Dup_api_Dup.row : Row := fnRow 76 slices_Equal_api_Dup_api_Dup.As slices_Equal_api_Dup_api_Dup.m slices_Equal_api_Dup_api_Dup.f
theorem slices_Equal_api_Dup_api_Dup.row_ok : RowOK P G0 slices_Equal_api_Dup_api_Dup.row := row_told slices_Equal_api_Dup_api_Dup.hok (lp_of (l := [(6, (NodeT.summ ⟨slices_Equal_api_Dup_api_Dup.sh6, slices_Equal_api_Dup_api_Dup.os6, slices_Equal_api_Dup_api_Dup.l6⟩ 0))]) ⟨(loop_sum slices_Equal_api_Dup_api_Dup.hok (by kernel_rfl) (by kernel_rfl) (l := []) trivial slices_Equal_api_Dup_api_Dup.sh6 slices_Equal_api_Dup_api_Dup.os6 (by kernel_rfl) slices_Equal_api_Dup_api_Dup.t6 slices_Equal_api_Dup_api_Dup.t6_ok), trivial⟩) (fun _ => rfl) slices_Equal_api_Dup_api_Dup.ok
abbrev slices_Equal_api_Hold_api_Hold.As : Shs := (.cons (.x (.l (.g (.p .s (.p .s (.p .s (.p (.i .i64) (.p (.i .i64) (.p (.i .i64) .b))))))))) (.cons (.x (.l (.g (.p .s (.p .s (.p .s (.p (.i .i64) (.p (.i .i64) (.p (.i .i64) .b))))))))) .nil))
abbrev slices_Equal_api_Hold_api_Hold.m : Back := [(false, .b)]
noncomputable abbrev slices_Equal_api_Hold_api_Hold.H : HK := hk P G0 E0 J0 [] noLoops 4
theorem slices_Equal_api_Hold_api_Hold.rows : TabOK P G0 (tabF []) := rows_ok (ws := []) trivial
theorem slices_Equal_api_Hold_api_Hold.hok : HKOK P slices_Equal_api_Hold_api_Hold.H := hk_ok e0_ok j0_ok slices_Equal_api_Hold_api_Hold.rows (fun g n => noLoops_ok g n) 4
noncomputable abbrev slices_Equal_api_Hold_api_Hold.sh6 : SSh := ⟨[(0, (.x (.l (.g (.p .s (.p .s (.p .s (.p (.i .i64) (.p (.i .i64) (.p (.i .i64) .b)))))))))), (1, (.x (.l (.g (.p .s (.p .s (.p .s (.p (.i .i64) (.p (.i .i64) (.p (.i .i64) .b)))))))))), (12, (.x (.i .i64))), (13, (.x (.i .i64)))], []⟩
noncomputable abbrev slices_Equal_api_Hold_api_Hold.os6 : PEnds := [(.ret, ⟨[(4, (.x .b))], []⟩), ((.exit 0), ⟨[], []⟩)]
noncomputable def slices_Equal_api_Hold_api_Hold.t6 (s : ((List (ByteArray × (ByteArray × (ByteArray × (Int × (Int × (Int × Bool))))))) × ((List (ByteArray × (ByteArray × (ByteArray × (Int × (Int × (Int × Bool))))))) × (Int × Int)))) : Option (((List (ByteArray × (ByteArray × (ByteArray × (Int × (Int × (Int × Bool))))))) × ((List (ByteArray × (ByteArray × (ByteArray × (Int × (Int × (Int × Bool))))))) × (Int × Int))) ⊕ (Bool ⊕ Unit)) := (bif (decide ((s.2.2.2 < s.2.2.1))) then (bif ((decide (((0 : Int) ≤ s.2.2.2))) && (decide ((s.2.2.2 < ((List.length s.1) : Int))))) then (bif ((decide (((0 : Int) ≤ s.2.2.2))) && (decide ((s.2.2.2 < ((List.length s.2.1) : Int))))) then (bif (!(((ByteArray.toList (List.getD s.1 (Int.toNat s.2.2.2) (Ty.dflt T_api_Hold)).1) == (ByteArray.toList (List.getD s.2.1 (Int.toNat s.2.2.2) (Ty.dflt T_api_Hold)).1)) && (((ByteArray.toList (List.getD s.1 (Int.toNat s.2.2.2) (Ty.dflt T_api_Hold)).2.1) == (ByteArray.toList (List.getD s.2.1 (Int.toNat s.2.2.2) (Ty.dflt T_api_Hold)).2.1)) && (((ByteArray.toList (List.getD s.1 (Int.toNat s.2.2.2) (Ty.dflt T_api_Hold)).2.2.1) == (ByteArray.toList (List.getD s.2.1 (Int.toNat s.2.2.2) (Ty.dflt T_api_Hold)).2.2.1)) && (((List.getD s.1 (Int.toNat s.2.2.2) (Ty.dflt T_api_Hold)).2.2.2.1 == (List.getD s.2.1 (Int.toNat s.2.2.2) (Ty.dflt T_api_Hold)).2.2.2.1) && (((List.getD s.1 (Int.toNat s.2.2.2) (Ty.dflt T_api_Hold)).2.2.2.2.1 == (List.getD s.2.1 (Int.toNat s.2.2.2) (Ty.dflt T_api_Hold)).2.2.2.2.1) && (((List.getD s.1 (Int.toNat s.2.2.2) (Ty.dflt T_api_Hold)).2.2.2.2.2.1 == (List.getD s.2.1 (Int.toNat s.2.2.2) (Ty.dflt T_api_Hold)).2.2.2.2.2.1) && (((List.getD s.1 (Int.toNat s.2.2.2) (Ty.dflt T_api_Hold)).2.2.2.2.2.2 == (List.getD s.2.1 (Int.toNat s.2.2.2) (Ty.dflt T_api_Hold)).2.2.2.2.2.2) && true)))))))) then (some (.inr (.inl false))) else (some (.inl (s.1, (s.2.1, (s.2.2.1, (IntKind.wrap .i64 (s.2.2.2 + (1 : Int))))))))) else none) else none) else (some (.inr (.inr ()))))
theorem slices_Equal_api_Hold_api_Hold.t6_ok : ∀ s : Vals slices_Equal_api_Hold_api_Hold.sh6.tys, turnK P slices_Equal_api_Hold_api_Hold.H (lp []) (bodyAt (codeOf P 75) 6) 0 slices_Equal_api_Hold_api_Hold.sh6 slices_Equal_api_Hold_api_Hold.os6 s some = slices_Equal_api_Hold_api_Hold.t6 s := fun s => by kernel_rfl
noncomputable def slices_Equal_api_Hold_api_Hold.l6 : ((List (ByteArray × (ByteArray × (ByteArray × (Int × (Int × (Int × Bool))))))) × ((List (ByteArray × (ByteArray × (ByteArray × (Int × (Int × (Int × Bool))))))) × (Int × Int))) → Option (Bool ⊕ Unit) := rounds slices_Equal_api_Hold_api_Hold.t6
noncomputable def slices_Equal_api_Hold_api_Hold.f (a : ((List (ByteArray × (ByteArray × (ByteArray × (Int × (Int × (Int × Bool))))))) × (List (ByteArray × (ByteArray × (ByteArray × (Int × (Int × (Int × Bool))))))))) : Option Bool := (bif (((List.length a.1) : Int) != ((List.length a.2) : Int)) then (some false) else (((slices_Equal_api_Hold_api_Hold.l6 (a.1, (a.2, (((List.length a.1) : Int), (0 : Int)))))).bind fun x2 => (match x2 with | .inl x3 => (some x3) | .inr x3 => (some true))))
theorem slices_Equal_api_Hold_api_Hold.ok : ∀ a : Vals slices_Equal_api_Hold_api_Hold.As.tys, fnK P slices_Equal_api_Hold_api_Hold.H (lp [(6, (NodeT.summ ⟨slices_Equal_api_Hold_api_Hold.sh6, slices_Equal_api_Hold_api_Hold.os6, slices_Equal_api_Hold_api_Hold.l6⟩ 0))]) 75 slices_Equal_api_Hold_api_Hold.As slices_Equal_api_Hold_api_Hold.m a some = slices_Equal_api_Hold_api_Hold.f a := fun a => by kernel_rfl
noncomputable abbrev slices_Equal_api_Hold_api_Hold.row : Row := fnRow 75 slices_Equal_api_Hold_api_Hold.As slices_Equal_api_Hold_api_Hold.m slices_Equal_api_Hold_api_Hold.f
theorem slices_Equal_api_Hold_api_Hold.row_ok : RowOK P G0 slices_Equal_api_Hold_api_Hold.row := row_told slices_Equal_api_Hold_api_Hold.hok (lp_of (l := [(6, (NodeT.summ ⟨slices_Equal_api_Hold_api_Hold.sh6, slices_Equal_api_Hold_api_Hold.os6, slices_Equal_api_Hold_api_Hold.l6⟩ 0))]) ⟨(loop_sum slices_Equal_api_Hold_api_Hold.hok (by kernel_rfl) (by kernel_rfl) (l := []) trivial slices_Equal_api_Hold_api_Hold.sh6 slices_Equal_api_Hold_api_Hold.os6 (by kernel_rfl) slices_Equal_api_Hold_api_Hold.t6 slices_Equal_api_Hold_api_Hold.t6_ok), trivial⟩) (fun _ => rfl) slices_Equal_api_Hold_api_Hold.ok
abbrev slices_Equal_api_Post_api_Post.As : Shs := (.cons (.x (.l (.g (.p (.i .i64) (.p (.i .i64) (.p .s (.p .s (.p .s (.i .i64))))))))) (.cons (.x (.l (.g (.p (.i .i64) (.p (.i .i64) (.p .s (.p .s (.p .s (.i .i64))))))))) .nil))
abbrev slices_Equal_api_Post_api_Post.m : Back := [(false, .b)]
noncomputable abbrev slices_Equal_api_Post_api_Post.H : HK := hk P G0 E0 J0 [] noLoops 4
theorem slices_Equal_api_Post_api_Post.rows : TabOK P G0 (tabF []) := rows_ok (ws := []) trivial
theorem slices_Equal_api_Post_api_Post.hok : HKOK P slices_Equal_api_Post_api_Post.H := hk_ok e0_ok j0_ok slices_Equal_api_Post_api_Post.rows (fun g n => noLoops_ok g n) 4
noncomputable abbrev slices_Equal_api_Post_api_Post.sh6 : SSh := ⟨[(0, (.x (.l (.g (.p (.i .i64) (.p (.i .i64) (.p .s (.p .s (.p .s (.i .i64)))))))))), (1, (.x (.l (.g (.p (.i .i64) (.p (.i .i64) (.p .s (.p .s (.p .s (.i .i64)))))))))), (12, (.x (.i .i64))), (13, (.x (.i .i64)))], []⟩
noncomputable abbrev slices_Equal_api_Post_api_Post.os6 : PEnds := [(.ret, ⟨[(4, (.x .b))], []⟩), ((.exit 0), ⟨[], []⟩)]
noncomputable def slices_Equal_api_Post_api_Post.t6 (s : ((List (Int × (Int × (ByteArray × (ByteArray × (ByteArray × Int)))))) × ((List (Int × (Int × (ByteArray × (ByteArray × (ByteArray × Int)))))) × (Int × Int)))) : Option (((List (Int × (Int × (ByteArray × (ByteArray × (ByteArray × Int)))))) × ((List (Int × (Int × (ByteArray × (ByteArray × (ByteArray × Int)))))) × (Int × Int))) ⊕ (Bool ⊕ Unit)) := (bif (decide ((s.2.2.2 < s.2.2.1))) then (bif ((decide (((0 : Int) ≤ s.2.2.2))) && (decide ((s.2.2.2 < ((List.length s.1) : Int))))) then (bif ((decide (((0 : Int) ≤ s.2.2.2))) && (decide ((s.2.2.2 < ((List.length s.2.1) : Int))))) then (bif (!(((List.getD s.1 (Int.toNat s.2.2.2) (Ty.dflt T_api_Post)).1 == (List.getD s.2.1 (Int.toNat s.2.2.2) (Ty.dflt T_api_Post)).1) && (((List.getD s.1 (Int.toNat s.2.2.2) (Ty.dflt T_api_Post)).2.1 == (List.getD s.2.1 (Int.toNat s.2.2.2) (Ty.dflt T_api_Post)).2.1) && (((ByteArray.toList (List.getD s.1 (Int.toNat s.2.2.2) (Ty.dflt T_api_Post)).2.2.1) == (ByteArray.toList (List.getD s.2.1 (Int.toNat s.2.2.2) (Ty.dflt T_api_Post)).2.2.1)) && (((ByteArray.toList (List.getD s.1 (Int.toNat s.2.2.2) (Ty.dflt T_api_Post)).2.2.2.1) == (ByteArray.toList (List.getD s.2.1 (Int.toNat s.2.2.2) (Ty.dflt T_api_Post)).2.2.2.1)) && (((ByteArray.toList (List.getD s.1 (Int.toNat s.2.2.2) (Ty.dflt T_api_Post)).2.2.2.2.1) == (ByteArray.toList (List.getD s.2.1 (Int.toNat s.2.2.2) (Ty.dflt T_api_Post)).2.2.2.2.1)) && (((List.getD s.1 (Int.toNat s.2.2.2) (Ty.dflt T_api_Post)).2.2.2.2.2 == (List.getD s.2.1 (Int.toNat s.2.2.2) (Ty.dflt T_api_Post)).2.2.2.2.2) && true))))))) then (some (.inr (.inl false))) else (some (.inl (s.1, (s.2.1, (s.2.2.1, (IntKind.wrap .i64 (s.2.2.2 + (1 : Int))))))))) else none) else none) else (some (.inr (.inr ()))))
theorem slices_Equal_api_Post_api_Post.t6_ok : ∀ s : Vals slices_Equal_api_Post_api_Post.sh6.tys, turnK P slices_Equal_api_Post_api_Post.H (lp []) (bodyAt (codeOf P 74) 6) 0 slices_Equal_api_Post_api_Post.sh6 slices_Equal_api_Post_api_Post.os6 s some = slices_Equal_api_Post_api_Post.t6 s := fun s => by kernel_rfl
noncomputable def slices_Equal_api_Post_api_Post.l6 : ((List (Int × (Int × (ByteArray × (ByteArray × (ByteArray × Int)))))) × ((List (Int × (Int × (ByteArray × (ByteArray × (ByteArray × Int)))))) × (Int × Int))) → Option (Bool ⊕ Unit) := rounds slices_Equal_api_Post_api_Post.t6
noncomputable def slices_Equal_api_Post_api_Post.f (a : ((List (Int × (Int × (ByteArray × (ByteArray × (ByteArray × Int)))))) × (List (Int × (Int × (ByteArray × (ByteArray × (ByteArray × Int)))))))) : Option Bool := (bif (((List.length a.1) : Int) != ((List.length a.2) : Int)) then (some false) else (((slices_Equal_api_Post_api_Post.l6 (a.1, (a.2, (((List.length a.1) : Int), (0 : Int)))))).bind fun x2 => (match x2 with | .inl x3 => (some x3) | .inr x3 => (some true))))
theorem slices_Equal_api_Post_api_Post.ok : ∀ a : Vals slices_Equal_api_Post_api_Post.As.tys, fnK P slices_Equal_api_Post_api_Post.H (lp [(6, (NodeT.summ ⟨slices_Equal_api_Post_api_Post.sh6, slices_Equal_api_Post_api_Post.os6, slices_Equal_api_Post_api_Post.l6⟩ 0))]) 74 slices_Equal_api_Post_api_Post.As slices_Equal_api_Post_api_Post.m a some = slices_Equal_api_Post_api_Post.f a := fun a => by kernel_rfl
noncomputable abbrev slices_Equal_api_Post_api_Post.row : Row := fnRow 74 slices_Equal_api_Post_api_Post.As slices_Equal_api_Post_api_Post.m slices_Equal_api_Post_api_Post.f
theorem slices_Equal_api_Post_api_Post.row_ok : RowOK P G0 slices_Equal_api_Post_api_Post.row := row_told slices_Equal_api_Post_api_Post.hok (lp_of (l := [(6, (NodeT.summ ⟨slices_Equal_api_Post_api_Post.sh6, slices_Equal_api_Post_api_Post.os6, slices_Equal_api_Post_api_Post.l6⟩ 0))]) ⟨(loop_sum slices_Equal_api_Post_api_Post.hok (by kernel_rfl) (by kernel_rfl) (l := []) trivial slices_Equal_api_Post_api_Post.sh6 slices_Equal_api_Post_api_Post.os6 (by kernel_rfl) slices_Equal_api_Post_api_Post.t6 slices_Equal_api_Post_api_Post.t6_ok), trivial⟩) (fun _ => rfl) slices_Equal_api_Post_api_Post.ok
abbrev shelf_Same.As : Shs := (.cons (.x T_api_State) (.cons (.x T_api_State) .nil))
abbrev shelf_Same.m : Back := [(false, .b)]
noncomputable abbrev shelf_Same.H : HK := hk P G0 E0 J0 [slices_Equal_api_Post_api_Post.row, slices_Equal_api_Hold_api_Hold.row, slices_Equal_api_Dup_api_Dup.row, slices_Equal_api_Claim_api_Claim.row] noLoops 4
theorem shelf_Same.rows : TabOK P G0 (tabF [slices_Equal_api_Post_api_Post.row, slices_Equal_api_Hold_api_Hold.row, slices_Equal_api_Dup_api_Dup.row, slices_Equal_api_Claim_api_Claim.row]) := rows_ok (ws := [slices_Equal_api_Post_api_Post.row, slices_Equal_api_Hold_api_Hold.row, slices_Equal_api_Dup_api_Dup.row, slices_Equal_api_Claim_api_Claim.row]) ⟨slices_Equal_api_Post_api_Post.row_ok, ⟨slices_Equal_api_Hold_api_Hold.row_ok, ⟨slices_Equal_api_Dup_api_Dup.row_ok, ⟨slices_Equal_api_Claim_api_Claim.row_ok, trivial⟩⟩⟩⟩
theorem shelf_Same.hok : HKOK P shelf_Same.H := hk_ok e0_ok j0_ok shelf_Same.rows (fun g n => noLoops_ok g n) 4
noncomputable def shelf_Same.f (a : ((Int × (Int × (Int × ((List (Int × (Int × (ByteArray × (ByteArray × (ByteArray × Int)))))) × ((List (ByteArray × (ByteArray × (ByteArray × (Int × (Int × (Int × Bool))))))) × ((List (Int × (ByteArray × (ByteArray × (ByteArray × Int))))) × ((List (Int × (ByteArray × (ByteArray × (ByteArray × Int))))) × (List (ByteArray × (ByteArray × (ByteArray × (Int × (Int × Int))))))))))))) × (Int × (Int × (Int × ((List (Int × (Int × (ByteArray × (ByteArray × (ByteArray × Int)))))) × ((List (ByteArray × (ByteArray × (ByteArray × (Int × (Int × (Int × Bool))))))) × ((List (Int × (ByteArray × (ByteArray × (ByteArray × Int))))) × ((List (Int × (ByteArray × (ByteArray × (ByteArray × Int))))) × (List (ByteArray × (ByteArray × (ByteArray × (Int × (Int × Int))))))))))))))) : Option Bool := (bif (a.1.1 != a.2.1) then (some false) else (bif (a.1.2.1 != a.2.2.1) then (some false) else (bif (a.1.2.2.1 != a.2.2.2.1) then (some false) else (((slices_Equal_api_Post_api_Post.f (a.1.2.2.2.1, a.2.2.2.2.1))).bind fun x2 => (bif x2 then (((slices_Equal_api_Hold_api_Hold.f (a.1.2.2.2.2.1, a.2.2.2.2.2.1))).bind fun x3 => (bif x3 then (((slices_Equal_api_Dup_api_Dup.f (a.1.2.2.2.2.2.1, a.2.2.2.2.2.2.1))).bind fun x4 => (bif x4 then (((slices_Equal_api_Dup_api_Dup.f (a.1.2.2.2.2.2.2.1, a.2.2.2.2.2.2.2.1))).bind fun x5 => (bif x5 then (((slices_Equal_api_Claim_api_Claim.f (a.1.2.2.2.2.2.2.2, a.2.2.2.2.2.2.2.2))).bind fun x6 => (some x6)) else (some false))) else (some false))) else (some false))) else (some false))))))
theorem shelf_Same.ok : ∀ a : Vals shelf_Same.As.tys, fnK P shelf_Same.H (lp []) 25 shelf_Same.As shelf_Same.m a some = shelf_Same.f a := fun a => by kernel_rfl
noncomputable abbrev shelf_Same.row : Row := fnRow 25 shelf_Same.As shelf_Same.m shelf_Same.f
theorem shelf_Same.row_ok : RowOK P G0 shelf_Same.row := row_told shelf_Same.hok (lp_of (l := []) trivial) (fun _ => rfl) shelf_Same.ok
abbrev bursarref21_Same.As : Shs := (.cons (.x (.l (.g (.p (.i .i64) (.p .s (.p .s (.p .s (.i .i64)))))))) (.cons (.x (.l (.g (.p (.i .i64) (.p .s (.p .s (.p .s (.i .i64)))))))) .nil))
abbrev bursarref21_Same.m : Back := [(false, .b)]
noncomputable abbrev bursarref21_Same.H : HK := hk P G0 E0 J0 [] noLoops 4
theorem bursarref21_Same.rows : TabOK P G0 (tabF []) := rows_ok (ws := []) trivial
theorem bursarref21_Same.hok : HKOK P bursarref21_Same.H := hk_ok e0_ok j0_ok bursarref21_Same.rows (fun g n => noLoops_ok g n) 4
noncomputable abbrev bursarref21_Same.sh6 : SSh := ⟨[(0, (.x (.l (.g (.p (.i .i64) (.p .s (.p .s (.p .s (.i .i64))))))))), (1, (.x (.l (.g (.p (.i .i64) (.p .s (.p .s (.p .s (.i .i64))))))))), (5, (.x (.i .i64)))], []⟩
noncomputable abbrev bursarref21_Same.os6 : PEnds := [(.ret, ⟨[(4, (.x .b))], []⟩), ((.exit 0), ⟨[], []⟩)]
noncomputable def bursarref21_Same.t6 (s : ((List (Int × (ByteArray × (ByteArray × (ByteArray × Int))))) × ((List (Int × (ByteArray × (ByteArray × (ByteArray × Int))))) × Int))) : Option (((List (Int × (ByteArray × (ByteArray × (ByteArray × Int))))) × ((List (Int × (ByteArray × (ByteArray × (ByteArray × Int))))) × Int)) ⊕ (Bool ⊕ Unit)) := (bif (decide ((s.2.2 < ((List.length s.1) : Int)))) then (bif ((decide (((0 : Int) ≤ s.2.2))) && (decide ((s.2.2 < ((List.length s.1) : Int))))) then (bif ((decide (((0 : Int) ≤ s.2.2))) && (decide ((s.2.2 < ((List.length s.2.1) : Int))))) then (bif (!(((List.getD s.1 (Int.toNat s.2.2) (Ty.dflt T_api_Dup)).1 == (List.getD s.2.1 (Int.toNat s.2.2) (Ty.dflt T_api_Dup)).1) && (((ByteArray.toList (List.getD s.1 (Int.toNat s.2.2) (Ty.dflt T_api_Dup)).2.1) == (ByteArray.toList (List.getD s.2.1 (Int.toNat s.2.2) (Ty.dflt T_api_Dup)).2.1)) && (((ByteArray.toList (List.getD s.1 (Int.toNat s.2.2) (Ty.dflt T_api_Dup)).2.2.1) == (ByteArray.toList (List.getD s.2.1 (Int.toNat s.2.2) (Ty.dflt T_api_Dup)).2.2.1)) && (((ByteArray.toList (List.getD s.1 (Int.toNat s.2.2) (Ty.dflt T_api_Dup)).2.2.2.1) == (ByteArray.toList (List.getD s.2.1 (Int.toNat s.2.2) (Ty.dflt T_api_Dup)).2.2.2.1)) && (((List.getD s.1 (Int.toNat s.2.2) (Ty.dflt T_api_Dup)).2.2.2.2 == (List.getD s.2.1 (Int.toNat s.2.2) (Ty.dflt T_api_Dup)).2.2.2.2) && true)))))) then (some (.inr (.inl false))) else (some (.inl (s.1, (s.2.1, (IntKind.wrap .i64 (s.2.2 + (1 : Int)))))))) else none) else none) else (some (.inr (.inr ()))))
theorem bursarref21_Same.t6_ok : ∀ s : Vals bursarref21_Same.sh6.tys, turnK P bursarref21_Same.H (lp []) (bodyAt (codeOf P 34) 6) 0 bursarref21_Same.sh6 bursarref21_Same.os6 s some = bursarref21_Same.t6 s := fun s => by kernel_rfl
noncomputable def bursarref21_Same.l6 : ((List (Int × (ByteArray × (ByteArray × (ByteArray × Int))))) × ((List (Int × (ByteArray × (ByteArray × (ByteArray × Int))))) × Int)) → Option (Bool ⊕ Unit) := rounds bursarref21_Same.t6
noncomputable def bursarref21_Same.f (a : ((List (Int × (ByteArray × (ByteArray × (ByteArray × Int))))) × (List (Int × (ByteArray × (ByteArray × (ByteArray × Int))))))) : Option Bool := (bif (((List.length a.1) : Int) != ((List.length a.2) : Int)) then (some false) else (((bursarref21_Same.l6 (a.1, (a.2, (0 : Int))))).bind fun x2 => (match x2 with | .inl x3 => (some x3) | .inr x3 => (some true))))
theorem bursarref21_Same.ok : ∀ a : Vals bursarref21_Same.As.tys, fnK P bursarref21_Same.H (lp [(6, (NodeT.summ ⟨bursarref21_Same.sh6, bursarref21_Same.os6, bursarref21_Same.l6⟩ 0))]) 34 bursarref21_Same.As bursarref21_Same.m a some = bursarref21_Same.f a := fun a => by kernel_rfl
noncomputable abbrev bursarref21_Same.row : Row := fnRow 34 bursarref21_Same.As bursarref21_Same.m bursarref21_Same.f
theorem bursarref21_Same.row_ok : RowOK P G0 bursarref21_Same.row := row_told bursarref21_Same.hok (lp_of (l := [(6, (NodeT.summ ⟨bursarref21_Same.sh6, bursarref21_Same.os6, bursarref21_Same.l6⟩ 0))]) ⟨(loop_sum bursarref21_Same.hok (by kernel_rfl) (by kernel_rfl) (l := []) trivial bursarref21_Same.sh6 bursarref21_Same.os6 (by kernel_rfl) bursarref21_Same.t6 bursarref21_Same.t6_ok), trivial⟩) (fun _ => rfl) bursarref21_Same.ok
abbrev bursarref27_Same.As : Shs := (.cons (.x T_api_State) (.cons (.x T_api_State) .nil))
abbrev bursarref27_Same.m : Back := [(false, .b)]
noncomputable abbrev bursarref27_Same.H : HK := hk P G0 E0 J0 [bursarref21_Same.row] noLoops 4
theorem bursarref27_Same.rows : TabOK P G0 (tabF [bursarref21_Same.row]) := rows_ok (ws := [bursarref21_Same.row]) ⟨bursarref21_Same.row_ok, trivial⟩
theorem bursarref27_Same.hok : HKOK P bursarref27_Same.H := hk_ok e0_ok j0_ok bursarref27_Same.rows (fun g n => noLoops_ok g n) 4
noncomputable abbrev bursarref27_Same.sh6 : SSh := ⟨[(2, (.pt 0 0)), (3, (.pt 1 0)), (5, (.x (.i .i64)))], [.box (.cons (.x (.i .i64)) (.cons (.x (.i .i64)) (.cons (.x (.i .i64)) (.cons (.x (.l (.g (.p (.i .i64) (.p (.i .i64) (.p .s (.p .s (.p .s (.i .i64))))))))) (.cons (.x (.l (.g (.p .s (.p .s (.p .s (.p (.i .i64) (.p (.i .i64) (.p (.i .i64) .b))))))))) (.cons (.x (.l (.g (.p (.i .i64) (.p .s (.p .s (.p .s (.i .i64)))))))) (.cons (.x (.l (.g (.p (.i .i64) (.p .s (.p .s (.p .s (.i .i64)))))))) (.cons (.x (.l (.g (.p .s (.p .s (.p .s (.p (.i .i64) (.p (.i .i64) (.i .i64))))))))) .nil)))))))), .box (.cons (.x (.i .i64)) (.cons (.x (.i .i64)) (.cons (.x (.i .i64)) (.cons (.x (.l (.g (.p (.i .i64) (.p (.i .i64) (.p .s (.p .s (.p .s (.i .i64))))))))) (.cons (.x (.l (.g (.p .s (.p .s (.p .s (.p (.i .i64) (.p (.i .i64) (.p (.i .i64) .b))))))))) (.cons (.x (.l (.g (.p (.i .i64) (.p .s (.p .s (.p .s (.i .i64)))))))) (.cons (.x (.l (.g (.p (.i .i64) (.p .s (.p .s (.p .s (.i .i64)))))))) (.cons (.x (.l (.g (.p .s (.p .s (.p .s (.p (.i .i64) (.p (.i .i64) (.i .i64))))))))) .nil))))))))]⟩
noncomputable abbrev bursarref27_Same.os6 : PEnds := [(.ret, ⟨[(4, (.x .b))], []⟩), ((.exit 0), ⟨[(2, (.pt 0 0)), (3, (.pt 1 0))], [.box (.cons (.x (.i .i64)) (.cons (.x (.i .i64)) (.cons (.x (.i .i64)) (.cons (.x (.l (.g (.p (.i .i64) (.p (.i .i64) (.p .s (.p .s (.p .s (.i .i64))))))))) (.cons (.x (.l (.g (.p .s (.p .s (.p .s (.p (.i .i64) (.p (.i .i64) (.p (.i .i64) .b))))))))) (.cons (.x (.l (.g (.p (.i .i64) (.p .s (.p .s (.p .s (.i .i64)))))))) (.cons (.x (.l (.g (.p (.i .i64) (.p .s (.p .s (.p .s (.i .i64)))))))) (.cons (.x (.l (.g (.p .s (.p .s (.p .s (.p (.i .i64) (.p (.i .i64) (.i .i64))))))))) .nil)))))))), .box (.cons (.x (.i .i64)) (.cons (.x (.i .i64)) (.cons (.x (.i .i64)) (.cons (.x (.l (.g (.p (.i .i64) (.p (.i .i64) (.p .s (.p .s (.p .s (.i .i64))))))))) (.cons (.x (.l (.g (.p .s (.p .s (.p .s (.p (.i .i64) (.p (.i .i64) (.p (.i .i64) .b))))))))) (.cons (.x (.l (.g (.p (.i .i64) (.p .s (.p .s (.p .s (.i .i64)))))))) (.cons (.x (.l (.g (.p (.i .i64) (.p .s (.p .s (.p .s (.i .i64)))))))) (.cons (.x (.l (.g (.p .s (.p .s (.p .s (.p (.i .i64) (.p (.i .i64) (.i .i64))))))))) .nil))))))))]⟩)]
noncomputable def bursarref27_Same.t6 (s : (Int × (Int × (Int × (Int × ((List (Int × (Int × (ByteArray × (ByteArray × (ByteArray × Int)))))) × ((List (ByteArray × (ByteArray × (ByteArray × (Int × (Int × (Int × Bool))))))) × ((List (Int × (ByteArray × (ByteArray × (ByteArray × Int))))) × ((List (Int × (ByteArray × (ByteArray × (ByteArray × Int))))) × ((List (ByteArray × (ByteArray × (ByteArray × (Int × (Int × Int)))))) × (Int × (Int × (Int × ((List (Int × (Int × (ByteArray × (ByteArray × (ByteArray × Int)))))) × ((List (ByteArray × (ByteArray × (ByteArray × (Int × (Int × (Int × Bool))))))) × ((List (Int × (ByteArray × (ByteArray × (ByteArray × Int))))) × ((List (Int × (ByteArray × (ByteArray × (ByteArray × Int))))) × (List (ByteArray × (ByteArray × (ByteArray × (Int × (Int × Int))))))))))))))))))))))) : Option ((Int × (Int × (Int × (Int × ((List (Int × (Int × (ByteArray × (ByteArray × (ByteArray × Int)))))) × ((List (ByteArray × (ByteArray × (ByteArray × (Int × (Int × (Int × Bool))))))) × ((List (Int × (ByteArray × (ByteArray × (ByteArray × Int))))) × ((List (Int × (ByteArray × (ByteArray × (ByteArray × Int))))) × ((List (ByteArray × (ByteArray × (ByteArray × (Int × (Int × Int)))))) × (Int × (Int × (Int × ((List (Int × (Int × (ByteArray × (ByteArray × (ByteArray × Int)))))) × ((List (ByteArray × (ByteArray × (ByteArray × (Int × (Int × (Int × Bool))))))) × ((List (Int × (ByteArray × (ByteArray × (ByteArray × Int))))) × ((List (Int × (ByteArray × (ByteArray × (ByteArray × Int))))) × (List (ByteArray × (ByteArray × (ByteArray × (Int × (Int × Int)))))))))))))))))))))) ⊕ (Bool ⊕ (Int × (Int × (Int × ((List (Int × (Int × (ByteArray × (ByteArray × (ByteArray × Int)))))) × ((List (ByteArray × (ByteArray × (ByteArray × (Int × (Int × (Int × Bool))))))) × ((List (Int × (ByteArray × (ByteArray × (ByteArray × Int))))) × ((List (Int × (ByteArray × (ByteArray × (ByteArray × Int))))) × ((List (ByteArray × (ByteArray × (ByteArray × (Int × (Int × Int)))))) × (Int × (Int × (Int × ((List (Int × (Int × (ByteArray × (ByteArray × (ByteArray × Int)))))) × ((List (ByteArray × (ByteArray × (ByteArray × (Int × (Int × (Int × Bool))))))) × ((List (Int × (ByteArray × (ByteArray × (ByteArray × Int))))) × ((List (Int × (ByteArray × (ByteArray × (ByteArray × Int))))) × (List (ByteArray × (ByteArray × (ByteArray × (Int × (Int × Int))))))))))))))))))))))) := (bif (decide ((s.1 < ((List.length s.2.2.2.2.1) : Int)))) then (bif ((decide (((0 : Int) ≤ s.1))) && (decide ((s.1 < ((List.length s.2.2.2.2.1) : Int))))) then (bif ((decide (((0 : Int) ≤ s.1))) && (decide ((s.1 < ((List.length s.2.2.2.2.2.2.2.2.2.2.2.2.1) : Int))))) then (bif (!(((List.getD s.2.2.2.2.1 (Int.toNat s.1) (Ty.dflt T_api_Post)).1 == (List.getD s.2.2.2.2.2.2.2.2.2.2.2.2.1 (Int.toNat s.1) (Ty.dflt T_api_Post)).1) && (((List.getD s.2.2.2.2.1 (Int.toNat s.1) (Ty.dflt T_api_Post)).2.1 == (List.getD s.2.2.2.2.2.2.2.2.2.2.2.2.1 (Int.toNat s.1) (Ty.dflt T_api_Post)).2.1) && (((ByteArray.toList (List.getD s.2.2.2.2.1 (Int.toNat s.1) (Ty.dflt T_api_Post)).2.2.1) == (ByteArray.toList (List.getD s.2.2.2.2.2.2.2.2.2.2.2.2.1 (Int.toNat s.1) (Ty.dflt T_api_Post)).2.2.1)) && (((ByteArray.toList (List.getD s.2.2.2.2.1 (Int.toNat s.1) (Ty.dflt T_api_Post)).2.2.2.1) == (ByteArray.toList (List.getD s.2.2.2.2.2.2.2.2.2.2.2.2.1 (Int.toNat s.1) (Ty.dflt T_api_Post)).2.2.2.1)) && (((ByteArray.toList (List.getD s.2.2.2.2.1 (Int.toNat s.1) (Ty.dflt T_api_Post)).2.2.2.2.1) == (ByteArray.toList (List.getD s.2.2.2.2.2.2.2.2.2.2.2.2.1 (Int.toNat s.1) (Ty.dflt T_api_Post)).2.2.2.2.1)) && (((List.getD s.2.2.2.2.1 (Int.toNat s.1) (Ty.dflt T_api_Post)).2.2.2.2.2 == (List.getD s.2.2.2.2.2.2.2.2.2.2.2.2.1 (Int.toNat s.1) (Ty.dflt T_api_Post)).2.2.2.2.2) && true))))))) then (some (.inr (.inl false))) else (some (.inl ((IntKind.wrap .i64 (s.1 + (1 : Int))), s.2)))) else none) else none) else (some (.inr (.inr s.2))))
theorem bursarref27_Same.t6_ok : ∀ s : Vals bursarref27_Same.sh6.tys, turnK P bursarref27_Same.H (lp []) (bodyAt (codeOf P 12) 6) 0 bursarref27_Same.sh6 bursarref27_Same.os6 s some = bursarref27_Same.t6 s := fun s => by kernel_rfl
noncomputable def bursarref27_Same.l6 : (Int × (Int × (Int × (Int × ((List (Int × (Int × (ByteArray × (ByteArray × (ByteArray × Int)))))) × ((List (ByteArray × (ByteArray × (ByteArray × (Int × (Int × (Int × Bool))))))) × ((List (Int × (ByteArray × (ByteArray × (ByteArray × Int))))) × ((List (Int × (ByteArray × (ByteArray × (ByteArray × Int))))) × ((List (ByteArray × (ByteArray × (ByteArray × (Int × (Int × Int)))))) × (Int × (Int × (Int × ((List (Int × (Int × (ByteArray × (ByteArray × (ByteArray × Int)))))) × ((List (ByteArray × (ByteArray × (ByteArray × (Int × (Int × (Int × Bool))))))) × ((List (Int × (ByteArray × (ByteArray × (ByteArray × Int))))) × ((List (Int × (ByteArray × (ByteArray × (ByteArray × Int))))) × (List (ByteArray × (ByteArray × (ByteArray × (Int × (Int × Int)))))))))))))))))))))) → Option (Bool ⊕ (Int × (Int × (Int × ((List (Int × (Int × (ByteArray × (ByteArray × (ByteArray × Int)))))) × ((List (ByteArray × (ByteArray × (ByteArray × (Int × (Int × (Int × Bool))))))) × ((List (Int × (ByteArray × (ByteArray × (ByteArray × Int))))) × ((List (Int × (ByteArray × (ByteArray × (ByteArray × Int))))) × ((List (ByteArray × (ByteArray × (ByteArray × (Int × (Int × Int)))))) × (Int × (Int × (Int × ((List (Int × (Int × (ByteArray × (ByteArray × (ByteArray × Int)))))) × ((List (ByteArray × (ByteArray × (ByteArray × (Int × (Int × (Int × Bool))))))) × ((List (Int × (ByteArray × (ByteArray × (ByteArray × Int))))) × ((List (Int × (ByteArray × (ByteArray × (ByteArray × Int))))) × (List (ByteArray × (ByteArray × (ByteArray × (Int × (Int × Int)))))))))))))))))))))) := rounds bursarref27_Same.t6
noncomputable abbrev bursarref27_Same.sh9 : SSh := ⟨[(2, (.pt 0 0)), (3, (.pt 1 0)), (6, (.x (.i .i64)))], [.box (.cons (.x (.i .i64)) (.cons (.x (.i .i64)) (.cons (.x (.i .i64)) (.cons (.x (.l (.g (.p (.i .i64) (.p (.i .i64) (.p .s (.p .s (.p .s (.i .i64))))))))) (.cons (.x (.l (.g (.p .s (.p .s (.p .s (.p (.i .i64) (.p (.i .i64) (.p (.i .i64) .b))))))))) (.cons (.x (.l (.g (.p (.i .i64) (.p .s (.p .s (.p .s (.i .i64)))))))) (.cons (.x (.l (.g (.p (.i .i64) (.p .s (.p .s (.p .s (.i .i64)))))))) (.cons (.x (.l (.g (.p .s (.p .s (.p .s (.p (.i .i64) (.p (.i .i64) (.i .i64))))))))) .nil)))))))), .box (.cons (.x (.i .i64)) (.cons (.x (.i .i64)) (.cons (.x (.i .i64)) (.cons (.x (.l (.g (.p (.i .i64) (.p (.i .i64) (.p .s (.p .s (.p .s (.i .i64))))))))) (.cons (.x (.l (.g (.p .s (.p .s (.p .s (.p (.i .i64) (.p (.i .i64) (.p (.i .i64) .b))))))))) (.cons (.x (.l (.g (.p (.i .i64) (.p .s (.p .s (.p .s (.i .i64)))))))) (.cons (.x (.l (.g (.p (.i .i64) (.p .s (.p .s (.p .s (.i .i64)))))))) (.cons (.x (.l (.g (.p .s (.p .s (.p .s (.p (.i .i64) (.p (.i .i64) (.i .i64))))))))) .nil))))))))]⟩
noncomputable abbrev bursarref27_Same.os9 : PEnds := [(.ret, ⟨[(4, (.x .b))], []⟩), ((.exit 2), ⟨[(2, (.pt 0 0)), (3, (.pt 1 0))], [.box (.cons (.x (.i .i64)) (.cons (.x (.i .i64)) (.cons (.x (.i .i64)) (.cons (.x (.l (.g (.p (.i .i64) (.p (.i .i64) (.p .s (.p .s (.p .s (.i .i64))))))))) (.cons (.x (.l (.g (.p .s (.p .s (.p .s (.p (.i .i64) (.p (.i .i64) (.p (.i .i64) .b))))))))) (.cons (.x (.l (.g (.p (.i .i64) (.p .s (.p .s (.p .s (.i .i64)))))))) (.cons (.x (.l (.g (.p (.i .i64) (.p .s (.p .s (.p .s (.i .i64)))))))) (.cons (.x (.l (.g (.p .s (.p .s (.p .s (.p (.i .i64) (.p (.i .i64) (.i .i64))))))))) .nil)))))))), .box (.cons (.x (.i .i64)) (.cons (.x (.i .i64)) (.cons (.x (.i .i64)) (.cons (.x (.l (.g (.p (.i .i64) (.p (.i .i64) (.p .s (.p .s (.p .s (.i .i64))))))))) (.cons (.x (.l (.g (.p .s (.p .s (.p .s (.p (.i .i64) (.p (.i .i64) (.p (.i .i64) .b))))))))) (.cons (.x (.l (.g (.p (.i .i64) (.p .s (.p .s (.p .s (.i .i64)))))))) (.cons (.x (.l (.g (.p (.i .i64) (.p .s (.p .s (.p .s (.i .i64)))))))) (.cons (.x (.l (.g (.p .s (.p .s (.p .s (.p (.i .i64) (.p (.i .i64) (.i .i64))))))))) .nil))))))))]⟩)]
noncomputable def bursarref27_Same.t9 (s : (Int × (Int × (Int × (Int × ((List (Int × (Int × (ByteArray × (ByteArray × (ByteArray × Int)))))) × ((List (ByteArray × (ByteArray × (ByteArray × (Int × (Int × (Int × Bool))))))) × ((List (Int × (ByteArray × (ByteArray × (ByteArray × Int))))) × ((List (Int × (ByteArray × (ByteArray × (ByteArray × Int))))) × ((List (ByteArray × (ByteArray × (ByteArray × (Int × (Int × Int)))))) × (Int × (Int × (Int × ((List (Int × (Int × (ByteArray × (ByteArray × (ByteArray × Int)))))) × ((List (ByteArray × (ByteArray × (ByteArray × (Int × (Int × (Int × Bool))))))) × ((List (Int × (ByteArray × (ByteArray × (ByteArray × Int))))) × ((List (Int × (ByteArray × (ByteArray × (ByteArray × Int))))) × (List (ByteArray × (ByteArray × (ByteArray × (Int × (Int × Int))))))))))))))))))))))) : Option ((Int × (Int × (Int × (Int × ((List (Int × (Int × (ByteArray × (ByteArray × (ByteArray × Int)))))) × ((List (ByteArray × (ByteArray × (ByteArray × (Int × (Int × (Int × Bool))))))) × ((List (Int × (ByteArray × (ByteArray × (ByteArray × Int))))) × ((List (Int × (ByteArray × (ByteArray × (ByteArray × Int))))) × ((List (ByteArray × (ByteArray × (ByteArray × (Int × (Int × Int)))))) × (Int × (Int × (Int × ((List (Int × (Int × (ByteArray × (ByteArray × (ByteArray × Int)))))) × ((List (ByteArray × (ByteArray × (ByteArray × (Int × (Int × (Int × Bool))))))) × ((List (Int × (ByteArray × (ByteArray × (ByteArray × Int))))) × ((List (Int × (ByteArray × (ByteArray × (ByteArray × Int))))) × (List (ByteArray × (ByteArray × (ByteArray × (Int × (Int × Int)))))))))))))))))))))) ⊕ (Bool ⊕ (Int × (Int × (Int × ((List (Int × (Int × (ByteArray × (ByteArray × (ByteArray × Int)))))) × ((List (ByteArray × (ByteArray × (ByteArray × (Int × (Int × (Int × Bool))))))) × ((List (Int × (ByteArray × (ByteArray × (ByteArray × Int))))) × ((List (Int × (ByteArray × (ByteArray × (ByteArray × Int))))) × ((List (ByteArray × (ByteArray × (ByteArray × (Int × (Int × Int)))))) × (Int × (Int × (Int × ((List (Int × (Int × (ByteArray × (ByteArray × (ByteArray × Int)))))) × ((List (ByteArray × (ByteArray × (ByteArray × (Int × (Int × (Int × Bool))))))) × ((List (Int × (ByteArray × (ByteArray × (ByteArray × Int))))) × ((List (Int × (ByteArray × (ByteArray × (ByteArray × Int))))) × (List (ByteArray × (ByteArray × (ByteArray × (Int × (Int × Int))))))))))))))))))))))) := (bif (decide ((s.1 < ((List.length s.2.2.2.2.2.1) : Int)))) then (bif ((decide (((0 : Int) ≤ s.1))) && (decide ((s.1 < ((List.length s.2.2.2.2.2.1) : Int))))) then (bif ((decide (((0 : Int) ≤ s.1))) && (decide ((s.1 < ((List.length s.2.2.2.2.2.2.2.2.2.2.2.2.2.1) : Int))))) then (bif (!(((ByteArray.toList (List.getD s.2.2.2.2.2.1 (Int.toNat s.1) (Ty.dflt T_api_Hold)).1) == (ByteArray.toList (List.getD s.2.2.2.2.2.2.2.2.2.2.2.2.2.1 (Int.toNat s.1) (Ty.dflt T_api_Hold)).1)) && (((ByteArray.toList (List.getD s.2.2.2.2.2.1 (Int.toNat s.1) (Ty.dflt T_api_Hold)).2.1) == (ByteArray.toList (List.getD s.2.2.2.2.2.2.2.2.2.2.2.2.2.1 (Int.toNat s.1) (Ty.dflt T_api_Hold)).2.1)) && (((ByteArray.toList (List.getD s.2.2.2.2.2.1 (Int.toNat s.1) (Ty.dflt T_api_Hold)).2.2.1) == (ByteArray.toList (List.getD s.2.2.2.2.2.2.2.2.2.2.2.2.2.1 (Int.toNat s.1) (Ty.dflt T_api_Hold)).2.2.1)) && (((List.getD s.2.2.2.2.2.1 (Int.toNat s.1) (Ty.dflt T_api_Hold)).2.2.2.1 == (List.getD s.2.2.2.2.2.2.2.2.2.2.2.2.2.1 (Int.toNat s.1) (Ty.dflt T_api_Hold)).2.2.2.1) && (((List.getD s.2.2.2.2.2.1 (Int.toNat s.1) (Ty.dflt T_api_Hold)).2.2.2.2.1 == (List.getD s.2.2.2.2.2.2.2.2.2.2.2.2.2.1 (Int.toNat s.1) (Ty.dflt T_api_Hold)).2.2.2.2.1) && (((List.getD s.2.2.2.2.2.1 (Int.toNat s.1) (Ty.dflt T_api_Hold)).2.2.2.2.2.1 == (List.getD s.2.2.2.2.2.2.2.2.2.2.2.2.2.1 (Int.toNat s.1) (Ty.dflt T_api_Hold)).2.2.2.2.2.1) && (((List.getD s.2.2.2.2.2.1 (Int.toNat s.1) (Ty.dflt T_api_Hold)).2.2.2.2.2.2 == (List.getD s.2.2.2.2.2.2.2.2.2.2.2.2.2.1 (Int.toNat s.1) (Ty.dflt T_api_Hold)).2.2.2.2.2.2) && true)))))))) then (some (.inr (.inl false))) else (some (.inl ((IntKind.wrap .i64 (s.1 + (1 : Int))), s.2)))) else none) else none) else (some (.inr (.inr s.2))))
theorem bursarref27_Same.t9_ok : ∀ s : Vals bursarref27_Same.sh9.tys, turnK P bursarref27_Same.H (lp []) (bodyAt (codeOf P 12) 9) 0 bursarref27_Same.sh9 bursarref27_Same.os9 s some = bursarref27_Same.t9 s := fun s => by kernel_rfl
noncomputable def bursarref27_Same.l9 : (Int × (Int × (Int × (Int × ((List (Int × (Int × (ByteArray × (ByteArray × (ByteArray × Int)))))) × ((List (ByteArray × (ByteArray × (ByteArray × (Int × (Int × (Int × Bool))))))) × ((List (Int × (ByteArray × (ByteArray × (ByteArray × Int))))) × ((List (Int × (ByteArray × (ByteArray × (ByteArray × Int))))) × ((List (ByteArray × (ByteArray × (ByteArray × (Int × (Int × Int)))))) × (Int × (Int × (Int × ((List (Int × (Int × (ByteArray × (ByteArray × (ByteArray × Int)))))) × ((List (ByteArray × (ByteArray × (ByteArray × (Int × (Int × (Int × Bool))))))) × ((List (Int × (ByteArray × (ByteArray × (ByteArray × Int))))) × ((List (Int × (ByteArray × (ByteArray × (ByteArray × Int))))) × (List (ByteArray × (ByteArray × (ByteArray × (Int × (Int × Int)))))))))))))))))))))) → Option (Bool ⊕ (Int × (Int × (Int × ((List (Int × (Int × (ByteArray × (ByteArray × (ByteArray × Int)))))) × ((List (ByteArray × (ByteArray × (ByteArray × (Int × (Int × (Int × Bool))))))) × ((List (Int × (ByteArray × (ByteArray × (ByteArray × Int))))) × ((List (Int × (ByteArray × (ByteArray × (ByteArray × Int))))) × ((List (ByteArray × (ByteArray × (ByteArray × (Int × (Int × Int)))))) × (Int × (Int × (Int × ((List (Int × (Int × (ByteArray × (ByteArray × (ByteArray × Int)))))) × ((List (ByteArray × (ByteArray × (ByteArray × (Int × (Int × (Int × Bool))))))) × ((List (Int × (ByteArray × (ByteArray × (ByteArray × Int))))) × ((List (Int × (ByteArray × (ByteArray × (ByteArray × Int))))) × (List (ByteArray × (ByteArray × (ByteArray × (Int × (Int × Int)))))))))))))))))))))) := rounds bursarref27_Same.t9
noncomputable abbrev bursarref27_Same.sh12 : SSh := ⟨[(2, (.pt 0 0)), (3, (.pt 1 0)), (7, (.x (.i .i64)))], [.box (.cons (.x (.i .i64)) (.cons (.x (.i .i64)) (.cons (.x (.i .i64)) (.cons (.x (.l (.g (.p (.i .i64) (.p (.i .i64) (.p .s (.p .s (.p .s (.i .i64))))))))) (.cons (.x (.l (.g (.p .s (.p .s (.p .s (.p (.i .i64) (.p (.i .i64) (.p (.i .i64) .b))))))))) (.cons (.x (.l (.g (.p (.i .i64) (.p .s (.p .s (.p .s (.i .i64)))))))) (.cons (.x (.l (.g (.p (.i .i64) (.p .s (.p .s (.p .s (.i .i64)))))))) (.cons (.x (.l (.g (.p .s (.p .s (.p .s (.p (.i .i64) (.p (.i .i64) (.i .i64))))))))) .nil)))))))), .box (.cons (.x (.i .i64)) (.cons (.x (.i .i64)) (.cons (.x (.i .i64)) (.cons (.x (.l (.g (.p (.i .i64) (.p (.i .i64) (.p .s (.p .s (.p .s (.i .i64))))))))) (.cons (.x (.l (.g (.p .s (.p .s (.p .s (.p (.i .i64) (.p (.i .i64) (.p (.i .i64) .b))))))))) (.cons (.x (.l (.g (.p (.i .i64) (.p .s (.p .s (.p .s (.i .i64)))))))) (.cons (.x (.l (.g (.p (.i .i64) (.p .s (.p .s (.p .s (.i .i64)))))))) (.cons (.x (.l (.g (.p .s (.p .s (.p .s (.p (.i .i64) (.p (.i .i64) (.i .i64))))))))) .nil))))))))]⟩
noncomputable abbrev bursarref27_Same.os12 : PEnds := [(.ret, ⟨[(4, (.x .b))], []⟩), ((.exit 4), ⟨[(2, (.pt 0 0)), (3, (.pt 1 0))], [.box (.cons (.x (.i .i64)) (.cons (.x (.i .i64)) (.cons (.x (.i .i64)) (.cons (.x (.l (.g (.p (.i .i64) (.p (.i .i64) (.p .s (.p .s (.p .s (.i .i64))))))))) (.cons (.x (.l (.g (.p .s (.p .s (.p .s (.p (.i .i64) (.p (.i .i64) (.p (.i .i64) .b))))))))) (.cons (.x (.l (.g (.p (.i .i64) (.p .s (.p .s (.p .s (.i .i64)))))))) (.cons (.x (.l (.g (.p (.i .i64) (.p .s (.p .s (.p .s (.i .i64)))))))) (.cons (.x (.l (.g (.p .s (.p .s (.p .s (.p (.i .i64) (.p (.i .i64) (.i .i64))))))))) .nil)))))))), .box (.cons (.x (.i .i64)) (.cons (.x (.i .i64)) (.cons (.x (.i .i64)) (.cons (.x (.l (.g (.p (.i .i64) (.p (.i .i64) (.p .s (.p .s (.p .s (.i .i64))))))))) (.cons (.x (.l (.g (.p .s (.p .s (.p .s (.p (.i .i64) (.p (.i .i64) (.p (.i .i64) .b))))))))) (.cons (.x (.l (.g (.p (.i .i64) (.p .s (.p .s (.p .s (.i .i64)))))))) (.cons (.x (.l (.g (.p (.i .i64) (.p .s (.p .s (.p .s (.i .i64)))))))) (.cons (.x (.l (.g (.p .s (.p .s (.p .s (.p (.i .i64) (.p (.i .i64) (.i .i64))))))))) .nil))))))))]⟩)]
noncomputable def bursarref27_Same.t12 (s : (Int × (Int × (Int × (Int × ((List (Int × (Int × (ByteArray × (ByteArray × (ByteArray × Int)))))) × ((List (ByteArray × (ByteArray × (ByteArray × (Int × (Int × (Int × Bool))))))) × ((List (Int × (ByteArray × (ByteArray × (ByteArray × Int))))) × ((List (Int × (ByteArray × (ByteArray × (ByteArray × Int))))) × ((List (ByteArray × (ByteArray × (ByteArray × (Int × (Int × Int)))))) × (Int × (Int × (Int × ((List (Int × (Int × (ByteArray × (ByteArray × (ByteArray × Int)))))) × ((List (ByteArray × (ByteArray × (ByteArray × (Int × (Int × (Int × Bool))))))) × ((List (Int × (ByteArray × (ByteArray × (ByteArray × Int))))) × ((List (Int × (ByteArray × (ByteArray × (ByteArray × Int))))) × (List (ByteArray × (ByteArray × (ByteArray × (Int × (Int × Int))))))))))))))))))))))) : Option ((Int × (Int × (Int × (Int × ((List (Int × (Int × (ByteArray × (ByteArray × (ByteArray × Int)))))) × ((List (ByteArray × (ByteArray × (ByteArray × (Int × (Int × (Int × Bool))))))) × ((List (Int × (ByteArray × (ByteArray × (ByteArray × Int))))) × ((List (Int × (ByteArray × (ByteArray × (ByteArray × Int))))) × ((List (ByteArray × (ByteArray × (ByteArray × (Int × (Int × Int)))))) × (Int × (Int × (Int × ((List (Int × (Int × (ByteArray × (ByteArray × (ByteArray × Int)))))) × ((List (ByteArray × (ByteArray × (ByteArray × (Int × (Int × (Int × Bool))))))) × ((List (Int × (ByteArray × (ByteArray × (ByteArray × Int))))) × ((List (Int × (ByteArray × (ByteArray × (ByteArray × Int))))) × (List (ByteArray × (ByteArray × (ByteArray × (Int × (Int × Int)))))))))))))))))))))) ⊕ (Bool ⊕ (Int × (Int × (Int × ((List (Int × (Int × (ByteArray × (ByteArray × (ByteArray × Int)))))) × ((List (ByteArray × (ByteArray × (ByteArray × (Int × (Int × (Int × Bool))))))) × ((List (Int × (ByteArray × (ByteArray × (ByteArray × Int))))) × ((List (Int × (ByteArray × (ByteArray × (ByteArray × Int))))) × ((List (ByteArray × (ByteArray × (ByteArray × (Int × (Int × Int)))))) × (Int × (Int × (Int × ((List (Int × (Int × (ByteArray × (ByteArray × (ByteArray × Int)))))) × ((List (ByteArray × (ByteArray × (ByteArray × (Int × (Int × (Int × Bool))))))) × ((List (Int × (ByteArray × (ByteArray × (ByteArray × Int))))) × ((List (Int × (ByteArray × (ByteArray × (ByteArray × Int))))) × (List (ByteArray × (ByteArray × (ByteArray × (Int × (Int × Int))))))))))))))))))))))) := (bif (decide ((s.1 < ((List.length s.2.2.2.2.2.2.2.2.1) : Int)))) then (bif ((decide (((0 : Int) ≤ s.1))) && (decide ((s.1 < ((List.length s.2.2.2.2.2.2.2.2.1) : Int))))) then (bif ((decide (((0 : Int) ≤ s.1))) && (decide ((s.1 < ((List.length s.2.2.2.2.2.2.2.2.2.2.2.2.2.2.2.2) : Int))))) then (bif (!(((ByteArray.toList (List.getD s.2.2.2.2.2.2.2.2.1 (Int.toNat s.1) (Ty.dflt T_api_Claim)).1) == (ByteArray.toList (List.getD s.2.2.2.2.2.2.2.2.2.2.2.2.2.2.2.2 (Int.toNat s.1) (Ty.dflt T_api_Claim)).1)) && (((ByteArray.toList (List.getD s.2.2.2.2.2.2.2.2.1 (Int.toNat s.1) (Ty.dflt T_api_Claim)).2.1) == (ByteArray.toList (List.getD s.2.2.2.2.2.2.2.2.2.2.2.2.2.2.2.2 (Int.toNat s.1) (Ty.dflt T_api_Claim)).2.1)) && (((ByteArray.toList (List.getD s.2.2.2.2.2.2.2.2.1 (Int.toNat s.1) (Ty.dflt T_api_Claim)).2.2.1) == (ByteArray.toList (List.getD s.2.2.2.2.2.2.2.2.2.2.2.2.2.2.2.2 (Int.toNat s.1) (Ty.dflt T_api_Claim)).2.2.1)) && (((List.getD s.2.2.2.2.2.2.2.2.1 (Int.toNat s.1) (Ty.dflt T_api_Claim)).2.2.2.1 == (List.getD s.2.2.2.2.2.2.2.2.2.2.2.2.2.2.2.2 (Int.toNat s.1) (Ty.dflt T_api_Claim)).2.2.2.1) && (((List.getD s.2.2.2.2.2.2.2.2.1 (Int.toNat s.1) (Ty.dflt T_api_Claim)).2.2.2.2.1 == (List.getD s.2.2.2.2.2.2.2.2.2.2.2.2.2.2.2.2 (Int.toNat s.1) (Ty.dflt T_api_Claim)).2.2.2.2.1) && (((List.getD s.2.2.2.2.2.2.2.2.1 (Int.toNat s.1) (Ty.dflt T_api_Claim)).2.2.2.2.2 == (List.getD s.2.2.2.2.2.2.2.2.2.2.2.2.2.2.2.2 (Int.toNat s.1) (Ty.dflt T_api_Claim)).2.2.2.2.2) && true))))))) then (some (.inr (.inl false))) else (some (.inl ((IntKind.wrap .i64 (s.1 + (1 : Int))), s.2)))) else none) else none) else (some (.inr (.inr s.2))))
theorem bursarref27_Same.t12_ok : ∀ s : Vals bursarref27_Same.sh12.tys, turnK P bursarref27_Same.H (lp []) (bodyAt (codeOf P 12) 12) 0 bursarref27_Same.sh12 bursarref27_Same.os12 s some = bursarref27_Same.t12 s := fun s => by kernel_rfl
noncomputable def bursarref27_Same.l12 : (Int × (Int × (Int × (Int × ((List (Int × (Int × (ByteArray × (ByteArray × (ByteArray × Int)))))) × ((List (ByteArray × (ByteArray × (ByteArray × (Int × (Int × (Int × Bool))))))) × ((List (Int × (ByteArray × (ByteArray × (ByteArray × Int))))) × ((List (Int × (ByteArray × (ByteArray × (ByteArray × Int))))) × ((List (ByteArray × (ByteArray × (ByteArray × (Int × (Int × Int)))))) × (Int × (Int × (Int × ((List (Int × (Int × (ByteArray × (ByteArray × (ByteArray × Int)))))) × ((List (ByteArray × (ByteArray × (ByteArray × (Int × (Int × (Int × Bool))))))) × ((List (Int × (ByteArray × (ByteArray × (ByteArray × Int))))) × ((List (Int × (ByteArray × (ByteArray × (ByteArray × Int))))) × (List (ByteArray × (ByteArray × (ByteArray × (Int × (Int × Int)))))))))))))))))))))) → Option (Bool ⊕ (Int × (Int × (Int × ((List (Int × (Int × (ByteArray × (ByteArray × (ByteArray × Int)))))) × ((List (ByteArray × (ByteArray × (ByteArray × (Int × (Int × (Int × Bool))))))) × ((List (Int × (ByteArray × (ByteArray × (ByteArray × Int))))) × ((List (Int × (ByteArray × (ByteArray × (ByteArray × Int))))) × ((List (ByteArray × (ByteArray × (ByteArray × (Int × (Int × Int)))))) × (Int × (Int × (Int × ((List (Int × (Int × (ByteArray × (ByteArray × (ByteArray × Int)))))) × ((List (ByteArray × (ByteArray × (ByteArray × (Int × (Int × (Int × Bool))))))) × ((List (Int × (ByteArray × (ByteArray × (ByteArray × Int))))) × ((List (Int × (ByteArray × (ByteArray × (ByteArray × Int))))) × (List (ByteArray × (ByteArray × (ByteArray × (Int × (Int × Int)))))))))))))))))))))) := rounds bursarref27_Same.t12
noncomputable def bursarref27_Same.f (a : ((Int × (Int × (Int × ((List (Int × (Int × (ByteArray × (ByteArray × (ByteArray × Int)))))) × ((List (ByteArray × (ByteArray × (ByteArray × (Int × (Int × (Int × Bool))))))) × ((List (Int × (ByteArray × (ByteArray × (ByteArray × Int))))) × ((List (Int × (ByteArray × (ByteArray × (ByteArray × Int))))) × (List (ByteArray × (ByteArray × (ByteArray × (Int × (Int × Int))))))))))))) × (Int × (Int × (Int × ((List (Int × (Int × (ByteArray × (ByteArray × (ByteArray × Int)))))) × ((List (ByteArray × (ByteArray × (ByteArray × (Int × (Int × (Int × Bool))))))) × ((List (Int × (ByteArray × (ByteArray × (ByteArray × Int))))) × ((List (Int × (ByteArray × (ByteArray × (ByteArray × Int))))) × (List (ByteArray × (ByteArray × (ByteArray × (Int × (Int × Int))))))))))))))) : Option Bool := (bif (a.1.1 != a.2.1) then (some false) else (bif (a.1.2.1 != a.2.2.1) then (some false) else (bif (a.1.2.2.1 != a.2.2.2.1) then (some false) else (bif (((List.length a.1.2.2.2.1) : Int) != ((List.length a.2.2.2.2.1) : Int)) then (some false) else (bif (((List.length a.1.2.2.2.2.1) : Int) != ((List.length a.2.2.2.2.2.1) : Int)) then (some false) else (bif (((List.length a.1.2.2.2.2.2.2.2) : Int) != ((List.length a.2.2.2.2.2.2.2.2) : Int)) then (some false) else (((bursarref27_Same.l6 ((0 : Int), (a.1.1, (a.1.2.1, (a.1.2.2.1, (a.1.2.2.2.1, (a.1.2.2.2.2.1, (a.1.2.2.2.2.2.1, (a.1.2.2.2.2.2.2.1, (a.1.2.2.2.2.2.2.2, a.2))))))))))).bind fun x2 => (match x2 with | .inl x3 => (some x3) | .inr x3 => (((bursarref27_Same.l9 ((0 : Int), x3))).bind fun x4 => (match x4 with | .inl x5 => (some x5) | .inr x5 => (((bursarref27_Same.l12 ((0 : Int), x5))).bind fun x6 => (match x6 with | .inl x7 => (some x7) | .inr x7 => (((bursarref21_Same.f (x7.2.2.2.2.2.1, x7.2.2.2.2.2.2.2.2.2.2.2.2.2.1))).bind fun x8 => (bif x8 then (((bursarref21_Same.f (x7.2.2.2.2.2.2.1, x7.2.2.2.2.2.2.2.2.2.2.2.2.2.2.1))).bind fun x9 => (some x9)) else (some false)))))))))))))))
theorem bursarref27_Same.ok : ∀ a : Vals bursarref27_Same.As.tys, fnK P bursarref27_Same.H (lp [(6, (NodeT.summ ⟨bursarref27_Same.sh6, bursarref27_Same.os6, bursarref27_Same.l6⟩ 0)), (9, (NodeT.summ ⟨bursarref27_Same.sh9, bursarref27_Same.os9, bursarref27_Same.l9⟩ 0)), (12, (NodeT.summ ⟨bursarref27_Same.sh12, bursarref27_Same.os12, bursarref27_Same.l12⟩ 0))]) 12 bursarref27_Same.As bursarref27_Same.m a some = bursarref27_Same.f a := fun a => by kernel_rfl
noncomputable abbrev bursarref27_Same.row : Row := fnRow 12 bursarref27_Same.As bursarref27_Same.m bursarref27_Same.f
theorem bursarref27_Same.row_ok : RowOK P G0 bursarref27_Same.row := row_told bursarref27_Same.hok (lp_of (l := [(6, (NodeT.summ ⟨bursarref27_Same.sh6, bursarref27_Same.os6, bursarref27_Same.l6⟩ 0)), (9, (NodeT.summ ⟨bursarref27_Same.sh9, bursarref27_Same.os9, bursarref27_Same.l9⟩ 0)), (12, (NodeT.summ ⟨bursarref27_Same.sh12, bursarref27_Same.os12, bursarref27_Same.l12⟩ 0))]) ⟨(loop_sum bursarref27_Same.hok (by kernel_rfl) (by kernel_rfl) (l := []) trivial bursarref27_Same.sh6 bursarref27_Same.os6 (by kernel_rfl) bursarref27_Same.t6 bursarref27_Same.t6_ok), ⟨(loop_sum bursarref27_Same.hok (by kernel_rfl) (by kernel_rfl) (l := []) trivial bursarref27_Same.sh9 bursarref27_Same.os9 (by kernel_rfl) bursarref27_Same.t9 bursarref27_Same.t9_ok), ⟨(loop_sum bursarref27_Same.hok (by kernel_rfl) (by kernel_rfl) (l := []) trivial bursarref27_Same.sh12 bursarref27_Same.os12 (by kernel_rfl) bursarref27_Same.t12 bursarref27_Same.t12_ok), trivial⟩⟩⟩) (fun _ => rfl) bursarref27_Same.ok
abbrev bursarref09_SamePairs.As : Shs := (.cons (.x (.l (.g (.p .s .s)))) (.cons (.x (.l (.g (.p .s .s)))) .nil))
abbrev bursarref09_SamePairs.m : Back := [(false, .b)]
noncomputable abbrev bursarref09_SamePairs.H : HK := hk P G0 E0 J0 [] noLoops 4
theorem bursarref09_SamePairs.rows : TabOK P G0 (tabF []) := rows_ok (ws := []) trivial
theorem bursarref09_SamePairs.hok : HKOK P bursarref09_SamePairs.H := hk_ok e0_ok j0_ok bursarref09_SamePairs.rows (fun g n => noLoops_ok g n) 4
noncomputable abbrev bursarref09_SamePairs.sh6 : SSh := ⟨[(0, (.x (.l (.g (.p .s .s))))), (1, (.x (.l (.g (.p .s .s))))), (5, (.x (.i .i64)))], []⟩
noncomputable abbrev bursarref09_SamePairs.os6 : PEnds := [(.ret, ⟨[(4, (.x .b))], []⟩), ((.exit 0), ⟨[], []⟩)]
noncomputable def bursarref09_SamePairs.t6 (s : ((List (ByteArray × ByteArray)) × ((List (ByteArray × ByteArray)) × Int))) : Option (((List (ByteArray × ByteArray)) × ((List (ByteArray × ByteArray)) × Int)) ⊕ (Bool ⊕ Unit)) := (bif (decide ((s.2.2 < ((List.length s.1) : Int)))) then (bif ((decide (((0 : Int) ≤ s.2.2))) && (decide ((s.2.2 < ((List.length s.1) : Int))))) then (bif ((decide (((0 : Int) ≤ s.2.2))) && (decide ((s.2.2 < ((List.length s.2.1) : Int))))) then (bif (!(((ByteArray.toList (List.getD s.1 (Int.toNat s.2.2) (Ty.dflt T_api_Pair)).1) == (ByteArray.toList (List.getD s.2.1 (Int.toNat s.2.2) (Ty.dflt T_api_Pair)).1)) && (((ByteArray.toList (List.getD s.1 (Int.toNat s.2.2) (Ty.dflt T_api_Pair)).2) == (ByteArray.toList (List.getD s.2.1 (Int.toNat s.2.2) (Ty.dflt T_api_Pair)).2)) && true))) then (some (.inr (.inl false))) else (some (.inl (s.1, (s.2.1, (IntKind.wrap .i64 (s.2.2 + (1 : Int)))))))) else none) else none) else (some (.inr (.inr ()))))
theorem bursarref09_SamePairs.t6_ok : ∀ s : Vals bursarref09_SamePairs.sh6.tys, turnK P bursarref09_SamePairs.H (lp []) (bodyAt (codeOf P 16) 6) 0 bursarref09_SamePairs.sh6 bursarref09_SamePairs.os6 s some = bursarref09_SamePairs.t6 s := fun s => by kernel_rfl
noncomputable def bursarref09_SamePairs.l6 : ((List (ByteArray × ByteArray)) × ((List (ByteArray × ByteArray)) × Int)) → Option (Bool ⊕ Unit) := rounds bursarref09_SamePairs.t6
noncomputable def bursarref09_SamePairs.f (a : ((List (ByteArray × ByteArray)) × (List (ByteArray × ByteArray)))) : Option Bool := (bif (((List.length a.1) : Int) != ((List.length a.2) : Int)) then (some false) else (((bursarref09_SamePairs.l6 (a.1, (a.2, (0 : Int))))).bind fun x2 => (match x2 with | .inl x3 => (some x3) | .inr x3 => (some true))))
theorem bursarref09_SamePairs.ok : ∀ a : Vals bursarref09_SamePairs.As.tys, fnK P bursarref09_SamePairs.H (lp [(6, (NodeT.summ ⟨bursarref09_SamePairs.sh6, bursarref09_SamePairs.os6, bursarref09_SamePairs.l6⟩ 0))]) 16 bursarref09_SamePairs.As bursarref09_SamePairs.m a some = bursarref09_SamePairs.f a := fun a => by kernel_rfl
noncomputable abbrev bursarref09_SamePairs.row : Row := fnRow 16 bursarref09_SamePairs.As bursarref09_SamePairs.m bursarref09_SamePairs.f
theorem bursarref09_SamePairs.row_ok : RowOK P G0 bursarref09_SamePairs.row := row_told bursarref09_SamePairs.hok (lp_of (l := [(6, (NodeT.summ ⟨bursarref09_SamePairs.sh6, bursarref09_SamePairs.os6, bursarref09_SamePairs.l6⟩ 0))]) ⟨(loop_sum bursarref09_SamePairs.hok (by kernel_rfl) (by kernel_rfl) (l := []) trivial bursarref09_SamePairs.sh6 bursarref09_SamePairs.os6 (by kernel_rfl) bursarref09_SamePairs.t6 bursarref09_SamePairs.t6_ok), trivial⟩) (fun _ => rfl) bursarref09_SamePairs.ok
end Go.Proofs.YtopoklifappmcaaGreatDoor
end
section
set_option linter.unusedVariables false
set_option linter.unusedSimpArgs false
set_option synthInstance.maxSize 100000
set_option synthInstance.maxHeartbeats 1000000
namespace Go.Proofs.YtopoklifappmcaaGreatDoor
open Go Go.Fw
theorem all_eq {α : Type} [DecidableEq α] (d : α) {l r : List α} (h : l.length = r.length) : ((List.range l.length).all fun i => decide (l.getD i d = r.getD i d)) = decide (l = r) := by
  rw [Bool.eq_iff_iff, List.all_eq_true, decide_eq_true_eq]
  constructor
  · intro hh
    apply List.ext_getElem h
    intro i h1 h2
    have := of_decide_eq_true (hh i (List.mem_range.2 h1))
    rwa [getD_at h1, getD_at h2] at this
  · intro e i _
    rw [e]; exact decide_eq_true rfl
theorem int_beq (a b : Int) : (a == b) = decide (a = b) := by rw [Bool.eq_iff_iff]; simp
theorem bool_beq (a b : Bool) : (a == b) = decide (a = b) := by cases a <;> cases b <;> rfl
theorem len_ne {α : Type} (l r : List α) : (((l.length : Nat) : Int) != ((r.length : Nat) : Int)) = !decide (l.length = r.length) := by
  by_cases h : l.length = r.length
  · rw [h, decide_eq_true rfl]; simp
  · rw [decide_eq_false h]; simp; omega
theorem len_lists {α : Type} [DecidableEq α] {l r : List α} (h : ¬ l.length = r.length) : decide (l = r) = false := decide_eq_false fun e => h (by rw [e])
def zPr : Pr := (bs [], bs [])
theorem dflt_pr : (Ty.dflt T_api_Pair : Pr) = zPr := rfl
theorem eqPo (x y : Po) : ((x.1 == y.1) && ((x.2.1 == y.2.1) && ((ByteArray.toList x.2.2.1 == ByteArray.toList y.2.2.1) && ((ByteArray.toList x.2.2.2.1 == ByteArray.toList y.2.2.2.1) && ((ByteArray.toList x.2.2.2.2.1 == ByteArray.toList y.2.2.2.2.1) && ((x.2.2.2.2.2 == y.2.2.2.2.2) && true)))))) = decide (x = y) := by
  obtain ⟨a0, a1, a2, a3, a4, a5⟩ := x
  obtain ⟨b0, b1, b2, b3, b4, b5⟩ := y
  simp only [texts_eq, int_beq, bool_beq]
  rw [Bool.eq_iff_iff]
  simp only [Bool.and_eq_true, decide_eq_true_eq, Prod.mk.injEq, and_true]
theorem equalPo {l r : List Po} (hl : l.length ≤ 100000) : slices_Equal_api_Post_api_Post.f (l, r) = some (decide (l = r)) := by
  unfold slices_Equal_api_Post_api_Post.f
  simp only [len_ne]
  by_cases h : l.length = r.length
  · have hf := rounds_all (t := slices_Equal_api_Post_api_Post.t6) (fun i => (l, r, (l.length : Int), ((i : Nat) : Int))) (fun i => decide (l.getD i zP = r.getD i zP)) (.inl false) (.inr ()) l.length (fun i hi => by
      have hw := wrap_up (n := i) (by omega)
      unfold slices_Equal_api_Post_api_Post.t6
      rw [dflt_po]
      simp only [inb hi, inb (show i < r.length by omega), ge0', Bool.and_self, cond_true, Int.toNat_natCast, eqPo, hw]
      cases decide (l.getD i zP = r.getD i zP) <;> rfl) (by unfold slices_Equal_api_Post_api_Post.t6; simp only [outb, cond_false])
    have hf' : slices_Equal_api_Post_api_Post.l6 (l, r, (l.length : Int), 0) = _ := hf
    rw [hf', decide_eq_true h, all_eq zP h]
    cases decide (l = r) <;> rfl
  · rw [decide_eq_false h, len_lists h]; rfl
theorem eqHd (x y : Hd) : ((ByteArray.toList x.1 == ByteArray.toList y.1) && ((ByteArray.toList x.2.1 == ByteArray.toList y.2.1) && ((ByteArray.toList x.2.2.1 == ByteArray.toList y.2.2.1) && ((x.2.2.2.1 == y.2.2.2.1) && ((x.2.2.2.2.1 == y.2.2.2.2.1) && ((x.2.2.2.2.2.1 == y.2.2.2.2.2.1) && ((x.2.2.2.2.2.2 == y.2.2.2.2.2.2) && true))))))) = decide (x = y) := by
  obtain ⟨a0, a1, a2, a3, a4, a5, a6⟩ := x
  obtain ⟨b0, b1, b2, b3, b4, b5, b6⟩ := y
  simp only [texts_eq, int_beq, bool_beq]
  rw [Bool.eq_iff_iff]
  simp only [Bool.and_eq_true, decide_eq_true_eq, Prod.mk.injEq, and_true]
theorem equalHd {l r : List Hd} (hl : l.length ≤ 100000) : slices_Equal_api_Hold_api_Hold.f (l, r) = some (decide (l = r)) := by
  unfold slices_Equal_api_Hold_api_Hold.f
  simp only [len_ne]
  by_cases h : l.length = r.length
  · have hf := rounds_all (t := slices_Equal_api_Hold_api_Hold.t6) (fun i => (l, r, (l.length : Int), ((i : Nat) : Int))) (fun i => decide (l.getD i zHd = r.getD i zHd)) (.inl false) (.inr ()) l.length (fun i hi => by
      have hw := wrap_up (n := i) (by omega)
      unfold slices_Equal_api_Hold_api_Hold.t6
      rw [dflt_hd]
      simp only [inb hi, inb (show i < r.length by omega), ge0', Bool.and_self, cond_true, Int.toNat_natCast, eqHd, hw]
      cases decide (l.getD i zHd = r.getD i zHd) <;> rfl) (by unfold slices_Equal_api_Hold_api_Hold.t6; simp only [outb, cond_false])
    have hf' : slices_Equal_api_Hold_api_Hold.l6 (l, r, (l.length : Int), 0) = _ := hf
    rw [hf', decide_eq_true h, all_eq zHd h]
    cases decide (l = r) <;> rfl
  · rw [decide_eq_false h, len_lists h]; rfl
theorem eqDp (x y : Dp) : ((x.1 == y.1) && ((ByteArray.toList x.2.1 == ByteArray.toList y.2.1) && ((ByteArray.toList x.2.2.1 == ByteArray.toList y.2.2.1) && ((ByteArray.toList x.2.2.2.1 == ByteArray.toList y.2.2.2.1) && ((x.2.2.2.2 == y.2.2.2.2) && true))))) = decide (x = y) := by
  obtain ⟨a0, a1, a2, a3, a4⟩ := x
  obtain ⟨b0, b1, b2, b3, b4⟩ := y
  simp only [texts_eq, int_beq, bool_beq]
  rw [Bool.eq_iff_iff]
  simp only [Bool.and_eq_true, decide_eq_true_eq, Prod.mk.injEq, and_true]
theorem equalDp {l r : List Dp} (hl : l.length ≤ 100000) : slices_Equal_api_Dup_api_Dup.f (l, r) = some (decide (l = r)) := by
  unfold slices_Equal_api_Dup_api_Dup.f
  simp only [len_ne]
  by_cases h : l.length = r.length
  · have hf := rounds_all (t := slices_Equal_api_Dup_api_Dup.t6) (fun i => (l, r, (l.length : Int), ((i : Nat) : Int))) (fun i => decide (l.getD i zD = r.getD i zD)) (.inl false) (.inr ()) l.length (fun i hi => by
      have hw := wrap_up (n := i) (by omega)
      unfold slices_Equal_api_Dup_api_Dup.t6
      rw [dflt_dup]
      simp only [inb hi, inb (show i < r.length by omega), ge0', Bool.and_self, cond_true, Int.toNat_natCast, eqDp, hw]
      cases decide (l.getD i zD = r.getD i zD) <;> rfl) (by unfold slices_Equal_api_Dup_api_Dup.t6; simp only [outb, cond_false])
    have hf' : slices_Equal_api_Dup_api_Dup.l6 (l, r, (l.length : Int), 0) = _ := hf
    rw [hf', decide_eq_true h, all_eq zD h]
    cases decide (l = r) <;> rfl
  · rw [decide_eq_false h, len_lists h]; rfl
theorem eqCl (x y : Cl) : ((ByteArray.toList x.1 == ByteArray.toList y.1) && ((ByteArray.toList x.2.1 == ByteArray.toList y.2.1) && ((ByteArray.toList x.2.2.1 == ByteArray.toList y.2.2.1) && ((x.2.2.2.1 == y.2.2.2.1) && ((x.2.2.2.2.1 == y.2.2.2.2.1) && ((x.2.2.2.2.2 == y.2.2.2.2.2) && true)))))) = decide (x = y) := by
  obtain ⟨a0, a1, a2, a3, a4, a5⟩ := x
  obtain ⟨b0, b1, b2, b3, b4, b5⟩ := y
  simp only [texts_eq, int_beq, bool_beq]
  rw [Bool.eq_iff_iff]
  simp only [Bool.and_eq_true, decide_eq_true_eq, Prod.mk.injEq, and_true]
theorem equalCl {l r : List Cl} (hl : l.length ≤ 100000) : slices_Equal_api_Claim_api_Claim.f (l, r) = some (decide (l = r)) := by
  unfold slices_Equal_api_Claim_api_Claim.f
  simp only [len_ne]
  by_cases h : l.length = r.length
  · have hf := rounds_all (t := slices_Equal_api_Claim_api_Claim.t6) (fun i => (l, r, (l.length : Int), ((i : Nat) : Int))) (fun i => decide (l.getD i zC = r.getD i zC)) (.inl false) (.inr ()) l.length (fun i hi => by
      have hw := wrap_up (n := i) (by omega)
      unfold slices_Equal_api_Claim_api_Claim.t6
      rw [dflt_cl]
      simp only [inb hi, inb (show i < r.length by omega), ge0', Bool.and_self, cond_true, Int.toNat_natCast, eqCl, hw]
      cases decide (l.getD i zC = r.getD i zC) <;> rfl) (by unfold slices_Equal_api_Claim_api_Claim.t6; simp only [outb, cond_false])
    have hf' : slices_Equal_api_Claim_api_Claim.l6 (l, r, (l.length : Int), 0) = _ := hf
    rw [hf', decide_eq_true h, all_eq zC h]
    cases decide (l = r) <;> rfl
  · rw [decide_eq_false h, len_lists h]; rfl
theorem eqPr (x y : Pr) : ((ByteArray.toList x.1 == ByteArray.toList y.1) && ((ByteArray.toList x.2 == ByteArray.toList y.2) && true)) = decide (x = y) := by
  obtain ⟨a0, a1⟩ := x
  obtain ⟨b0, b1⟩ := y
  simp only [texts_eq, int_beq, bool_beq]
  rw [Bool.eq_iff_iff]
  simp only [Bool.and_eq_true, decide_eq_true_eq, Prod.mk.injEq, and_true]
theorem dupSame_is {l r : List Dp} (hl : l.length ≤ 100000) : bursarref21_Same.f (l, r) = some (decide (l = r)) := by
  unfold bursarref21_Same.f
  simp only [len_ne]
  by_cases h : l.length = r.length
  · have hf := rounds_all (t := bursarref21_Same.t6) (fun i => (l, r, ((i : Nat) : Int))) (fun i => decide (l.getD i zD = r.getD i zD)) (.inl false) (.inr ()) l.length (fun i hi => by
      have hw := wrap_up (n := i) (by omega)
      unfold bursarref21_Same.t6
      rw [dflt_dup]
      simp only [inb hi, inb (show i < r.length by omega), ge0', Bool.and_self, cond_true, Int.toNat_natCast, eqDp, hw]
      cases decide (l.getD i zD = r.getD i zD) <;> rfl) (by unfold bursarref21_Same.t6; simp only [outb, cond_false])
    have hf' : bursarref21_Same.l6 (l, r, 0) = _ := hf
    rw [hf', decide_eq_true h, all_eq zD h]
    cases decide (l = r) <;> rfl
  · rw [decide_eq_false h, len_lists h]; rfl
theorem samePairs_is {l r : List Pr} (hl : l.length ≤ 100000) : bursarref09_SamePairs.f (l, r) = some (decide (l = r)) := by
  unfold bursarref09_SamePairs.f
  simp only [len_ne]
  by_cases h : l.length = r.length
  · have hf := rounds_all (t := bursarref09_SamePairs.t6) (fun i => (l, r, ((i : Nat) : Int))) (fun i => decide (l.getD i zPr = r.getD i zPr)) (.inl false) (.inr ()) l.length (fun i hi => by
      have hw := wrap_up (n := i) (by omega)
      unfold bursarref09_SamePairs.t6
      rw [dflt_pr]
      simp only [inb hi, inb (show i < r.length by omega), ge0', Bool.and_self, cond_true, Int.toNat_natCast, eqPr, hw]
      cases decide (l.getD i zPr = r.getD i zPr) <;> rfl) (by unfold bursarref09_SamePairs.t6; simp only [outb, cond_false])
    have hf' : bursarref09_SamePairs.l6 (l, r, 0) = _ := hf
    rw [hf', decide_eq_true h, all_eq zPr h]
    cases decide (l = r) <;> rfl
  · rw [decide_eq_false h, len_lists h]; rfl
theorem st_eq (a b : St) : decide (a = b) = (decide (a.1 = b.1) && (decide (a.2.1 = b.2.1) && (decide (a.2.2.1 = b.2.2.1) && (decide (a.2.2.2.1 = b.2.2.2.1) && (decide (a.2.2.2.2.1 = b.2.2.2.2.1) && (decide (a.2.2.2.2.2.1 = b.2.2.2.2.2.1) && (decide (a.2.2.2.2.2.2.1 = b.2.2.2.2.2.2.1) && decide (a.2.2.2.2.2.2.2 = b.2.2.2.2.2.2.2)))))))) := by
  obtain ⟨a1, a2, a3, a4, a5, a6, a7, a8⟩ := a
  obtain ⟨b1, b2, b3, b4, b5, b6, b7, b8⟩ := b
  rw [Bool.eq_iff_iff]
  simp only [Bool.and_eq_true, decide_eq_true_eq, Prod.mk.injEq]
theorem int_bne (a b : Int) : (a != b) = !decide (a = b) := by unfold bne; rw [int_beq]
theorem shelfSame_is {a b : St} (s : Small a) : shelf_Same.f (a, b) = some (decide (a = b)) := by
  unfold shelf_Same.f
  rw [st_eq]
  simp only [int_bne, equalPo (l := a.2.2.2.1) (Nat.le_trans s.np (by decide)), equalHd (l := a.2.2.2.2.1) (Nat.le_trans s.nh (by decide)), equalDp (l := a.2.2.2.2.2.1) (Nat.le_trans s.nd (by decide)), equalDp (l := a.2.2.2.2.2.2.1) (Nat.le_trans s.ne (by decide)), equalCl (l := a.2.2.2.2.2.2.2) (Nat.le_trans s.nc (by decide)), Option.bind_some]
  cases decide (a.1 = b.1) <;> cases decide (a.2.1 = b.2.1) <;> cases decide (a.2.2.1 = b.2.2.1) <;> cases decide (a.2.2.2.1 = b.2.2.2.1) <;> cases decide (a.2.2.2.2.1 = b.2.2.2.2.1) <;> cases decide (a.2.2.2.2.2.1 = b.2.2.2.2.2.1) <;> cases decide (a.2.2.2.2.2.2.1 = b.2.2.2.2.2.2.1) <;> cases decide (a.2.2.2.2.2.2.2 = b.2.2.2.2.2.2.2) <;> rfl
theorem sameR6 {a b : St} (s : Small a) (h : a.2.2.2.1.length = b.2.2.2.1.length) : bursarref27_Same.l6 (0, a.1, a.2.1, a.2.2.1, a.2.2.2.1, a.2.2.2.2.1, a.2.2.2.2.2.1, a.2.2.2.2.2.2.1, a.2.2.2.2.2.2.2, b) = some (bif decide (a.2.2.2.1 = b.2.2.2.1) then .inr (a.1, a.2.1, a.2.2.1, a.2.2.2.1, a.2.2.2.2.1, a.2.2.2.2.2.1, a.2.2.2.2.2.2.1, a.2.2.2.2.2.2.2, b) else .inl false) := by
  rw [← all_eq zP h]
  exact scanR (t := bursarref27_Same.t6) a.2.2.2.1.length (fun i => decide (a.2.2.2.1.getD i zP = b.2.2.2.1.getD i zP)) (a.1, a.2.1, a.2.2.1, a.2.2.2.1, a.2.2.2.2.1, a.2.2.2.2.2.1, a.2.2.2.2.2.2.1, a.2.2.2.2.2.2.2, b) (fun i hi => by
    have hn := s.np
    have hw := wrap_up (n := i) (by omega)
    unfold bursarref27_Same.t6
    rw [dflt_po]
    simp only [inb hi, inb (show i < b.2.2.2.1.length by omega), ge0', Bool.and_self, cond_true, Int.toNat_natCast, eqPo, hw]
    cases decide (a.2.2.2.1.getD i zP = b.2.2.2.1.getD i zP) <;> rfl) (by unfold bursarref27_Same.t6; simp only [outb, cond_false])
theorem sameR9 {a b : St} (s : Small a) (h : a.2.2.2.2.1.length = b.2.2.2.2.1.length) : bursarref27_Same.l9 (0, a.1, a.2.1, a.2.2.1, a.2.2.2.1, a.2.2.2.2.1, a.2.2.2.2.2.1, a.2.2.2.2.2.2.1, a.2.2.2.2.2.2.2, b) = some (bif decide (a.2.2.2.2.1 = b.2.2.2.2.1) then .inr (a.1, a.2.1, a.2.2.1, a.2.2.2.1, a.2.2.2.2.1, a.2.2.2.2.2.1, a.2.2.2.2.2.2.1, a.2.2.2.2.2.2.2, b) else .inl false) := by
  rw [← all_eq zHd h]
  exact scanR (t := bursarref27_Same.t9) a.2.2.2.2.1.length (fun i => decide (a.2.2.2.2.1.getD i zHd = b.2.2.2.2.1.getD i zHd)) (a.1, a.2.1, a.2.2.1, a.2.2.2.1, a.2.2.2.2.1, a.2.2.2.2.2.1, a.2.2.2.2.2.2.1, a.2.2.2.2.2.2.2, b) (fun i hi => by
    have hn := s.nh
    have hw := wrap_up (n := i) (by omega)
    unfold bursarref27_Same.t9
    rw [dflt_hd]
    simp only [inb hi, inb (show i < b.2.2.2.2.1.length by omega), ge0', Bool.and_self, cond_true, Int.toNat_natCast, eqHd, hw]
    cases decide (a.2.2.2.2.1.getD i zHd = b.2.2.2.2.1.getD i zHd) <;> rfl) (by unfold bursarref27_Same.t9; simp only [outb, cond_false])
theorem sameR12 {a b : St} (s : Small a) (h : a.2.2.2.2.2.2.2.length = b.2.2.2.2.2.2.2.length) : bursarref27_Same.l12 (0, a.1, a.2.1, a.2.2.1, a.2.2.2.1, a.2.2.2.2.1, a.2.2.2.2.2.1, a.2.2.2.2.2.2.1, a.2.2.2.2.2.2.2, b) = some (bif decide (a.2.2.2.2.2.2.2 = b.2.2.2.2.2.2.2) then .inr (a.1, a.2.1, a.2.2.1, a.2.2.2.1, a.2.2.2.2.1, a.2.2.2.2.2.1, a.2.2.2.2.2.2.1, a.2.2.2.2.2.2.2, b) else .inl false) := by
  rw [← all_eq zC h]
  exact scanR (t := bursarref27_Same.t12) a.2.2.2.2.2.2.2.length (fun i => decide (a.2.2.2.2.2.2.2.getD i zC = b.2.2.2.2.2.2.2.getD i zC)) (a.1, a.2.1, a.2.2.1, a.2.2.2.1, a.2.2.2.2.1, a.2.2.2.2.2.1, a.2.2.2.2.2.2.1, a.2.2.2.2.2.2.2, b) (fun i hi => by
    have hn := s.nc
    have hw := wrap_up (n := i) (by omega)
    unfold bursarref27_Same.t12
    rw [dflt_cl]
    simp only [inb hi, inb (show i < b.2.2.2.2.2.2.2.length by omega), ge0', Bool.and_self, cond_true, Int.toNat_natCast, eqCl, hw]
    cases decide (a.2.2.2.2.2.2.2.getD i zC = b.2.2.2.2.2.2.2.getD i zC) <;> rfl) (by unfold bursarref27_Same.t12; simp only [outb, cond_false])
theorem refSame_is {a b : St} (s : Small a) : bursarref27_Same.f (a, b) = some (decide (a = b)) := by
  unfold bursarref27_Same.f
  rw [st_eq]
  simp only [len_ne]
  simp only [int_bne]
  cases decide (a.1 = b.1)
  · rfl
  cases decide (a.2.1 = b.2.1)
  · rfl
  cases decide (a.2.2.1 = b.2.2.1)
  · rfl
  by_cases h4 : a.2.2.2.1.length = b.2.2.2.1.length
  case neg => rw [decide_eq_false h4, len_lists h4]; rfl
  by_cases h5 : a.2.2.2.2.1.length = b.2.2.2.2.1.length
  case neg => rw [decide_eq_true h4, decide_eq_false h5, len_lists h5]; cases decide (a.2.2.2.1 = b.2.2.2.1) <;> rfl
  by_cases h8 : a.2.2.2.2.2.2.2.length = b.2.2.2.2.2.2.2.length
  case neg => rw [decide_eq_true h4, decide_eq_true h5, decide_eq_false h8, len_lists h8]; cases decide (a.2.2.2.1 = b.2.2.2.1) <;> cases decide (a.2.2.2.2.1 = b.2.2.2.2.1) <;> cases decide (a.2.2.2.2.2.1 = b.2.2.2.2.2.1) <;> cases decide (a.2.2.2.2.2.2.1 = b.2.2.2.2.2.2.1) <;> rfl
  simp only [decide_eq_true h4, decide_eq_true h5, decide_eq_true h8, Bool.not_true, cond_false, Bool.true_and, sameR6 s h4]
  cases decide (a.2.2.2.1 = b.2.2.2.1)
  · rfl
  simp only [cond_true, Option.bind_some, Bool.true_and, sameR9 s h5]
  cases decide (a.2.2.2.2.1 = b.2.2.2.2.1)
  · rfl
  simp only [cond_true, Option.bind_some, Bool.true_and, sameR12 s h8]
  cases decide (a.2.2.2.2.2.2.2 = b.2.2.2.2.2.2.2)
  · simp only [cond_false, Option.bind_some, Bool.and_false]
  simp only [cond_true, Option.bind_some, Bool.and_true, dupSame_is (l := a.2.2.2.2.2.1) (Nat.le_trans s.nd (by decide)), dupSame_is (l := a.2.2.2.2.2.2.1) (Nat.le_trans s.ne (by decide))]
  cases decide (a.2.2.2.2.2.1 = b.2.2.2.2.2.1) <;> rfl
end Go.Proofs.YtopoklifappmcaaGreatDoor
end
section
set_option linter.unusedVariables false
set_option maxRecDepth 100000
namespace Go.Proofs.YtopoklifappmcaaGreatDoor
open Go Go.Fw
noncomputable def hold_Parse.f (a : ByteArray) : Option ((ByteArray × (ByteArray × (ByteArray × (Int × (Int × (Int × Bool)))))) × Int) := (bif (decide (((a.size : Int) < (45 : Int)))) then (some (((bs []), ((bs []), ((bs []), ((0 : Int), ((0 : Int), ((0 : Int), false)))))), (4 : Int))) else (bif (true && (decide (((12 : Int) ≤ (a.size : Int))))) then (bif (true && (decide (((18 : Int) ≤ (a.size : Int))))) then (bif (true && (decide (((34 : Int) ≤ (a.size : Int))))) then (bif (true && (decide (((44 : Int) < (a.size : Int))))) then (bif (true && (decide (((44 : Int) ≤ (a.size : Int))))) then (((strconv_Atoi.f (ByteArray.extract a 34 44))).bind fun x1 => (bif (true && (decide (((45 : Int) ≤ (a.size : Int))))) then (bif ([(32 : UInt8)] == (ByteArray.toList (ByteArray.extract a 45 a.size))) then (bif (true && (decide (((1 : Int) ≤ ((ByteArray.extract a 45 a.size).size : Int))))) then (((money_Parse.f (ByteArray.extract (ByteArray.extract a 45 a.size) 0 0))).bind fun x2 => (((money_Parse.f (ByteArray.extract (ByteArray.extract a 45 a.size) 1 (ByteArray.extract a 45 a.size).size))).bind fun x3 => (((hold_Text.f ((ByteArray.extract a 0 12), ((ByteArray.extract a 12 18), ((ByteArray.extract a 18 34), (x2.1, (x3.1, (x1.1, ((bt a 44) == (111 : Int)))))))))).bind fun x4 => (bif (x4.2 != (0 : Int)) then (some (((bs []), ((bs []), ((bs []), ((0 : Int), ((0 : Int), ((0 : Int), false)))))), (4 : Int))) else (bif (!((ByteArray.toList x4.1) == (ByteArray.toList a))) then (some (((bs []), ((bs []), ((bs []), ((0 : Int), ((0 : Int), ((0 : Int), false)))))), (4 : Int))) else (some (((ByteArray.extract a 0 12), ((ByteArray.extract a 12 18), ((ByteArray.extract a 18 34), (x2.1, (x3.1, (x1.1, ((bt a 44) == (111 : Int)))))))), (0 : Int)))))))) else none) else (bif (decide (((Go.Lib.indexByte (Array.toList (ByteArray.data (ByteArray.extract a 45 a.size))) (32 : UInt8)) ≥ (0 : Int)))) then (bif ((decide (((0 : Int) ≤ (Go.Lib.indexByte (Array.toList (ByteArray.data (ByteArray.extract a 45 a.size))) (32 : UInt8))))) && (decide (((Go.Lib.indexByte (Array.toList (ByteArray.data (ByteArray.extract a 45 a.size))) (32 : UInt8)) ≤ ((ByteArray.extract a 45 a.size).size : Int))))) then (bif ((decide (((0 : Int) ≤ (IntKind.wrap .i64 ((Go.Lib.indexByte (Array.toList (ByteArray.data (ByteArray.extract a 45 a.size))) (32 : UInt8)) + (1 : Int)))))) && (decide (((IntKind.wrap .i64 ((Go.Lib.indexByte (Array.toList (ByteArray.data (ByteArray.extract a 45 a.size))) (32 : UInt8)) + (1 : Int))) ≤ ((ByteArray.extract a 45 a.size).size : Int))))) then (((money_Parse.f (ByteArray.extract (ByteArray.extract a 45 a.size) 0 (Int.toNat (Go.Lib.indexByte (Array.toList (ByteArray.data (ByteArray.extract a 45 a.size))) (32 : UInt8)))))).bind fun x2 => (((money_Parse.f (ByteArray.extract (ByteArray.extract a 45 a.size) (Int.toNat (IntKind.wrap .i64 ((Go.Lib.indexByte (Array.toList (ByteArray.data (ByteArray.extract a 45 a.size))) (32 : UInt8)) + (1 : Int)))) (ByteArray.extract a 45 a.size).size))).bind fun x3 => (((hold_Text.f ((ByteArray.extract a 0 12), ((ByteArray.extract a 12 18), ((ByteArray.extract a 18 34), (x2.1, (x3.1, (x1.1, ((bt a 44) == (111 : Int)))))))))).bind fun x4 => (bif (x4.2 != (0 : Int)) then (some (((bs []), ((bs []), ((bs []), ((0 : Int), ((0 : Int), ((0 : Int), false)))))), (4 : Int))) else (bif (!((ByteArray.toList x4.1) == (ByteArray.toList a))) then (some (((bs []), ((bs []), ((bs []), ((0 : Int), ((0 : Int), ((0 : Int), false)))))), (4 : Int))) else (some (((ByteArray.extract a 0 12), ((ByteArray.extract a 12 18), ((ByteArray.extract a 18 34), (x2.1, (x3.1, (x1.1, ((bt a 44) == (111 : Int)))))))), (0 : Int)))))))) else none) else none) else (((money_Parse.f (ByteArray.extract a 45 a.size))).bind fun x2 => (((hold_Text.f ((ByteArray.extract a 0 12), ((ByteArray.extract a 12 18), ((ByteArray.extract a 18 34), (x2.1, ((0 : Int), (x1.1, ((bt a 44) == (111 : Int)))))))))).bind fun x3 => (bif (x3.2 != (0 : Int)) then (some (((bs []), ((bs []), ((bs []), ((0 : Int), ((0 : Int), ((0 : Int), false)))))), (4 : Int))) else (bif (!((ByteArray.toList x3.1) == (ByteArray.toList a))) then (some (((bs []), ((bs []), ((bs []), ((0 : Int), ((0 : Int), ((0 : Int), false)))))), (4 : Int))) else (some (((ByteArray.extract a 0 12), ((ByteArray.extract a 12 18), ((ByteArray.extract a 18 34), (x2.1, ((0 : Int), (x1.1, ((bt a 44) == (111 : Int)))))))), (0 : Int))))))))) else none)) else none) else none) else none) else none) else none))
end Go.Proofs.YtopoklifappmcaaGreatDoor
end
section
set_option linter.unusedVariables false
set_option linter.unusedSimpArgs false
namespace Go.Proofs.YtopoklifappmcaaGreatDoor
open Go Go.Fw
def Good (h : Hd) (l : List UInt8) : Prop := mayB h = true ∧ Am h.2.2.2.1 ∧ txtH h = l
abbrev zeroH : Hd := (bs [], (bs [], (bs [], (0, (0, (0, false))))))
abbrev mkH (l : List UInt8) (app cap unt : Int) : Hd := (bs ((l.take 12).drop 0), (bs ((l.take 18).drop 12), (bs ((l.take 34).drop 18), (app, (cap, (unt, (((l.getD 44 0).toNat : Int) == 111)))))))
theorem no_32 (a : Int) : ∀ x, x ∈ txt a → x ≠ 32 := by
  intro x hx h
  subst h
  unfold txt body at hx
  rcases List.mem_append.1 hx with hx | hx
  · split at hx
    · simp at hx
    · simp at hx
  · rcases List.mem_append.1 hx with hx | hx
    · have := decP_dig _ _ _ hx
      exact absurd this (by decide)
    · simp only [List.mem_cons, List.not_mem_nil, or_false] at hx
      have hd : ∀ n, n < 10 → ¬ (32 : UInt8) = dgt n := by
        intro n hn h
        have := dgt_nat hn
        rw [← h] at this
        have h32 : (32 : UInt8).toNat = 32 := rfl
        omega
      rcases hx with h | h | h | h
      · exact hd _ (by omega) h
      · exact absurd h (by decide)
      · exact hd _ (by omega) h
      · exact hd _ (by omega) h
theorem good_parts {h : Hd} {l : List UInt8} (g : Good h l) : ∃ (r a p : List UInt8) (app cap unt : Int) (op : Bool), h = (bs r, (bs a, (bs p, (app, (cap, (unt, op)))))) ∧ r.length = 12 ∧ a.length = 6 ∧ p.length = 16 ∧ 0 ≤ unt ∧ unt ≤ 2147483647 ∧ Am app ∧ Am cap ∧
    l = r ++ (a ++ (p ++ (padD 10 unt.toNat ++ ((bif op then 111 else 99) :: (txt app ++ 32 :: txt cap))))) := by
  obtain ⟨hm, ha, ht⟩ := g
  obtain ⟨p1, p2, p3, p4, p5, p6, p7⟩ := may_parts hm
  obtain ⟨rrn, acq, pan, app, cap, unt, op⟩ := h
  refine ⟨rrn.data.toList, acq.data.toList, pan.data.toList, app, cap, unt, op, ?_, ?_, ?_, ?_, p4, p5, ha, ?_, ?_⟩
  · rw [← eq_bs, ← eq_bs, ← eq_bs]
  · rw [eq_bs rrn, bs_size] at p1; exact p1
  · rw [eq_bs acq, bs_size] at p2; exact p2
  · rw [eq_bs pan, bs_size] at p3; exact p3
  · obtain ⟨a1, a2⟩ := ha; simp only at a1 a2 p6 p7; exact ⟨by omega, by omega⟩
  · rw [← ht]; unfold txtH; simp
theorem good_cut {r a p u : List UInt8} {c : UInt8} {t : List UInt8} (h1 : r.length = 12) (h2 : a.length = 6) (h3 : p.length = 16) (h4 : u.length = 10) :
    let l := r ++ (a ++ (p ++ (u ++ (c :: t))))
    (l.take 12).drop 0 = r ∧ (l.take 18).drop 12 = a ∧ (l.take 34).drop 18 = p ∧ (l.take 44).drop 34 = u ∧ l.getD 44 0 = c ∧ l.drop 45 = t ∧ 45 ≤ l.length := by
  intro l
  have e : l = r ++ (a ++ (p ++ (u ++ (c :: t)))) := rfl
  refine ⟨?_, ?_, ?_, ?_, ?_, ?_, ?_⟩
  · rw [e, List.drop_zero, List.take_left' h1]
  · rw [e, List.drop_take, List.drop_left' h1, List.take_left' (by omega)]
  · rw [e, List.drop_take, ← List.append_assoc, List.drop_left' (by simp; omega), List.take_left' (by omega)]
  · rw [e, List.drop_take, ← List.append_assoc, ← List.append_assoc, List.drop_left' (by simp; omega), List.take_left' (by omega)]
  · rw [e, ← List.append_assoc, ← List.append_assoc, ← List.append_assoc, List.getD_eq_getElem?_getD, List.getElem?_append_right (by simp; omega)]
    have : 44 - (r ++ a ++ p ++ u).length = 0 := by simp; omega
    rw [this]; rfl
  · rw [e, ← List.append_assoc, ← List.append_assoc, ← List.append_assoc, show (45 : Nat) = 44 + 1 from rfl, ← List.drop_drop, List.drop_left' (by simp; omega)]; rfl
  · rw [e]; simp; omega
theorem good_mk {h : Hd} {l : List UInt8} (g : Good h l) : ∃ (app cap unt : Int), h = mkH l app cap unt ∧ 45 ≤ l.length ∧ Am app ∧ Am cap ∧ 0 ≤ unt ∧ unt ≤ 2147483647 ∧ (l.take 44).drop 34 = padD 10 unt.toNat ∧ l.drop 45 = txt app ++ 32 :: txt cap := by
  obtain ⟨r, a, p, app, cap, unt, op, rfl, h1, h2, h3, h4, h5, h6, h7, rfl⟩ := good_parts g
  have hc := good_cut (c := bif op then 111 else 99) (t := txt app ++ 32 :: txt cap) h1 h2 h3 (padD_len 10 unt.toNat)
  simp only at hc
  obtain ⟨c1, c2, c3, c4, c5, c6, c7⟩ := hc
  refine ⟨app, cap, unt, ?_, c7, h6, h7, h4, h5, c4, c6⟩
  unfold mkH
  rw [c1, c2, c3, c5]
  cases op <;> rfl
theorem check_code {h : Hd} (l : List UInt8) (hs : h.1.size ≤ 4611686018427387904) (ha : Am h.2.2.2.1) : ∃ q, ((hold_Text.f h).bind fun (x4 : (ByteArray × Int)) => (bif (x4.2 != (0 : Int)) then (some (zeroH, (4 : Int))) else (bif (!(decide (x4.1 = bs l))) then (some (zeroH, (4 : Int))) else (some (h, (0 : Int)))))) = some q ∧
    (q = (zeroH, 4) ∨ Good h l ∧ q = (h, 0)) ∧ (Good h l → q = (h, 0)) := by
  rw [Text_hold_is hs ha, Option.bind_some]
  cases hm : mayB h with
  | false => exact ⟨_, rfl, .inl rfl, fun g => by have := g.1; rw [hm] at this; cases this⟩
  | true =>
    have hz : ((0 : Int) != 0) = false := by decide
    simp only [cond_true, hz, cond_false]
    by_cases ht : txtH h = l
    · subst ht
      simp only [decide_true, Bool.not_true, cond_false]
      exact ⟨_, rfl, .inr ⟨⟨hm, ha, rfl⟩, rfl⟩, fun _ => rfl⟩
    · have hn : decide (bs (txtH h) = bs l) = false := by rw [decide_eq_false_iff_not, bs_inj]; exact ht
      rw [hn]
      exact ⟨_, rfl, .inl rfl, fun g => absurd g.2.2 ht⟩
theorem parse_padD (M : Nat) : ∀ (k n : Nat) (t : List UInt8), n < 10 ^ k → n < 9223372036854775808 → n ≤ M → Lib.parseUintM M 0 (padD k n ++ t) = Lib.parseUintM M n t
  | 0, n, t, h, _, _ => by
    have : n = 0 := by simpa using h
    subst this; rfl
  | k + 1, n, t, h, h2, h3 => by
    unfold padD
    rw [List.append_assoc, parse_padD M k (n / 10) _ (by have : 10 ^ (k + 1) = 10 ^ k * 10 := Nat.pow_succ ..; omega) (by omega) (by omega), List.singleton_append, parse_dig (by omega) (by omega) (by omega)]
    congr 1
    omega
theorem atoi_padD {n : Nat} (h : n ≤ 2147483647) : atoiU (padD 10 n) = ((n : Int), false) := by
  have hd := padD_dig 10 n
  have hp : Lib.parseMag (padD 10 n) = .ok n := by
    rw [← Lib.parseUintB_64]
    unfold Lib.parseUintB
    have hne : ¬ padD 10 n = [] := fun h => by have := padD_len 10 n; rw [h] at this; cases this
    rw [if_neg hne]
    have := parse_padD (2 ^ 64 - 1) 10 n [] (by omega) (by omega) (by omega)
    rw [List.append_nil] at this
    rw [this]; rfl
  have hlen := padD_len 10 n
  obtain ⟨l, hl⟩ : ∃ l, padD 10 n = l := ⟨_, rfl⟩
  rw [hl] at hd hp hlen ⊢
  cases l with
  | nil => cases hlen
  | cons c r =>
    have hc := hd c (List.mem_cons_self ..)
    unfold atoiU Lib.atoiAll
    have n1 : ¬ (c.toNat = 43 ∨ c.toNat = 45) := by omega
    have n2 : ¬ c.toNat = 45 := by omega
    have n0 : ¬ c.toNat = 43 := by omega
    simp only [n0, n2, or_self, if_false, not_false_eq_true, true_and, false_and]
    rw [hp]
    have n3 : ¬ 9223372036854775808 ≤ n := by omega
    simp only [n3, if_false]
theorem Parse_code {l : List UInt8} (hl : l.length ≤ 200) : ∃ q, hold_Parse.f (bs l) = some q ∧ (q = (zeroH, 4) ∨ ∃ h, Good h l ∧ q = (h, 0)) ∧ ∀ h, Good h l → q = (h, 0) := by
  unfold hold_Parse.f
  simp only [bs_size, bs_extract, texts_eq, bs_inj, bs_list, bt_bs]
  by_cases h45 : (l.length : Int) < 45
  · rw [decide_eq_true h45]
    exact ⟨_, rfl, .inl rfl, fun h g => by obtain ⟨_, _, _, _, h2, _⟩ := good_mk g; omega⟩
  · have d1 : (12 : Int) ≤ (l.length : Int) := by omega
    have d2 : (18 : Int) ≤ (l.length : Int) := by omega
    have d3 : (34 : Int) ≤ (l.length : Int) := by omega
    have d4 : (44 : Int) < (l.length : Int) := by omega
    have d5 : (44 : Int) ≤ (l.length : Int) := by omega
    have d6 : (45 : Int) ≤ (l.length : Int) := by omega
    have ha : strconv_Atoi.f (bs ((l.take 44).drop 34)) = some (atoiU ((l.take 44).drop 34)) := by
      unfold strconv_Atoi.f
      rw [bs_size, bs_list, decide_eq_true (by simp; omega)]; rfl
    rw [ha]
    simp only [h45, d1, d2, d3, d4, d5, d6, decide_true, decide_false, Bool.and_self, cond_true, cond_false, Option.bind_some]
    have hsz : ∀ app cap unt, (mkH l app cap unt).1.size ≤ 4611686018427387904 := fun app cap unt => by
      show (bs _).size ≤ _
      rw [bs_size]; simp; omega
    have em : (l.take l.length).drop 45 = l.drop 45 := by rw [List.take_length]
    rw [em]
    have hrl : (l.drop 45).length ≤ 155 := by simp; omega
    have two : ∀ (x y : List UInt8), x.length ≤ 1000 → y.length ≤ 1000 → (∀ app cap, Am app → Am cap → l.drop 45 = txt app ++ 32 :: txt cap → x = txt app ∧ y = txt cap) →
        ∃ q, ((money_Parse.f (bs x)).bind fun (x2 : (Int × Int)) => (((money_Parse.f (bs y))).bind fun (x3 : (Int × Int)) => (((hold_Text.f (mkH l x2.1 x3.1 (atoiU ((l.take 44).drop 34)).1))).bind fun (x4 : (ByteArray × Int)) => (bif (x4.2 != (0 : Int)) then (some (zeroH, (4 : Int))) else (bif (!(decide (x4.1 = bs l))) then (some (zeroH, (4 : Int))) else (some (mkH l x2.1 x3.1 (atoiU ((l.take 44).drop 34)).1, (0 : Int)))))))) = some q ∧
          (q = (zeroH, 4) ∨ ∃ h, Good h l ∧ q = (h, 0)) ∧ ∀ h, Good h l → q = (h, 0) := by
      intro x y hx hy hxy
      obtain ⟨qa, a1, a2, a3⟩ := Parse_law hx
      obtain ⟨qc, c1, c2, c3⟩ := Parse_law hy
      rw [a1, Option.bind_some, c1, Option.bind_some]
      have haa : Am qa.1 := by
        rcases a2 with rfl | ⟨v, hv, _, rfl⟩
        · exact ⟨by decide, by decide⟩
        · exact hv
      obtain ⟨q, e1, e2, e3⟩ := check_code (h := mkH l qa.1 qc.1 (atoiU ((l.take 44).drop 34)).1) l (hsz _ _ _) haa
      refine ⟨q, e1, ?_, ?_⟩
      · rcases e2 with e2 | ⟨g, e2⟩
        · exact .inl e2
        · exact .inr ⟨_, g, e2⟩
      · intro h g
        obtain ⟨app, cap, unt, hh, _, ga, gc, u1, u2, hu, hd⟩ := good_mk g
        obtain ⟨rfl, rfl⟩ := hxy app cap ga gc hd
        have r1 := a3 app ga rfl
        have r2 := c3 cap gc rfl
        have r3 : (atoiU ((l.take 44).drop 34)).1 = unt := by rw [hu, atoi_padD (by omega)]; show ((unt.toNat : Nat) : Int) = unt; omega
        have hh' : h = mkH l qa.1 qc.1 (atoiU ((l.take 44).drop 34)).1 := by rw [r1, r2, r3]; exact hh
        rw [hh']
        exact e3 (hh' ▸ g)
    have hi := indexByte_lt 32 (l.drop 45)
    have at_32 : ∀ app cap, l.drop 45 = txt app ++ 32 :: txt cap → Lib.indexByte (l.drop 45) 32 = ((txt app).length : Int) := fun app cap e => by rw [e]; exact indexByte_skip 32 _ _ (no_32 app)
    obtain ⟨r, hr⟩ : ∃ r, l.drop 45 = r := ⟨_, rfl⟩
    rw [hr] at hrl hi at_32 two ⊢
    have hq32 : ([32] == (bs r).toList) = decide ([32] = r) := by
      rw [bs_toList, Bool.eq_iff_iff]; simp
    try rw [hq32]
    by_cases h32 : [32] = r
    · subst h32
      try rw [decide_eq_true rfl, cond_true]
      refine two [] [] (by simp) (by simp) fun app cap _ _ e => ?_
      have := at_32 app cap e
      have h0 : (txt app).length = 0 := by
        have : Lib.indexByte [32] 32 = 0 := by decide
        omega
      rw [List.length_eq_zero_iff.1 h0] at e
      simp at e
      exact ⟨(List.length_eq_zero_iff.1 h0).symm, e.symm⟩
    · rw [decide_eq_false h32, cond_false]
      by_cases h0 : 0 ≤ Lib.indexByte r 32
      · obtain ⟨x, hx⟩ : ∃ x, Lib.indexByte r 32 = x := ⟨_, rfl⟩
        rw [hx] at hi h0 at_32 ⊢
        have hu : IntKind.wrap .i64 (x + 1) = x + 1 := wrap_i64 (by omega) (by omega)
        rw [hu]
        have q2 : x ≤ (r.length : Int) := by omega
        have q3 : 0 ≤ x + 1 := by omega
        have q4 : x + 1 ≤ (r.length : Int) := by omega
        simp only [ge_iff_le, h0, q2, q3, q4, decide_true, Bool.and_self, cond_true]
        refine two _ _ (by simp; omega) (by simp; omega) fun app cap _ _ e => ?_
        have hxa := at_32 app cap e
        have ht : x.toNat = (txt app).length := by omega
        have ht' : (x + 1).toNat = (txt app).length + 1 := by omega
        rw [ht, ht', e]
        refine ⟨by rw [List.drop_zero, List.take_left' rfl], ?_⟩
        rw [List.take_length, ← List.drop_drop, List.drop_left' rfl]; rfl
      · simp only [ge_iff_le, h0, decide_false, cond_false]
        obtain ⟨qa, a1, a2, a3⟩ := Parse_law (l := r) (by omega)
        rw [a1, Option.bind_some]
        have haa : Am qa.1 := by
          rcases a2 with rfl | ⟨v, hv, _, rfl⟩
          · exact ⟨by decide, by decide⟩
          · exact hv
        obtain ⟨q, e1, e2, e3⟩ := check_code (h := mkH l qa.1 0 (atoiU ((l.take 44).drop 34)).1) l (hsz _ _ _) haa
        refine ⟨q, e1, ?_, ?_⟩
        · rcases e2 with e2 | ⟨g, e2⟩
          · exact .inl e2
          · exact .inr ⟨_, g, e2⟩
        · intro h g
          obtain ⟨app, cap, unt, hh, _, ga, gc, u1, u2, hu, hd⟩ := good_mk g
          have := at_32 app cap (hr ▸ hd)
          omega
end Go.Proofs.YtopoklifappmcaaGreatDoor
end
section
set_option linter.unusedVariables false
set_option linter.unusedSimpArgs false
set_option synthInstance.maxSize 100000
set_option synthInstance.maxHeartbeats 1000000
namespace Go.Proofs.YtopoklifappmcaaGreatDoor
open Go Go.Fw
noncomputable def prC (r a t : ByteArray) : Cl := ((dispute_Parse.f (r, a, t)).getD (zC, 0)).1
noncomputable def prD (k t : ByteArray) : Dp := ((dup_Parse.f ((shelf_number.f k).getD 0, t)).getD (zD, 0)).1
noncomputable def prH (t : ByteArray) : Hd := ((hold_Parse.f t).getD (zHd, 0)).1
noncomputable def prP (t : ByteArray) : Po := ((trade_Parse.f t).getD (zP, 0)).1
noncomputable def prN (t : ByteArray) : Int := (shelf_number.f t).getD 0
noncomputable def ldS (s : St) (p : Pr) : St :=
  let k := p.1.extract 1 p.1.size
  bif bt p.1 0 == 99 then
    (bif (k.size : Int) == 18 then (s.1, s.2.1, s.2.2.1, s.2.2.2.1, s.2.2.2.2.1, s.2.2.2.2.2.1, s.2.2.2.2.2.2.1, s.2.2.2.2.2.2.2 ++ [prC (k.extract 0 12) (k.extract 12 k.size) p.2]) else s)
  else bif bt p.1 0 == 100 then (s.1, s.2.1, s.2.2.1, s.2.2.2.1, s.2.2.2.2.1, s.2.2.2.2.2.1 ++ [prD k p.2], s.2.2.2.2.2.2.1, s.2.2.2.2.2.2.2)
  else bif bt p.1 0 == 104 then (s.1, s.2.1, s.2.2.1, s.2.2.2.1, s.2.2.2.2.1 ++ [prH (k ++ p.2)], s.2.2.2.2.2.1, s.2.2.2.2.2.2.1, s.2.2.2.2.2.2.2)
  else bif bt p.1 0 == 109 then
    (bif (p.2.size : Int) == 30 then (prN (p.2.extract 0 10), prN (p.2.extract 10 20), prN (p.2.extract 20 p.2.size), s.2.2.2.1, s.2.2.2.2.1, s.2.2.2.2.2.1, s.2.2.2.2.2.2.1, s.2.2.2.2.2.2.2) else s)
  else bif bt p.1 0 == 112 then (s.1, s.2.1, s.2.2.1, s.2.2.2.1 ++ [prP p.2], s.2.2.2.2.1, s.2.2.2.2.2.1, s.2.2.2.2.2.2.1, s.2.2.2.2.2.2.2)
  else bif bt p.1 0 == 114 then (s.1, s.2.1, s.2.2.1, s.2.2.2.1, s.2.2.2.2.1, s.2.2.2.2.2.1, s.2.2.2.2.2.2.1 ++ [prD k p.2], s.2.2.2.2.2.2.2)
  else s
def zS : St := (0, 0, 0, [], [], [], [], [])
theorem key_bt (k : UInt8) (s : ByteArray) : bt (bs [k] ++ s) 0 = (k.toNat : Int) := by
  rw [bs_self s, bs_append, bt_bs]; rfl
theorem key_rest (k : UInt8) (s : ByteArray) : (bs [k] ++ s).extract 1 (bs [k] ++ s).size = s := by
  rw [bs_self s, bs_append, bs_size, bs_extract, List.take_length]
  rfl
theorem ld_C (s : St) {c : Cl} (h : mayC c = true) : ldS s (pC c) = (s.1, s.2.1, s.2.2.1, s.2.2.2.1, s.2.2.2.2.1, s.2.2.2.2.2.1, s.2.2.2.2.2.2.1, s.2.2.2.2.2.2.2 ++ [c]) := by
  obtain ⟨h1, h2, _⟩ := mayC_parts h
  have hz : (kC c).size = 18 := by unfold kC; rw [ByteArray.size_append, h1, h2]
  have l1 : c.1.data.toList.length = 12 := by rw [size_len, h1]
  have l2 : c.2.1.data.toList.length = 6 := by rw [size_len, h2]
  have e1 : (kC c).extract 0 12 = c.1 := by
    unfold kC
    conv => lhs; rw [bs_self c.1, bs_self c.2.1]
    rw [bs_append, bs_extract, List.take_append_of_le_length (by omega), List.take_of_length_le (by omega), List.drop_zero, ← bs_self]
  have e2 : (kC c).extract 12 18 = c.2.1 := by
    unfold kC
    conv => lhs; rw [bs_self c.1, bs_self c.2.1]
    rw [bs_append, bs_extract, List.take_of_length_le (by rw [List.length_append]; omega), List.drop_append_of_le_length (by omega), List.drop_eq_nil_of_le (by omega), List.nil_append, ← bs_self]
  have e3 : prC c.1 c.2.1 (bs (txtC c)) = c := by unfold prC; rw [disputeParse_of h]; rfl
  unfold ldS pC
  simp only [key_bt, key_rest, e1, e2, e3, hz]
  rfl
theorem prD_of {x : Dp} (h : mayD x = true) : prD (bs (padD 10 x.1.toNat)) (bs (txtD x)) = x := by
  have hp := (mayD_parts h).1
  unfold prD
  rw [number_of_ten (by omega), Option.getD_some, Int.toNat_of_nonneg (by omega), dupParse_of h]; rfl
theorem ld_D (s : St) {x : Dp} (h : mayD x = true) : ldS s (pD 100 x) = (s.1, s.2.1, s.2.2.1, s.2.2.2.1, s.2.2.2.2.1, s.2.2.2.2.2.1 ++ [x], s.2.2.2.2.2.2.1, s.2.2.2.2.2.2.2) := by
  unfold ldS pD
  simp only [key_bt, key_rest, prD_of h]
  rfl
theorem ld_E (s : St) {x : Dp} (h : mayD x = true) : ldS s (pD 114 x) = (s.1, s.2.1, s.2.2.1, s.2.2.2.1, s.2.2.2.2.1, s.2.2.2.2.2.1, s.2.2.2.2.2.2.1 ++ [x], s.2.2.2.2.2.2.2) := by
  unfold ldS pD
  simp only [key_bt, key_rest, prD_of h]
  rfl
theorem kH_txt {h : Hd} (hm : mayB h = true) : kH h ++ bs ((txtH h).drop 18) = bs (txtH h) := by
  obtain ⟨h1, h2, _⟩ := may_parts hm
  have l1 : (h.1.data.toList ++ h.2.1.data.toList).length = 18 := by rw [List.length_append, size_len, size_len, h1, h2]
  have e : txtH h = (h.1.data.toList ++ h.2.1.data.toList) ++ (txtH h).drop 18 := by
    conv => lhs; rw [← List.take_append_drop 18 (txtH h)]
    congr 1
    unfold txtH
    simp only [List.append_assoc]
    rw [← List.append_assoc, List.take_append_of_le_length (by omega), List.take_of_length_le (by omega)]
  have : kH h = bs (h.1.data.toList ++ h.2.1.data.toList) := by
    unfold kH
    conv => lhs; rw [bs_self h.1, bs_self h.2.1]
    rw [bs_append]
  rw [this, bs_append, ← e]
theorem txtH_le {h : Hd} (hm : mayB h = true) (ha : Am h.2.2.2.1) : (txtH h).length ≤ 200 := by
  obtain ⟨h1, h2, h3, _, _, h5, h6⟩ := may_parts hm
  have a1 := txt_len h.2.2.2.1
  have a2 := txt_len h.2.2.2.2.1
  unfold txtH
  simp only [List.length_append, size_len, h1, h2, h3, padD_len, List.length_cons, List.length_nil]
  omega
theorem ld_H (s : St) {h : Hd} (hm : mayB h = true) (ha : Am h.2.2.2.1) : ldS s (pH h) = (s.1, s.2.1, s.2.2.1, s.2.2.2.1, s.2.2.2.2.1 ++ [h], s.2.2.2.2.2.1, s.2.2.2.2.2.2.1, s.2.2.2.2.2.2.2) := by
  obtain ⟨q, hq, _, h2⟩ := Parse_code (txtH_le hm ha)
  have e : prH (kH h ++ bs ((txtH h).drop 18)) = h := by
    unfold prH
    rw [kH_txt hm, hq, h2 h ⟨hm, ha, rfl⟩]; rfl
  unfold ldS pH
  simp only [key_bt, key_rest, e]
  rfl
theorem ld_P (s : St) (l : List Po) (i : Nat) (h : mayP (l.getD i zP) = true) : ldS s (pP l i) = (s.1, s.2.1, s.2.2.1, s.2.2.2.1 ++ [l.getD i zP], s.2.2.2.2.1, s.2.2.2.2.2.1, s.2.2.2.2.2.2.1, s.2.2.2.2.2.2.2) := by
  have e : prP (bs (txtP (l.getD i zP))) = l.getD i zP := by unfold prP; rw [back_is h]; rfl
  unfold ldS pP
  simp only [key_bt, key_rest, e]
  rfl
theorem prN_of {n : Int} (h : 0 ≤ n ∧ n ≤ 2147483647) : prN (bs (padD 10 n.toNat)) = n := by
  unfold prN
  rw [number_of_ten (by omega), Option.getD_some]; omega
theorem ld_M (s : St) {a : St} (m : ParS a) : ldS s (pM a) = (a.1, a.2.1, a.2.2.1, s.2.2.2.1, s.2.2.2.2.1, s.2.2.2.2.2.1, s.2.2.2.2.2.2.1, s.2.2.2.2.2.2.2) := by
  have l1 : (padD 10 a.1.toNat).length = 10 := padD_len 10 _
  have l2 : (padD 10 a.2.1.toNat).length = 10 := padD_len 10 _
  have l3 : (padD 10 a.2.2.1.toNat).length = 10 := padD_len 10 _
  have e0 : ((bs (padD 10 a.1.toNat) ++ bs (padD 10 a.2.1.toNat)) ++ bs (padD 10 a.2.2.1.toNat)) = bs (padD 10 a.1.toNat ++ padD 10 a.2.1.toNat ++ padD 10 a.2.2.1.toNat) := by rw [bs_append, bs_append]
  have hz : (bs (padD 10 a.1.toNat ++ padD 10 a.2.1.toNat ++ padD 10 a.2.2.1.toNat)).size = 30 := by rw [bs_size, List.length_append, List.length_append, l1, l2, l3]
  have e1 : (bs (padD 10 a.1.toNat ++ padD 10 a.2.1.toNat ++ padD 10 a.2.2.1.toNat)).extract 0 10 = bs (padD 10 a.1.toNat) := by
    rw [bs_extract, List.append_assoc, List.take_append_of_le_length (by omega), List.take_of_length_le (by omega), List.drop_zero]
  have e2 : (bs (padD 10 a.1.toNat ++ padD 10 a.2.1.toNat ++ padD 10 a.2.2.1.toNat)).extract 10 20 = bs (padD 10 a.2.1.toNat) := by
    rw [bs_extract, List.take_append_of_le_length (by rw [List.length_append]; omega), List.take_of_length_le (by rw [List.length_append]; omega), List.drop_append_of_le_length (by omega), List.drop_eq_nil_of_le (by omega), List.nil_append]
  have e3 : (bs (padD 10 a.1.toNat ++ padD 10 a.2.1.toNat ++ padD 10 a.2.2.1.toNat)).extract 20 30 = bs (padD 10 a.2.2.1.toNat) := by
    rw [bs_extract, List.take_of_length_le (by rw [List.length_append, List.length_append]; omega), List.drop_append_of_le_length (by rw [List.length_append]; omega), List.drop_eq_nil_of_le (by rw [List.length_append]; omega), List.nil_append]
  unfold ldS pM
  simp only [e0, hz, e1, e2, e3, prN_of m.t, prN_of (show 0 ≤ a.2.1 ∧ a.2.1 ≤ 2147483647 by have := m.b; omega), prN_of m.n]
  rfl
theorem fold_in {α : Type} (g : α → Pr) (put : St → List α → St) (l : List α) (hp : ∀ s x, x ∈ l → ∀ l', ldS (put s l') (g x) = put s (l' ++ [x])) (s : St) : ∀ (r : List α) (l' : List α), (∀ x ∈ r, x ∈ l) → (r.map g).foldl ldS (put s l') = put s (l' ++ r)
  | [], l', _ => by rw [List.append_nil]; rfl
  | x :: r, l', hr => by
    rw [List.map_cons, List.foldl_cons, hp s x (hr x List.mem_cons_self), fold_in g put l hp s r (l' ++ [x]) (fun y hy => hr y (List.mem_cons_of_mem _ hy)), List.append_assoc]; rfl
theorem fold_at (l : List Po) (s : St) (h : ∀ x ∈ l, mayP x = true) : ∀ (n : Nat), n ≤ l.length → ((List.range n).map (pP l)).foldl ldS (s.1, s.2.1, s.2.2.1, [], s.2.2.2.2) = (s.1, s.2.1, s.2.2.1, l.take n, s.2.2.2.2)
  | 0, _ => rfl
  | n + 1, hn => by
    rw [List.range_succ, List.map_append, List.foldl_append, fold_at l s h n (by omega), List.map_cons, List.map_nil, List.foldl_cons, List.foldl_nil, ld_P _ l n (h _ (at_mem (by omega))), take_up zP (by omega)]
theorem fold_C (x1 x2 x3 : Int) (x4 : List Po) (x5 : List Hd) (x6 x7 : List Dp) (l : List Cl) (h : ∀ x ∈ l, mayC x = true) : (l.map pC).foldl ldS (x1, x2, x3, x4, x5, x6, x7, []) = (x1, x2, x3, x4, x5, x6, x7, l) :=
  fold_in pC (fun s l => (s.1, s.2.1, s.2.2.1, s.2.2.2.1, s.2.2.2.2.1, s.2.2.2.2.2.1, s.2.2.2.2.2.2.1, l)) l (fun s x hx l => ld_C _ (h x hx)) (x1, x2, x3, x4, x5, x6, x7, []) l [] (fun _ h => h)
theorem fold_D (x1 x2 x3 : Int) (x4 : List Po) (x5 : List Hd) (x7 : List Dp) (x8 : List Cl) (l : List Dp) (h : ∀ x ∈ l, mayD x = true) : (l.map (pD 100)).foldl ldS (x1, x2, x3, x4, x5, [], x7, x8) = (x1, x2, x3, x4, x5, l, x7, x8) :=
  fold_in (pD 100) (fun s l => (s.1, s.2.1, s.2.2.1, s.2.2.2.1, s.2.2.2.2.1, l, s.2.2.2.2.2.2.1, s.2.2.2.2.2.2.2)) l (fun s x hx l => ld_D _ (h x hx)) (x1, x2, x3, x4, x5, [], x7, x8) l [] (fun _ h => h)
theorem fold_E (x1 x2 x3 : Int) (x4 : List Po) (x5 : List Hd) (x6 : List Dp) (x8 : List Cl) (l : List Dp) (h : ∀ x ∈ l, mayD x = true) : (l.map (pD 114)).foldl ldS (x1, x2, x3, x4, x5, x6, [], x8) = (x1, x2, x3, x4, x5, x6, l, x8) :=
  fold_in (pD 114) (fun s l => (s.1, s.2.1, s.2.2.1, s.2.2.2.1, s.2.2.2.2.1, s.2.2.2.2.2.1, l, s.2.2.2.2.2.2.2)) l (fun s x hx l => ld_E _ (h x hx)) (x1, x2, x3, x4, x5, x6, [], x8) l [] (fun _ h => h)
theorem fold_H (x1 x2 x3 : Int) (x4 : List Po) (x6 x7 : List Dp) (x8 : List Cl) (l : List Hd) (h : ∀ x ∈ l, mayB x = true ∧ Am x.2.2.2.1) : (l.map pH).foldl ldS (x1, x2, x3, x4, [], x6, x7, x8) = (x1, x2, x3, x4, l, x6, x7, x8) :=
  fold_in pH (fun s l => (s.1, s.2.1, s.2.2.1, s.2.2.2.1, l, s.2.2.2.2.2.1, s.2.2.2.2.2.2.1, s.2.2.2.2.2.2.2)) l (fun s x hx l => ld_H _ (h x hx).1 (h x hx).2) (x1, x2, x3, x4, [], x6, x7, x8) l [] (fun _ h => h)
theorem fold_P (x1 x2 x3 : Int) (x5 : List Hd) (x6 x7 : List Dp) (x8 : List Cl) (l : List Po) (h : ∀ x ∈ l, mayP x = true) : ((List.range l.length).map (pP l)).foldl ldS (x1, x2, x3, [], x5, x6, x7, x8) = (x1, x2, x3, l, x5, x6, x7, x8) := by
  have := fold_at l (x1, x2, x3, [], x5, x6, x7, x8) h l.length (Nat.le_refl _)
  rw [List.take_length] at this
  exact this
theorem load_back {a : St} (m : ParS a) (hh : ∀ x ∈ a.2.2.2.2.1, Am x.2.2.2.1) : (pairsS a).foldl ldS zS = a := by
  obtain ⟨n1, d1⟩ := mayDs_each m.d
  obtain ⟨n2, d2⟩ := mayDs_each m.e
  unfold pairsS zS
  rw [List.foldl_append, List.foldl_append, List.foldl_append, List.foldl_append, List.foldl_append, List.nil_append, fold_C _ _ _ _ _ _ _ _ m.c, fold_D _ _ _ _ _ _ _ _ d1, fold_H _ _ _ _ _ _ _ _ (fun x hx => ⟨(m.h x hx).1, hh x hx⟩), List.foldl_cons, List.foldl_nil, ld_M _ m]
  show List.foldl ldS (List.foldl ldS (a.1, a.2.1, a.2.2.1, [], a.2.2.2.2.1, a.2.2.2.2.2.1, [], a.2.2.2.2.2.2.2) _) _ = a
  rw [fold_P _ _ _ _ _ _ _ _ m.p, fold_E _ _ _ _ _ _ _ _ d2]
theorem pairs_inj {a b : St} (ma : mayS a = true) (mb : mayS b = true) (sa : Small a) (sb : Small b) : decide (pairsS a = pairsS b) = decide (a = b) := by
  by_cases h : a = b
  · rw [h]; simp
  · rw [decide_eq_false h, decide_eq_false]
    intro e
    apply h
    rw [← load_back (mayS_parts ma) (fun x hx => (sa.h x hx).2.2), ← load_back (mayS_parts mb) (fun x hx => (sb.h x hx).2.2), e]
end Go.Proofs.YtopoklifappmcaaGreatDoor
end
