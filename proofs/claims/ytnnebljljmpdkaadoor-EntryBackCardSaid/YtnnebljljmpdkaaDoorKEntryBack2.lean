/- An entry the other way round may be, and does the contrary on each account; the other way round again it is as it was. -/
import Derived.OwnWalk
import Derived.Lib.SliceRun
import Derived.Test.YtnnebljljmpdkaaDoorRows
import Derived.Test.YtnnebljljmpdkaaDoorCards
import Derived.Test.YtnnebljljmpdkaaDoorTie
import Derived.SevenTiedAt
import Derived.ProofKit
import Derived.LaidMore
import Derived.Lay
import Derived.MakeChecks
import Derived.Test.YtnnebljljmpdkaaDoorKEntryBack1
section
/- The Go function bursarref01.Text, as a Lean function, and that it is this one. Written by a program of this session. -/
set_option linter.unusedVariables false
set_option maxRecDepth 100000
namespace Go.Proofs.YtnnebljljmpdkaaDoor
open Go Go.Fw
abbrev bursarref01_Text.As : Shs := (.cons (.x (.i .i64)) .nil)
abbrev bursarref01_Text.m : Back := [(false, .s)]
noncomputable abbrev bursarref01_Text.H : HK := hk P G0 E0 J0 [] noLoops 4
theorem bursarref01_Text.rows : TabOK P G0 (tabF []) := rows_ok (ws := []) trivial
theorem bursarref01_Text.hok : HKOK P bursarref01_Text.H := hk_ok e0_ok j0_ok bursarref01_Text.rows (fun g n => noLoops_ok g n) 4
noncomputable abbrev bursarref01_Text.sh9 : SSh := ⟨[(0, (.x (.i .i64))), (3, (.x .s)), (4, (.x .s)), (5, (.x (.i .i64)))], []⟩
noncomputable abbrev bursarref01_Text.os9 : PEnds := [((.exit 0), ⟨[(3, (.x .s)), (4, (.x .s))], []⟩)]
noncomputable def bursarref01_Text.t9 (s : (Int × (ByteArray × (ByteArray × Int)))) : Option ((Int × (ByteArray × (ByteArray × Int))) ⊕ ((ByteArray × ByteArray))) := (bif (decide ((s.2.2.2 < (3 : Int)))) then (bif (s.2.2.2 == (2 : Int)) then (bif (Nat.ble (1 + s.2.2.1.size) 9223372036854775807) then (bif (Nat.ble ((ByteArray.mk (List.toArray (List.map (fun y4 => (UInt8.ofNat (Int.toNat y4))) ((IntKind.wrap .u8 (IntKind.wrap .i64 ((48 : Int) - (Int.tmod s.1 (10 : Int))))) :: [])))).size + ((bs [46]) ++ s.2.2.1).size) 9223372036854775807) then (some (.inl ((IntKind.wrap .i64 (Int.tdiv s.1 (10 : Int))), (s.2.1, (((ByteArray.mk (List.toArray (List.map (fun y4 => (UInt8.ofNat (Int.toNat y4))) ((IntKind.wrap .u8 (IntKind.wrap .i64 ((48 : Int) - (Int.tmod s.1 (10 : Int))))) :: [])))) ++ ((bs [46]) ++ s.2.2.1)), (IntKind.wrap .i64 (s.2.2.2 + (1 : Int)))))))) else none) else none) else (bif (Nat.ble ((ByteArray.mk (List.toArray (List.map (fun y4 => (UInt8.ofNat (Int.toNat y4))) ((IntKind.wrap .u8 (IntKind.wrap .i64 ((48 : Int) - (Int.tmod s.1 (10 : Int))))) :: [])))).size + s.2.2.1.size) 9223372036854775807) then (some (.inl ((IntKind.wrap .i64 (Int.tdiv s.1 (10 : Int))), (s.2.1, (((ByteArray.mk (List.toArray (List.map (fun y4 => (UInt8.ofNat (Int.toNat y4))) ((IntKind.wrap .u8 (IntKind.wrap .i64 ((48 : Int) - (Int.tmod s.1 (10 : Int))))) :: [])))) ++ s.2.2.1), (IntKind.wrap .i64 (s.2.2.2 + (1 : Int)))))))) else none)) else (bif (decide ((s.1 < (0 : Int)))) then (bif (s.2.2.2 == (2 : Int)) then (bif (Nat.ble (1 + s.2.2.1.size) 9223372036854775807) then (bif (Nat.ble ((ByteArray.mk (List.toArray (List.map (fun y4 => (UInt8.ofNat (Int.toNat y4))) ((IntKind.wrap .u8 (IntKind.wrap .i64 ((48 : Int) - (Int.tmod s.1 (10 : Int))))) :: [])))).size + ((bs [46]) ++ s.2.2.1).size) 9223372036854775807) then (some (.inl ((IntKind.wrap .i64 (Int.tdiv s.1 (10 : Int))), (s.2.1, (((ByteArray.mk (List.toArray (List.map (fun y4 => (UInt8.ofNat (Int.toNat y4))) ((IntKind.wrap .u8 (IntKind.wrap .i64 ((48 : Int) - (Int.tmod s.1 (10 : Int))))) :: [])))) ++ ((bs [46]) ++ s.2.2.1)), (IntKind.wrap .i64 (s.2.2.2 + (1 : Int)))))))) else none) else none) else (bif (Nat.ble ((ByteArray.mk (List.toArray (List.map (fun y4 => (UInt8.ofNat (Int.toNat y4))) ((IntKind.wrap .u8 (IntKind.wrap .i64 ((48 : Int) - (Int.tmod s.1 (10 : Int))))) :: [])))).size + s.2.2.1.size) 9223372036854775807) then (some (.inl ((IntKind.wrap .i64 (Int.tdiv s.1 (10 : Int))), (s.2.1, (((ByteArray.mk (List.toArray (List.map (fun y4 => (UInt8.ofNat (Int.toNat y4))) ((IntKind.wrap .u8 (IntKind.wrap .i64 ((48 : Int) - (Int.tmod s.1 (10 : Int))))) :: [])))) ++ s.2.2.1), (IntKind.wrap .i64 (s.2.2.2 + (1 : Int)))))))) else none)) else (some (.inr (s.2.1, s.2.2.1)))))
theorem bursarref01_Text.t9_ok : ∀ s : Vals bursarref01_Text.sh9.tys, turnK P bursarref01_Text.H (lp []) (bodyAt (codeOf P 46) 9) 0 bursarref01_Text.sh9 bursarref01_Text.os9 s some = bursarref01_Text.t9 s := fun s => by kernel_rfl
noncomputable def bursarref01_Text.l9 : (Int × (ByteArray × (ByteArray × Int))) → Option ((ByteArray × ByteArray)) := rounds bursarref01_Text.t9
noncomputable def bursarref01_Text.f (a : Int) : Option ByteArray := (bif (decide ((a ≥ (0 : Int)))) then (((bursarref01_Text.l9 ((IntKind.wrap .i64 ((0 : Int) - a)), ((bs []), ((bs []), (0 : Int)))))).bind fun (x1 : (ByteArray × ByteArray)) => (bif (Nat.ble (x1.1.size + x1.2.size) 9223372036854775807) then (some (x1.1 ++ x1.2)) else none)) else (((bursarref01_Text.l9 (a, ((bs [45]), ((bs []), (0 : Int)))))).bind fun (x1 : (ByteArray × ByteArray)) => (bif (Nat.ble (x1.1.size + x1.2.size) 9223372036854775807) then (some (x1.1 ++ x1.2)) else none)))
theorem bursarref01_Text.ok : ∀ a : Vals bursarref01_Text.As.tys, fnK P bursarref01_Text.H (lp [(9, (NodeT.summ ⟨bursarref01_Text.sh9, bursarref01_Text.os9, bursarref01_Text.l9⟩ 0))]) 46 bursarref01_Text.As bursarref01_Text.m a some = bursarref01_Text.f a := fun a => by kernel_rfl
noncomputable abbrev bursarref01_Text.row : Row := fnRow 46 bursarref01_Text.As bursarref01_Text.m bursarref01_Text.f
theorem bursarref01_Text.row_ok : RowOK P G0 bursarref01_Text.row := row_told bursarref01_Text.hok (lp_of (l := [(9, (NodeT.summ ⟨bursarref01_Text.sh9, bursarref01_Text.os9, bursarref01_Text.l9⟩ 0))]) ⟨(loop_sum bursarref01_Text.hok (by kernel_rfl) (by kernel_rfl) (l := []) trivial bursarref01_Text.sh9 bursarref01_Text.os9 (by kernel_rfl) bursarref01_Text.t9 bursarref01_Text.t9_ok), trivial⟩) (fun _ => rfl) bursarref01_Text.ok
end Go.Proofs.YtnnebljljmpdkaaDoor
end
section
/- The Go function bursarref01.Parse, as a Lean function, and that it is this one. Written by a program of this session. -/
set_option linter.unusedVariables false
set_option maxRecDepth 100000
namespace Go.Proofs.YtnnebljljmpdkaaDoor
open Go Go.Fw
abbrev bursarref01_Parse.As : Shs := (.cons (.x .s) .nil)
abbrev bursarref01_Parse.m : Back := [(false, (.i .i64)), (false, .b)]
noncomputable abbrev bursarref01_Parse.H : HK := hk P G0 E0 J0 [bursarref01_Text.row] noLoops 4
theorem bursarref01_Parse.rows : TabOK P G0 (tabF [bursarref01_Text.row]) := rows_ok (ws := [bursarref01_Text.row]) ⟨bursarref01_Text.row_ok, trivial⟩
theorem bursarref01_Parse.hok : HKOK P bursarref01_Parse.H := hk_ok e0_ok j0_ok bursarref01_Parse.rows (fun g n => noLoops_ok g n) 4
noncomputable abbrev bursarref01_Parse.sh9 : SSh := ⟨[(0, (.x .s)), (4, (.x .b)), (6, (.x (.i .i64))), (7, (.x (.i .i64)))], []⟩
noncomputable abbrev bursarref01_Parse.os9 : PEnds := [(.ret, ⟨[(2, (.x (.i .i64))), (3, (.x .b))], []⟩), ((.exit 0), ⟨[(0, (.x .s)), (4, (.x .b)), (6, (.x (.i .i64)))], []⟩)]
noncomputable def bursarref01_Parse.t9 (s : (ByteArray × (Bool × (Int × Int)))) : Option ((ByteArray × (Bool × (Int × Int))) ⊕ ((Int × Bool) ⊕ (ByteArray × (Bool × Int)))) := (bif (decide ((s.2.2.2 < (s.1.size : Int)))) then (bif (s.2.2.2 == (IntKind.wrap .i64 ((s.1.size : Int) - (3 : Int)))) then (bif ((decide (((0 : Int) ≤ s.2.2.2))) && (decide ((s.2.2.2 < (s.1.size : Int))))) then (bif ((bt s.1 (Int.toNat s.2.2.2)) == (46 : Int)) then (some (.inl (s.1, (s.2.1, (s.2.2.1, (IntKind.wrap .i64 (s.2.2.2 + (1 : Int)))))))) else (bif ((decide (((0 : Int) ≤ s.2.2.2))) && (decide ((s.2.2.2 < (s.1.size : Int))))) then (bif (decide (((bt s.1 (Int.toNat s.2.2.2)) < (48 : Int)))) then (some (.inr (.inl ((0 : Int), false)))) else (bif ((decide (((0 : Int) ≤ s.2.2.2))) && (decide ((s.2.2.2 < (s.1.size : Int))))) then (bif (decide (((bt s.1 (Int.toNat s.2.2.2)) > (57 : Int)))) then (some (.inr (.inl ((0 : Int), false)))) else (bif ((decide (((0 : Int) ≤ s.2.2.2))) && (decide ((s.2.2.2 < (s.1.size : Int))))) then (bif (decide ((s.2.2.1 < (-922337203685477580 : Int)))) then (some (.inr (.inl ((0 : Int), false)))) else (bif (s.2.2.1 == (-922337203685477580 : Int)) then (bif (decide (((IntKind.wrap .i64 ((IntKind.wrap .i64 (bt s.1 (Int.toNat s.2.2.2))) - (48 : Int))) > (8 : Int)))) then (some (.inr (.inl ((0 : Int), false)))) else (some (.inl (s.1, (s.2.1, ((IntKind.wrap .i64 ((IntKind.wrap .i64 ((10 : Int) * s.2.2.1)) - (IntKind.wrap .i64 ((IntKind.wrap .i64 (bt s.1 (Int.toNat s.2.2.2))) - (48 : Int))))), (IntKind.wrap .i64 (s.2.2.2 + (1 : Int))))))))) else (some (.inl (s.1, (s.2.1, ((IntKind.wrap .i64 ((IntKind.wrap .i64 ((10 : Int) * s.2.2.1)) - (IntKind.wrap .i64 ((IntKind.wrap .i64 (bt s.1 (Int.toNat s.2.2.2))) - (48 : Int))))), (IntKind.wrap .i64 (s.2.2.2 + (1 : Int)))))))))) else none)) else none)) else none)) else none) else (bif ((decide (((0 : Int) ≤ s.2.2.2))) && (decide ((s.2.2.2 < (s.1.size : Int))))) then (bif (decide (((bt s.1 (Int.toNat s.2.2.2)) < (48 : Int)))) then (some (.inr (.inl ((0 : Int), false)))) else (bif ((decide (((0 : Int) ≤ s.2.2.2))) && (decide ((s.2.2.2 < (s.1.size : Int))))) then (bif (decide (((bt s.1 (Int.toNat s.2.2.2)) > (57 : Int)))) then (some (.inr (.inl ((0 : Int), false)))) else (bif ((decide (((0 : Int) ≤ s.2.2.2))) && (decide ((s.2.2.2 < (s.1.size : Int))))) then (bif (decide ((s.2.2.1 < (-922337203685477580 : Int)))) then (some (.inr (.inl ((0 : Int), false)))) else (bif (s.2.2.1 == (-922337203685477580 : Int)) then (bif (decide (((IntKind.wrap .i64 ((IntKind.wrap .i64 (bt s.1 (Int.toNat s.2.2.2))) - (48 : Int))) > (8 : Int)))) then (some (.inr (.inl ((0 : Int), false)))) else (some (.inl (s.1, (s.2.1, ((IntKind.wrap .i64 ((IntKind.wrap .i64 ((10 : Int) * s.2.2.1)) - (IntKind.wrap .i64 ((IntKind.wrap .i64 (bt s.1 (Int.toNat s.2.2.2))) - (48 : Int))))), (IntKind.wrap .i64 (s.2.2.2 + (1 : Int))))))))) else (some (.inl (s.1, (s.2.1, ((IntKind.wrap .i64 ((IntKind.wrap .i64 ((10 : Int) * s.2.2.1)) - (IntKind.wrap .i64 ((IntKind.wrap .i64 (bt s.1 (Int.toNat s.2.2.2))) - (48 : Int))))), (IntKind.wrap .i64 (s.2.2.2 + (1 : Int)))))))))) else none)) else none)) else none)) else (some (.inr (.inr (s.1, (s.2.1, s.2.2.1))))))
theorem bursarref01_Parse.t9_ok : ∀ s : Vals bursarref01_Parse.sh9.tys, turnK P bursarref01_Parse.H (lp []) (bodyAt (codeOf P 44) 9) 0 bursarref01_Parse.sh9 bursarref01_Parse.os9 s some = bursarref01_Parse.t9 s := fun s => by kernel_rfl
noncomputable def bursarref01_Parse.l9 : (ByteArray × (Bool × (Int × Int))) → Option ((Int × Bool) ⊕ (ByteArray × (Bool × Int))) := rounds bursarref01_Parse.t9
noncomputable def bursarref01_Parse.f (a : ByteArray) : Option (Int × Bool) := (bif (decide (((a.size : Int) > (0 : Int)))) then (bif (true && (decide (((0 : Int) < (a.size : Int))))) then (bif ((bt a 0) == (45 : Int)) then (((bursarref01_Parse.l9 (a, (((bt a 0) == (45 : Int)), ((0 : Int), (1 : Int)))))).bind fun (x1 : ((Int × Bool) ⊕ (ByteArray × (Bool × Int)))) => (match x1 with | .inl x2 => (some x2) | .inr x2 => (bif (!x2.2.1) then (bif (x2.2.2 == (-9223372036854775808 : Int)) then (some ((0 : Int), false)) else (((bursarref01_Text.f (IntKind.wrap .i64 ((0 : Int) - x2.2.2)))).bind fun (x3 : ByteArray) => (some ((IntKind.wrap .i64 ((0 : Int) - x2.2.2)), ((ByteArray.toList x3) == (ByteArray.toList x2.1)))))) else (((bursarref01_Text.f x2.2.2)).bind fun (x3 : ByteArray) => (some (x2.2.2, ((ByteArray.toList x3) == (ByteArray.toList x2.1)))))))) else (((bursarref01_Parse.l9 (a, (((bt a 0) == (45 : Int)), ((0 : Int), (0 : Int)))))).bind fun (x1 : ((Int × Bool) ⊕ (ByteArray × (Bool × Int)))) => (match x1 with | .inl x2 => (some x2) | .inr x2 => (bif (!x2.2.1) then (bif (x2.2.2 == (-9223372036854775808 : Int)) then (some ((0 : Int), false)) else (((bursarref01_Text.f (IntKind.wrap .i64 ((0 : Int) - x2.2.2)))).bind fun (x3 : ByteArray) => (some ((IntKind.wrap .i64 ((0 : Int) - x2.2.2)), ((ByteArray.toList x3) == (ByteArray.toList x2.1)))))) else (((bursarref01_Text.f x2.2.2)).bind fun (x3 : ByteArray) => (some (x2.2.2, ((ByteArray.toList x3) == (ByteArray.toList x2.1))))))))) else none) else (((bursarref01_Parse.l9 (a, (false, ((0 : Int), (0 : Int)))))).bind fun (x1 : ((Int × Bool) ⊕ (ByteArray × (Bool × Int)))) => (match x1 with | .inl x2 => (some x2) | .inr x2 => (bif (!x2.2.1) then (bif (x2.2.2 == (-9223372036854775808 : Int)) then (some ((0 : Int), false)) else (((bursarref01_Text.f (IntKind.wrap .i64 ((0 : Int) - x2.2.2)))).bind fun (x3 : ByteArray) => (some ((IntKind.wrap .i64 ((0 : Int) - x2.2.2)), ((ByteArray.toList x3) == (ByteArray.toList x2.1)))))) else (((bursarref01_Text.f x2.2.2)).bind fun (x3 : ByteArray) => (some (x2.2.2, ((ByteArray.toList x3) == (ByteArray.toList x2.1)))))))))
theorem bursarref01_Parse.ok : ∀ a : Vals bursarref01_Parse.As.tys, fnK P bursarref01_Parse.H (lp [(9, (NodeT.summ ⟨bursarref01_Parse.sh9, bursarref01_Parse.os9, bursarref01_Parse.l9⟩ 0))]) 44 bursarref01_Parse.As bursarref01_Parse.m a some = bursarref01_Parse.f a := fun a => by kernel_rfl
noncomputable abbrev bursarref01_Parse.row : Row := fnRow 44 bursarref01_Parse.As bursarref01_Parse.m bursarref01_Parse.f
theorem bursarref01_Parse.row_ok : RowOK P G0 bursarref01_Parse.row := row_told bursarref01_Parse.hok (lp_of (l := [(9, (NodeT.summ ⟨bursarref01_Parse.sh9, bursarref01_Parse.os9, bursarref01_Parse.l9⟩ 0))]) ⟨(loop_sum bursarref01_Parse.hok (by kernel_rfl) (by kernel_rfl) (l := []) trivial bursarref01_Parse.sh9 bursarref01_Parse.os9 (by kernel_rfl) bursarref01_Parse.t9 bursarref01_Parse.t9_ok), trivial⟩) (fun _ => rfl) bursarref01_Parse.ok
end Go.Proofs.YtnnebljljmpdkaaDoor
end
section
/- An amount's text: what the code and the document's answer make of it. By this session. -/
set_option linter.unusedVariables false
set_option linter.unusedSimpArgs false
namespace Go.Proofs.YtnnebljljmpdkaaDoor
open Go Go.Fw
/-- an amount's text without its sign -/
def body (n : Nat) : List UInt8 := decP 19 (n / 1000) ++ [dgt (n / 100 % 10), 46, dgt (n / 10 % 10), dgt (n % 10)]
/-- an amount's text -/
def txt (a : Int) : List UInt8 := (if a < 0 then [45] else []) ++ body a.natAbs
theorem txt_len (a : Int) : (txt a).length ≤ 24 := by
  have := decP_len 19 (a.natAbs / 1000)
  unfold txt body
  split <;> simp <;> omega
theorem asize_is {a : Int} (ha : Am a) : money_size.f a = some (a.natAbs : Int) := by
  obtain ⟨h1, h2⟩ := ha
  unfold money_size.f
  simp only [wrap_u64]
  by_cases h : a < 0 <;> simp [h] <;> omega
theorem signed_is {u : Nat} {b : Bool} (h : u < 18446744073709551616) : ∃ r, money_signed.f ((u : Int), b) = some r ∧ (r = (0, 2) ∨ (Am (bif b then -(u : Int) else u) ∧ r = (bif b then -(u : Int) else u, 0))) ∧ (Am (bif b then -(u : Int) else u) → r = (bif b then -(u : Int) else u, 0)) := by
  unfold money_signed.f Am
  simp only [wrap_u64, IntKind.wrap_i64]
  cases b
  · by_cases h1 : (u : Int) ≤ 9223372036854775807
    · simp [h1]; omega
    · simp [h1]
  · by_cases h1 : (u : Int) ≤ 9223372036854775808
    · simp [h1]; omega
    · simp [h1]
theorem fmtU_is {n : Nat} (h : n < 18446744073709551616) : fmtU ((n : Int), 10) = some (bs (decF 20 n)) := by
  unfold fmtU
  have h1 : (decide ((0 : Int) ≤ (n : Int)) && decide ((n : Int) < 18446744073709551616) && decide ((10 : Int) = 10)) = true := by
    have h0 : (n : Int) < 18446744073709551616 := by omega
    simp [h0]
  rw [h1]
  simp [bs]
theorem cents_is (n : Nat) : strconv_FormatUint.f (((n % 100 + 100 : Nat) : Int), 10) = some (bs [dgt 1, dgt (n / 10 % 10), dgt (n % 10)]) := by
  show fmtU _ = _
  have h0 : decP 19 ((n % 100 + 100) / 10) = [dgt 1, dgt (n / 10 % 10)] := by
    unfold decP
    rw [if_neg (by omega)]
    unfold decP
    rw [if_neg (by omega)]
    unfold decP
    rw [if_pos (by omega)]
    rw [show (n % 100 + 100) / 10 / 10 % 10 = 1 by omega, show (n % 100 + 100) / 10 % 10 = n / 10 % 10 by omega]
    rfl
  rw [fmtU_is (by omega), decF_decP 19 _ (by omega), h0, show (n % 100 + 100) % 10 = n % 10 by omega]
  rfl
theorem whole_is {n : Nat} (hn : n ≤ 9223372036854775808) : strconv_FormatUint.f (((n / 100 : Nat) : Int), 10) = some (bs (decP 19 (n / 1000) ++ [dgt (n / 100 % 10)])) := by
  show fmtU _ = _
  rw [fmtU_is (by omega), decF_decP 19 _ (by omega), show n / 100 / 10 = n / 1000 by omega]
theorem Text_is {a : Int} (ha : Am a) : money_Text.f a = some (bs (txt a)) := by
  have hn : a.natAbs ≤ 9223372036854775808 := by obtain ⟨h1, h2⟩ := ha; omega
  unfold money_Text.f
  rw [asize_is ha]
  unfold txt
  obtain ⟨n, hN⟩ : ∃ n, a.natAbs = n := ⟨_, rfl⟩
  rw [hN] at hn ⊢
  have e1 : IntKind.wrap .u64 (Int.tmod (n : Int) 100 + 100) = ((n % 100 + 100 : Nat) : Int) := by
    rw [wrap_u64, show Int.tmod (n : Int) 100 = ((n % 100 : Nat) : Int) from (Int.ofNat_tmod n 100).symm]
    omega
  have e2 : IntKind.wrap .u64 (Int.tdiv (n : Int) 100) = ((n / 100 : Nat) : Int) := by
    rw [wrap_u64, show Int.tdiv (n : Int) 100 = ((n / 100 : Nat) : Int) from (Int.ofNat_tdiv n 100).symm]
    omega
  have f1 := cents_is n
  have f2 := whole_is hn
  have hl := decP_len 19 (n / 1000)
  unfold body
  obtain ⟨d, hd⟩ : ∃ d, decP 19 (n / 1000) = d := ⟨_, rfl⟩
  rw [hd] at hl f2 ⊢
  have b1 : ∀ k, k ≤ 100 → Nat.ble k 9223372036854775807 = true := fun k h => Nat.ble_eq_true_of_le (by omega)
  by_cases h : a < 0
  · rw [decide_eq_true h, if_pos h]
    rw [cond_true, Option.bind_some, e1, f1, Option.bind_some, e2, f2, Option.bind_some]
    simp only [bs_append, bs_size, bs_extract, Bool.true_and]
    rw [b1 _ (by simp; omega), b1 _ (by simp; omega), b1 _ (by simp; omega)]
    simp
  · rw [decide_eq_false h, if_neg h]
    rw [cond_false, Option.bind_some, e1, f1, Option.bind_some, e2, f2, Option.bind_some]
    simp only [bs_append, bs_size, bs_extract, Bool.true_and]
    rw [b1 _ (by simp; omega), b1 _ (by simp; omega), b1 _ (by simp; omega)]
    simp
/-- one digit more of the document's -/
theorem step_is (sg : ByteArray) {m i : Nat} {l : List UInt8} (hm : m ≤ 9223372036854775808) (hi : i ≤ 1000) (hl : l.length ≤ 1000) (h : i < 3 ∨ 0 < m) :
    bursarref01_Text.t9 (-(m : Int), (sg, (bs l, (i : Int)))) = some (.inl (-((m / 10 : Nat) : Int), (sg, (bs (dgt (m % 10) :: (if i = 2 then 46 :: l else l)), ((i + 1 : Nat) : Int))))) := by
  unfold bursarref01_Text.t9
  have e1 : IntKind.wrap .i64 (Int.tdiv (-(m : Int)) 10) = -((m / 10 : Nat) : Int) := by
    rw [Int.neg_tdiv, show Int.tdiv (m : Int) 10 = ((m / 10 : Nat) : Int) from (Int.ofNat_tdiv m 10).symm, wrap_i64 (by omega) (by omega)]
  have e2 : IntKind.wrap .u8 (IntKind.wrap .i64 ((48 : Int) - (Int.tmod (-(m : Int)) (10 : Int)))) = ((48 + m % 10 : Nat) : Int) := by
    rw [Int.neg_tmod, show Int.tmod (m : Int) 10 = ((m % 10 : Nat) : Int) from (Int.ofNat_tmod m 10).symm, wrap_i64 (by omega) (by omega), wrap_u8]
    omega
  have e3 : IntKind.wrap .i64 ((i : Int) + 1) = ((i + 1 : Nat) : Int) := wrap_up (by omega)
  have e4 : (ByteArray.mk (List.toArray (List.map (fun y4 => (UInt8.ofNat (Int.toNat y4))) [((48 + m % 10 : Nat) : Int)]))) = bs [dgt (m % 10)] := by
    show bs [UInt8.ofNat (Int.toNat ((48 + m % 10 : Nat) : Int))] = _
    rw [Int.toNat_natCast]
  have b1 : ∀ k, k ≤ 2000 → Nat.ble k 9223372036854775807 = true := fun k h => Nat.ble_eq_true_of_le (by omega)
  simp only [e1, e2, e3, e4, bs_append, bs_size]
  by_cases h2 : i = 2
  · subst h2
    have h3 : (((2 : Nat) : Int) == 2) = true := rfl
    have h4 : ((2 : Nat) : Int) < 3 := by omega
    simp only [h3, h4, decide_true, cond_true]
    rw [b1 _ (by omega), b1 _ (by simp; omega)]
    rfl
  · have h3 : ((i : Int) == 2) = false := by rw [beq_eq_false_iff_ne]; omega
    simp only [h3, cond_false, if_neg h2]
    rw [b1 _ (by simp; omega)]
    by_cases h4 : (i : Int) < 3
    · simp only [h4, decide_true, cond_true]; rfl
    · have h5 : -(m : Int) < 0 := by omega
      simp only [h4, h5, decide_true, decide_false, cond_true, cond_false]; rfl
theorem tail_is (sg : ByteArray) : ∀ (k n i : Nat) (l : List UInt8), n < 10 ^ k → k + i ≤ 1000 → 3 ≤ i → k + l.length ≤ 1000 → n ≤ 9223372036854775808 →
    bursarref01_Text.l9 (-(n : Int), (sg, (bs l, (i : Int)))) = some (sg, bs (decP k n ++ l))
  | k, 0, i, l, _, hi, h3, hl, _ => by
    unfold bursarref01_Text.l9
    rw [rounds_end (r := (sg, bs l))]
    · cases k <;> simp [decP]
    · unfold bursarref01_Text.t9
      have h1 : ¬ (i : Int) < 3 := by omega
      simp [h1]
  | 0, n + 1, i, l, h, _, _, _, _ => by simp at h
  | k + 1, n + 1, i, l, h, hi, h3, hl, hn => by
    have ih := tail_is sg k ((n + 1) / 10) (i + 1) (dgt ((n + 1) % 10) :: l) (by have : 10 ^ (k + 1) = 10 ^ k * 10 := Nat.pow_succ ..; omega) (by omega) (by omega) (by simp; omega) (by omega)
    unfold bursarref01_Text.l9 at ih ⊢
    rw [rounds_next (step_is sg hn (by omega) (by omega) (.inr (by omega))), if_neg (by omega), ih]
    simp [decP]
theorem digits_is (sg : ByteArray) {n : Nat} (hn : n ≤ 9223372036854775808) : bursarref01_Text.l9 (-(n : Int), (sg, (bs [], (0 : Int)))) = some (sg, bs (body n)) := by
  have h0 := step_is sg (m := n) (i := 0) (l := []) hn (by omega) (by simp) (.inl (by omega))
  have h1 := step_is sg (m := n / 10) (i := 1) (l := [dgt (n % 10)]) (by omega) (by omega) (by simp) (.inl (by omega))
  have h2 := step_is sg (m := n / 10 / 10) (i := 2) (l := [dgt (n / 10 % 10), dgt (n % 10)]) (by omega) (by omega) (by simp) (.inl (by omega))
  have h3 := tail_is sg 19 (n / 10 / 10 / 10) 3 [dgt (n / 10 / 10 % 10), 46, dgt (n / 10 % 10), dgt (n % 10)] (by omega) (by omega) (by omega) (by simp) (by omega)
  unfold bursarref01_Text.l9 at h3 ⊢
  refine (rounds_next h0).trans ((rounds_next h1).trans ((rounds_next h2).trans (h3.trans ?_)))
  unfold body
  rw [show n / 10 / 10 / 10 = n / 1000 by omega, show n / 10 / 10 % 10 = n / 100 % 10 by omega]
theorem ref_Text_is {a : Int} (ha : Am a) : bursarref01_Text.f a = some (bs (txt a)) := by
  obtain ⟨h1, h2⟩ := ha
  have b1 : ∀ k, k ≤ 100 → Nat.ble k 9223372036854775807 = true := fun k h => Nat.ble_eq_true_of_le (by omega)
  have hl : (body a.natAbs).length ≤ 23 := by
    have := decP_len 19 (a.natAbs / 1000)
    unfold body; simp; omega
  unfold bursarref01_Text.f txt
  by_cases h : a < 0
  · rw [decide_eq_false (by omega), if_pos h, cond_false]
    rw [show a = -(a.natAbs : Int) by omega, digits_is (bs [45]) (by omega), show (-(a.natAbs : Int)).natAbs = a.natAbs by omega]
    simp only [Option.bind_some, bs_append, bs_size]
    rw [b1 _ (by simp; omega)]
    rfl
  · rw [decide_eq_true (by omega), if_neg h, cond_true, wrap_i64 (by omega) (by omega)]
    rw [show (0 : Int) - a = -(a.natAbs : Int) by omega, digits_is (bs []) (by omega)]
    simp only [Option.bind_some, bs_append, bs_size]
    rw [b1 _ (by simp; omega)]
    rfl
end Go.Proofs.YtnnebljljmpdkaaDoor
end
section
/- An amount of a text: what the document's answer reads. By this session. -/
set_option linter.unusedVariables false
set_option linter.unusedSimpArgs false
namespace Go.Proofs.YtnnebljljmpdkaaDoor
open Go Go.Fw
/-- a number below 0, read on -/
def pr : List UInt8 → Int → Option Int
  | [], acc => some acc
  | c :: r, acc => if r.length = 2 ∧ c.toNat = 46 then pr r acc
    else if c.toNat < 48 ∨ 57 < c.toNat then none
    else if acc < -922337203685477580 ∨ acc = -922337203685477580 ∧ 56 < c.toNat then none
    else pr r (10 * acc - ((c.toNat : Int) - 48))
def Neg (a : Int) : Prop := -9223372036854775808 ≤ a ∧ a ≤ 0
theorem pr_neg : ∀ (l : List UInt8) (acc v : Int), Neg acc → pr l acc = some v → Neg v
  | [], acc, v, h, e => by injection e with e; subst e; exact h
  | c :: r, acc, v, h, e => by
    unfold pr at e
    split at e
    · exact pr_neg r _ _ h e
    · split at e
      · cases e
      · split at e
        · cases e
        · refine pr_neg r _ _ ?_ e
          obtain ⟨h1, h2⟩ := h
          constructor <;> omega
theorem drop_cons {α : Type} {l r : List α} {c : α} {i : Nat} (d : α) (h : l.drop i = c :: r) : l.getD i d = c ∧ l.drop (i + 1) = r ∧ i + 1 + r.length = l.length := by
  have hl := congrArg List.length h
  simp only [List.length_drop, List.length_cons] at hl
  refine ⟨?_, ?_, by omega⟩
  · have := congrArg (fun x => x[0]?) h
    simp only [List.getElem?_drop, List.getElem?_cons_zero, Nat.add_zero] at this
    rw [List.getD_eq_getElem?_getD, this]; rfl
  · rw [← List.drop_drop, h]; rfl
theorem turn_is {all r : List UInt8} {c : UInt8} {b : Bool} {i : Nat} {acc : Int} (hall : all.length ≤ 1000) (g1 : all.getD i 0 = c) (g3 : i + 1 + r.length = all.length) (hn : Neg acc) :
    bursarref01_Parse.t9 (bs all, (b, (acc, (i : Int)))) = some (if r.length = 2 ∧ c.toNat = 46 then .inl (bs all, (b, (acc, ((i + 1 : Nat) : Int)))) else if c.toNat < 48 ∨ 57 < c.toNat then .inr (.inl (0, false))
      else if acc < -922337203685477580 ∨ acc = -922337203685477580 ∧ 56 < c.toNat then .inr (.inl (0, false)) else .inl (bs all, (b, (10 * acc - ((c.toNat : Int) - 48), ((i + 1 : Nat) : Int))))) := by
  obtain ⟨n1, n2⟩ := hn
  have hb : bt (bs all) (Int.toNat (i : Int)) = (c.toNat : Int) := by rw [bt_bs, Int.toNat_natCast, g1]
  have hz : (((bs all).size : Nat) : Int) = (all.length : Int) := by rw [bs_size]
  have e3 : IntKind.wrap .i64 ((i : Int) + 1) = ((i + 1 : Nat) : Int) := wrap_up (by omega)
  have e4 : IntKind.wrap .i64 ((all.length : Int) - 3) = (all.length : Int) - 3 := wrap_i64 (by omega) (by omega)
  have hc := c.toNat_lt
  have e5 : IntKind.wrap .i64 (IntKind.wrap .i64 (c.toNat : Int) - 48) = (c.toNat : Int) - 48 := by rw [wrap_i64 (n := (c.toNat : Int)) (by omega) (by omega), wrap_i64 (by omega) (by omega)]
  have c1 : (i : Int) < (all.length : Int) := by omega
  have c2 : (0 : Int) ≤ (i : Int) := by omega
  have hsk : ((i : Int) == (all.length : Int) - 3) = decide (r.length = 2) := by
    rw [Bool.eq_iff_iff, beq_iff_eq, decide_eq_true_iff]; omega
  have hdot : ((c.toNat : Int) == 46) = decide (c.toNat = 46) := by
    rw [Bool.eq_iff_iff, beq_iff_eq, decide_eq_true_iff]; omega
  unfold bursarref01_Parse.t9
  simp only [hz, hb, e3, e4, e5, c1, c2, decide_true, Bool.true_and, cond_true, hsk, hdot]
  by_cases k1 : r.length = 2 ∧ c.toNat = 46
  · rw [if_pos k1]
    simp only [k1.1, k1.2, decide_true, cond_true]
  · rw [if_neg k1]
    have k1' : decide (r.length = 2) = false ∨ decide (c.toNat = 46) = false := by
      simp only [decide_eq_false_iff_not]; omega
    by_cases k2 : c.toNat < 48 ∨ 57 < c.toNat
    · rw [if_pos k2]
      by_cases k3 : (c.toNat : Int) < 48
      · rcases k1' with k1' | k1' <;> simp only [k1', k3, decide_true, cond_true, cond_false, Bool.cond_self]
      · have k4 : (c.toNat : Int) > 57 := by omega
        rcases k1' with k1' | k1' <;> simp only [k1', k3, k4, decide_true, decide_false, cond_true, cond_false, Bool.cond_self]
    · rw [if_neg k2]
      have k3 : ¬ (c.toNat : Int) < 48 := by omega
      have k4 : ¬ (c.toNat : Int) > 57 := by omega
      by_cases k5 : acc < -922337203685477580 ∨ acc = -922337203685477580 ∧ 56 < c.toNat
      · rw [if_pos k5]
        by_cases k6 : acc < -922337203685477580
        · rcases k1' with k1' | k1' <;> simp only [k1', k3, k4, k6, decide_true, decide_false, cond_true, cond_false, Bool.cond_self]
        · have k7 : (acc == -922337203685477580) = true := by rw [beq_iff_eq]; omega
          have k8 : (c.toNat : Int) - 48 > 8 := by omega
          rcases k1' with k1' | k1' <;> simp only [k1', k3, k4, k6, k7, k8, decide_true, decide_false, cond_true, cond_false, Bool.cond_self]
      · rw [if_neg k5]
        have e6 : IntKind.wrap .i64 (IntKind.wrap .i64 (10 * acc) - ((c.toNat : Int) - 48)) = 10 * acc - ((c.toNat : Int) - 48) := by
          rw [wrap_i64 (n := 10 * acc) (by omega) (by omega), wrap_i64 (by omega) (by omega)]
        have k6 : ¬ acc < -922337203685477580 := by omega
        simp only [e6]
        by_cases k7 : acc = -922337203685477580
        · have k8 : ¬ (c.toNat : Int) - 48 > 8 := by omega
          rcases k1' with k1' | k1' <;> simp only [k1', k3, k4, k6, k8, decide_false, cond_true, cond_false, Bool.cond_self]
        · have k8 : (acc == -922337203685477580) = false := by rw [beq_eq_false_iff_ne]; exact k7
          rcases k1' with k1' | k1' <;> simp only [k1', k3, k4, k6, k8, decide_false, cond_true, cond_false, Bool.cond_self]
theorem moneyRead_is (all : List UInt8) (b : Bool) (hall : all.length ≤ 1000) : ∀ (l : List UInt8) (i : Nat) (acc : Int), all.drop i = l → i ≤ all.length → Neg acc →
    bursarref01_Parse.l9 (bs all, (b, (acc, (i : Int)))) = some (match pr l acc with | none => .inl (0, false) | some v => .inr (bs all, (b, v)))
  | [], i, acc, h, hi, hn => by
    have hl := congrArg List.length h
    simp only [List.length_drop, List.length_nil] at hl
    unfold bursarref01_Parse.l9
    rw [rounds_end (r := .inr (bs all, (b, acc)))]
    · rfl
    · unfold bursarref01_Parse.t9
      have h1 : ¬ (i : Int) < ((bs all).size : Int) := by rw [bs_size]; omega
      simp only [h1, decide_false, cond_false]
  | c :: r, i, acc, h, hi, hn => by
    obtain ⟨g1, g2, g3⟩ := drop_cons 0 h
    have ih := fun acc' hn' => moneyRead_is all b hall r (i + 1) acc' g2 (by omega) hn'
    have st := turn_is (b := b) hall g1 g3 hn
    unfold bursarref01_Parse.l9 at ih ⊢
    unfold pr
    split at st
    · rename_i k; rw [if_pos k, rounds_next st]; exact ih acc hn
    · rename_i k; rw [if_neg k]
      split at st
      · rename_i k; rw [if_pos k, rounds_end st]
      · rename_i k; rw [if_neg k]
        split at st
        · rename_i k; rw [if_pos k, rounds_end st]
        · rename_i k' k; rw [if_neg k, rounds_next st]
          exact ih _ (by obtain ⟨n1, n2⟩ := hn; constructor <;> omega)
/-- the document's amount of a text, whose digits are told -/
def refRead (b : Bool) (l r : List UInt8) : Int × Bool :=
  match pr r 0 with
  | none => (0, false)
  | some v => if b = true then (v, decide (txt v = l)) else if v = -9223372036854775808 then (0, false) else (-v, decide (txt (-v) = l))
/-- the document's amount of a text -/
def refParse (l : List UInt8) : Int × Bool := if l.head? = some 45 then refRead true l (l.drop 1) else refRead false l l
theorem ref_Parse_is {l : List UInt8} (hl : l.length ≤ 1000) : bursarref01_Parse.f (bs l) = some (refParse l) := by
  have z : Neg 0 := ⟨by omega, by omega⟩
  have hr := fun b i (hi : i ≤ l.length) => moneyRead_is l b hl (l.drop i) i 0 rfl hi z
  have hv := fun i v (h : pr (l.drop i) 0 = some v) => pr_neg _ _ _ z h
  unfold bursarref01_Parse.f refParse
  simp only [bs_size, texts_eq, bt_bs]
  have fin : ∀ (i : Nat) (b : Bool), i ≤ l.length → (bursarref01_Parse.l9 (bs l, (b, ((0 : Int), (i : Int))))).bind (fun (x1 : ((Int × Bool) ⊕ (ByteArray × (Bool × Int)))) => (match x1 with | .inl x2 => (some x2) | .inr x2 => (bif (!x2.2.1) then (bif (x2.2.2 == (-9223372036854775808 : Int)) then (some ((0 : Int), false)) else (((bursarref01_Text.f (IntKind.wrap .i64 ((0 : Int) - x2.2.2)))).bind fun (x3 : ByteArray) => (some ((IntKind.wrap .i64 ((0 : Int) - x2.2.2)), decide (x3 = x2.1))))) else (((bursarref01_Text.f x2.2.2)).bind fun (x3 : ByteArray) => (some (x2.2.2, decide (x3 = x2.1)))))))
      = some (refRead b l (l.drop i)) := by
    intro i b hi
    rw [hr b i hi]
    unfold refRead
    cases hp : pr (l.drop i) 0 with
    | none => rfl
    | some v =>
      obtain ⟨v1, v2⟩ := hv i v hp
      cases b
      · simp only [Option.bind_some, Bool.not_false, cond_true, Bool.false_eq_true, if_false]
        by_cases hm : v = -9223372036854775808
        · subst hm; rfl
        · rw [if_neg hm, show (v == -9223372036854775808) = false by rw [beq_eq_false_iff_ne]; exact hm, cond_false, wrap_i64 (by omega) (by omega), ref_Text_is ⟨by omega, by omega⟩]
          simp only [Option.bind_some, bs_inj, Int.zero_sub]
      · simp only [Option.bind_some, Bool.not_true, cond_false, if_true]
        rw [ref_Text_is ⟨by omega, by omega⟩]
        simp only [Option.bind_some, bs_inj]
  cases l with
  | nil => exact fin 0 false (by omega)
  | cons c r =>
    have h1 : ((c :: r).length : Int) > 0 := by simp
    have h2 : (0 : Int) < ((c :: r).length : Int) := h1
    simp only [h1, h2, decide_true, cond_true, Bool.true_and]
    by_cases hc : c = 45
    · subst hc
      rw [if_pos (by rfl)]
      exact fin 1 true (by simp)
    · have h3 : (((List.getD (c :: r) 0 0).toNat : Int) == 45) = false := by
        rw [beq_eq_false_iff_ne]
        intro h
        apply hc
        apply UInt8.toNat_inj.1
        simp at h
        show c.toNat = 45
        omega
      simp only [h3, cond_false]
      rw [if_neg (by simpa using hc)]
      exact fin 0 false (by omega)
end Go.Proofs.YtnnebljljmpdkaaDoor
end
section
/- Amounts and their texts, what is parsed of a text, by definition. By this session. -/
set_option linter.unusedVariables false
set_option linter.unusedSimpArgs false
namespace Go.Proofs.YtnnebljljmpdkaaDoor
open Go Go.Fw
theorem pr_dig {d : Nat} {t : List UInt8} {acc : Int} (hd : d < 10) (h1 : -9223372036854775808 ≤ 10 * acc - d) : pr (dgt d :: t) acc = pr t (10 * acc - d) := by
  have hn := dgt_nat hd
  conv => lhs; unfold pr
  simp only [hn]
  rw [if_neg (by omega), if_neg (by omega), if_neg (by omega)]
  congr 1
  omega
theorem pr_decP : ∀ (k n : Nat) (t : List UInt8), n < 10 ^ k → n ≤ 9223372036854775 → pr (decP k n ++ t) 0 = pr t (-(n : Int))
  | 0, n, t, h, _ => by
    have : n = 0 := by simpa using h
    subst this; rfl
  | k + 1, n, t, h, h2 => by
    unfold decP
    split
    · rename_i h0; subst h0; rfl
    · rw [List.append_assoc, pr_decP k (n / 10) _ (by have : 10 ^ (k + 1) = 10 ^ k * 10 := Nat.pow_succ ..; omega) (by omega), List.singleton_append, pr_dig (by omega) (by omega)]
      congr 1
      omega
theorem pr_body {n : Nat} (hn : n ≤ 9223372036854775808) : pr (body n) 0 = some (-(n : Int)) := by
  unfold body
  rw [pr_decP 19 (n / 1000) _ (by omega) (by omega), pr_dig (by omega) (by omega)]
  conv => lhs; unfold pr
  rw [if_pos ⟨rfl, rfl⟩, pr_dig (by omega) (by omega), pr_dig (by omega) (by omega)]
  show some _ = some _
  congr 1
  omega
theorem body_dig (n : Nat) : ∀ c, c ∈ decP 19 (n / 1000) ++ [dgt (n / 100 % 10)] → 48 ≤ c.toNat ∧ c.toNat ≤ 57 := by
  intro c h
  rcases List.mem_append.1 h with h | h
  · exact decP_dig _ _ _ h
  · rw [List.mem_singleton.1 h, dgt_nat (by omega)]; omega
theorem body_head (n : Nat) : ¬ (body n).head? = some 45 := by
  intro h
  have hd := body_dig n
  have e : body n = (decP 19 (n / 1000) ++ [dgt (n / 100 % 10)]) ++ 46 :: [dgt (n / 10 % 10), dgt (n % 10)] := by unfold body; simp
  cases hl : decP 19 (n / 1000) ++ [dgt (n / 100 % 10)] with
  | nil => simp at hl
  | cons c r =>
    rw [e, hl] at h
    have := hd c (by rw [hl]; exact List.mem_cons_self ..)
    simp at h
    rw [h] at this
    exact absurd this (by decide)
theorem refParse_txt {a : Int} (ha : Am a) : refParse (txt a) = (a, true) := by
  obtain ⟨h1, h2⟩ := ha
  unfold refParse
  by_cases h : a < 0
  · have e : txt a = 45 :: body a.natAbs := by unfold txt; rw [if_pos h]; rfl
    rw [e, if_pos (by rfl)]
    unfold refRead
    rw [List.drop_one, List.tail_cons, pr_body (by omega), show -(a.natAbs : Int) = a by omega]
    simp [e]
  · have e : txt a = body a.natAbs := by unfold txt; rw [if_neg h]; rfl
    rw [e, if_neg (body_head _)]
    unfold refRead
    rw [pr_body (by omega), show -(a.natAbs : Int) = -a by omega]
    simp only [Bool.false_eq_true, if_false]
    rw [if_neg (by omega), Int.neg_neg, e]
    simp
theorem refParse_only {l : List UInt8} (h : (refParse l).2 = true) : ∃ v, Am v ∧ txt v = l ∧ refParse l = (v, true) := by
  have z : Neg 0 := ⟨by omega, by omega⟩
  have key : ∀ b r, (refRead b l r).2 = true → ∃ v, Am v ∧ txt v = l ∧ refRead b l r = (v, true) := by
    intro b r h
    unfold refRead at h ⊢
    cases hp : pr r 0 with
    | none => rw [hp] at h; cases h
    | some v =>
      rw [hp] at h
      obtain ⟨v1, v2⟩ := pr_neg _ _ _ z hp
      cases b
      · simp only [Bool.false_eq_true, if_false] at h ⊢
        split at h
        · cases h
        · rename_i k
          rw [if_neg k]
          have ht : txt (-v) = l := by simpa using h
          exact ⟨-v, ⟨by omega, by omega⟩, ht, by simp [ht]⟩
      · simp only [if_true] at h ⊢
        have ht : txt v = l := by simpa using h
        exact ⟨v, ⟨by omega, by omega⟩, ht, by simp [ht]⟩
  unfold refParse at h ⊢
  split at h
  · rename_i k; rw [if_pos k]; exact key _ _ h
  · rename_i k; rw [if_neg k]; exact key _ _ h
end Go.Proofs.YtnnebljljmpdkaaDoor
end
section
/- The Go function chart.Name, as a Lean function, and that it is this one. Written by a program of this session. -/
set_option linter.unusedVariables false
set_option maxRecDepth 100000
namespace Go.Proofs.YtnnebljljmpdkaaDoor
open Go Go.Fw
abbrev chart_Name.As : Shs := (.cons (.x T_api_Account) .nil)
abbrev chart_Name.m : Back := [(false, .s), (false, (.i .i64))]
noncomputable abbrev chart_Name.H : HK := hk P G0 E0 J0 [chart_May.row, chart_letters.row] noLoops 4
theorem chart_Name.rows : TabOK P G0 (tabF [chart_May.row, chart_letters.row]) := rows_ok (ws := [chart_May.row, chart_letters.row]) ⟨chart_May.row_ok, ⟨chart_letters.row_ok, trivial⟩⟩
theorem chart_Name.hok : HKOK P chart_Name.H := hk_ok e0_ok j0_ok chart_Name.rows (fun g n => noLoops_ok g n) 4
noncomputable def chart_Name.f (a : (Int × ByteArray)) : Option (ByteArray × Int) := (((chart_May.f a)).bind fun (x1 : Bool) => (bif (!x1) then (some ((bs []), (1 : Int))) else (bif (a.1 == (0 : Int)) then (bif (Nat.ble (0 + a.2.size) 9223372036854775807) then (some (((bs []) ++ a.2), (0 : Int))) else none) else (bif (a.1 == (1 : Int)) then (bif (Nat.ble (1 + a.2.size) 9223372036854775807) then (some (((bs [67]) ++ a.2), (0 : Int))) else none) else (bif (a.1 == (2 : Int)) then (bif (Nat.ble (1 + a.2.size) 9223372036854775807) then (some (((bs [65]) ++ a.2), (0 : Int))) else none) else (bif (a.1 == (3 : Int)) then (bif (Nat.ble (1 + a.2.size) 9223372036854775807) then (some (((bs [72]) ++ a.2), (0 : Int))) else none) else (bif (a.1 == (4 : Int)) then (bif (Nat.ble (1 + a.2.size) 9223372036854775807) then (some (((bs [68]) ++ a.2), (0 : Int))) else none) else none)))))))
theorem chart_Name.ok : ∀ a : Vals chart_Name.As.tys, fnK P chart_Name.H (lp []) 28 chart_Name.As chart_Name.m a some = chart_Name.f a := fun a => by kernel_rfl
noncomputable abbrev chart_Name.row : Row := fnRow 28 chart_Name.As chart_Name.m chart_Name.f
theorem chart_Name.row_ok : RowOK P G0 chart_Name.row := row_told chart_Name.hok (lp_of (l := []) trivial) (fun _ => rfl) chart_Name.ok
end Go.Proofs.YtnnebljljmpdkaaDoor
end
section
/- The Go function entry.Text, as a Lean function, and that it is this one. Written by a program of this session. -/
set_option linter.unusedVariables false
set_option maxRecDepth 100000
namespace Go.Proofs.YtnnebljljmpdkaaDoor
open Go Go.Fw
abbrev entry_Text.As : Shs := (.cons (.x T_api_Entry) .nil)
abbrev entry_Text.m : Back := [(false, .s), (false, (.i .i64))]
noncomputable abbrev entry_Text.H : HK := hk P G0 E0 J0 [entry_Check.row, strconv_Itoa.row, chart_Name.row, money_Text.row] noLoops 4
theorem entry_Text.rows : TabOK P G0 (tabF [entry_Check.row, strconv_Itoa.row, chart_Name.row, money_Text.row]) := rows_ok (ws := [entry_Check.row, strconv_Itoa.row, chart_Name.row, money_Text.row]) ⟨entry_Check.row_ok, ⟨strconv_Itoa.row_ok, ⟨chart_Name.row_ok, ⟨money_Text.row_ok, trivial⟩⟩⟩⟩
theorem entry_Text.hok : HKOK P entry_Text.H := hk_ok e0_ok j0_ok entry_Text.rows (fun g n => noLoops_ok g n) 4
noncomputable abbrev entry_Text.sh8 : SSh := ⟨[(5, (.x .s)), (23, (.x (.l (.g (.p (.g (.p (.i .i64) .s)) (.i .i64)))))), (24, (.x (.i .i64))), (25, (.x (.i .i64)))], []⟩
noncomputable abbrev entry_Text.os8 : PEnds := [((.exit 0), ⟨[(5, (.x .s))], []⟩)]
noncomputable def entry_Text.t8 (s : (ByteArray × ((List ((Int × ByteArray) × Int)) × (Int × Int)))) : Option ((ByteArray × ((List ((Int × ByteArray) × Int)) × (Int × Int))) ⊕ (ByteArray)) := (bif (decide ((s.2.2.2 < s.2.2.1))) then (bif ((decide (((0 : Int) ≤ s.2.2.2))) && (decide ((s.2.2.2 < ((List.length s.2.1) : Int))))) then (((chart_Name.f (List.getD s.2.1 (Int.toNat s.2.2.2) (Ty.dflt T_api_Line)).1)).bind fun (x4 : (ByteArray × Int)) => (bif (Nat.ble (1 + x4.1.size) 9223372036854775807) then (bif (Nat.ble (((bs [32]) ++ x4.1).size + 1) 9223372036854775807) then (((money_Text.f (List.getD s.2.1 (Int.toNat s.2.2.2) (Ty.dflt T_api_Line)).2)).bind fun (x5 : ByteArray) => (bif (Nat.ble ((((bs [32]) ++ x4.1) ++ (bs [61])).size + x5.size) 9223372036854775807) then (bif (Nat.ble (s.1.size + ((((bs [32]) ++ x4.1) ++ (bs [61])) ++ x5).size) 9223372036854775807) then (some (.inl ((s.1 ++ ((((bs [32]) ++ x4.1) ++ (bs [61])) ++ x5)), (s.2.1, (s.2.2.1, (IntKind.wrap .i64 (s.2.2.2 + (1 : Int)))))))) else none) else none)) else none) else none)) else none) else (some (.inr s.1)))
theorem entry_Text.t8_ok : ∀ s : Vals entry_Text.sh8.tys, turnK P entry_Text.H (lp []) (bodyAt (codeOf P 15) 8) 0 entry_Text.sh8 entry_Text.os8 s some = entry_Text.t8 s := fun s => by kernel_rfl
noncomputable def entry_Text.l8 : (ByteArray × ((List ((Int × ByteArray) × Int)) × (Int × Int))) → Option (ByteArray) := rounds entry_Text.t8
noncomputable def entry_Text.f (a : (Int × (ByteArray × (List ((Int × ByteArray) × Int))))) : Option (ByteArray × Int) := (((entry_Check.f a)).bind fun (x1 : Int) => (bif (x1 != (0 : Int)) then (some ((bs []), x1)) else (((strconv_Itoa.f a.1)).bind fun (x2 : ByteArray) => (bif (Nat.ble (x2.size + 1) 9223372036854775807) then (bif (Nat.ble ((x2 ++ (bs [32])).size + a.2.1.size) 9223372036854775807) then (((entry_Text.l8 (((x2 ++ (bs [32])) ++ a.2.1), (a.2.2, (((List.length a.2.2) : Int), (0 : Int)))))).bind fun (x3 : ByteArray) => (some (x3, (0 : Int)))) else none) else none))))
theorem entry_Text.ok : ∀ a : Vals entry_Text.As.tys, fnK P entry_Text.H (lp [(8, (NodeT.summ ⟨entry_Text.sh8, entry_Text.os8, entry_Text.l8⟩ 0))]) 15 entry_Text.As entry_Text.m a some = entry_Text.f a := fun a => by kernel_rfl
noncomputable abbrev entry_Text.row : Row := fnRow 15 entry_Text.As entry_Text.m entry_Text.f
theorem entry_Text.row_ok : RowOK P G0 entry_Text.row := row_told entry_Text.hok (lp_of (l := [(8, (NodeT.summ ⟨entry_Text.sh8, entry_Text.os8, entry_Text.l8⟩ 0))]) ⟨(loop_sum entry_Text.hok (by kernel_rfl) (by kernel_rfl) (l := []) trivial entry_Text.sh8 entry_Text.os8 (by kernel_rfl) entry_Text.t8 entry_Text.t8_ok), trivial⟩) (fun _ => rfl) entry_Text.ok
end Go.Proofs.YtnnebljljmpdkaaDoor
end
section
/- The Go function bursarlaw12.Few, as a Lean function, and that it is this one. Written by a program of this session. -/
set_option linter.unusedVariables false
set_option maxRecDepth 100000
namespace Go.Proofs.YtnnebljljmpdkaaDoor
open Go Go.Fw
abbrev bursarlaw12_Few.As : Shs := (.cons (.x T_api_Entry) .nil)
abbrev bursarlaw12_Few.m : Back := [(false, T_api_Entry)]
noncomputable abbrev bursarlaw12_Few.H : HK := hk P G0 E0 J0 [] noLoops 4
theorem bursarlaw12_Few.rows : TabOK P G0 (tabF []) := rows_ok (ws := []) trivial
theorem bursarlaw12_Few.hok : HKOK P bursarlaw12_Few.H := hk_ok e0_ok j0_ok bursarlaw12_Few.rows (fun g n => noLoops_ok g n) 4
noncomputable abbrev bursarlaw12_Few.sh10 : SSh := ⟨[(1, (.pt 0 0)), (2, (.pt 1 0)), (3, (.own 2 3)), (4, (.x (.i .i64)))], [.box (.cons (.x (.i .i64)) (.cons (.x .s) (.cons (.x (.l (.g (.p (.g (.p (.i .i64) .s)) (.i .i64))))) .nil))), .box (.cons (.x (.i .i64)) (.cons (.x .s) (.cons (.own 3 3) .nil))), .arrN T_api_Line, .arrN T_api_Line]⟩
noncomputable abbrev bursarlaw12_Few.os10 : PEnds := [((.exit 0), ⟨[(1, (.pt 0 0)), (2, (.pt 1 0)), (3, (.x (.l (.g (.p (.g (.p (.i .i64) .s)) (.i .i64))))))], [.box (.cons (.x (.i .i64)) (.cons (.x .s) (.cons (.x (.l (.g (.p (.g (.p (.i .i64) .s)) (.i .i64))))) .nil))), .box (.cons (.x (.i .i64)) (.cons (.x .s) (.cons (.own 2 3) .nil))), .arrN T_api_Line]⟩)]
noncomputable def bursarlaw12_Few.t10 (s : (Int × (Int × (ByteArray × ((List ((Int × ByteArray) × Int)) × (Int × (ByteArray × ((List ((Int × ByteArray) × Int)) × (List ((Int × ByteArray) × Int)))))))))) : Option ((Int × (Int × (ByteArray × ((List ((Int × ByteArray) × Int)) × (Int × (ByteArray × ((List ((Int × ByteArray) × Int)) × (List ((Int × ByteArray) × Int))))))))) ⊕ (((List ((Int × ByteArray) × Int)) × (Int × (ByteArray × ((List ((Int × ByteArray) × Int)) × (Int × (ByteArray × (List ((Int × ByteArray) × Int)))))))))) := (bif (decide ((s.1 < ((List.length s.2.2.2.1) : Int)))) then (bif ((decide (((0 : Int) ≤ s.1))) && (decide ((s.1 < ((List.length s.2.2.2.1) : Int))))) then (bif (decide ((((List.getD s.2.2.2.1 (Int.toNat s.1) (Ty.dflt T_api_Line)).1.2.size : Int) > (20 : Int)))) then (bif (true && (decide (((20 : Int) ≤ ((List.getD s.2.2.2.1 (Int.toNat s.1) (Ty.dflt T_api_Line)).1.2.size : Int))))) then (bif ((true && (Nat.ble (((List.length s.2.2.2.2.2.2.1) + (List.length ((((List.getD s.2.2.2.1 (Int.toNat s.1) (Ty.dflt T_api_Line)).1.1, (ByteArray.extract (List.getD s.2.2.2.1 (Int.toNat s.1) (Ty.dflt T_api_Line)).1.2 0 20)), (List.getD s.2.2.2.1 (Int.toNat s.1) (Ty.dflt T_api_Line)).2) :: []))) * 32) 140737488355328)) && (Nat.ble ((List.length s.2.2.2.2.2.2.1) + (List.length ((((List.getD s.2.2.2.1 (Int.toNat s.1) (Ty.dflt T_api_Line)).1.1, (ByteArray.extract (List.getD s.2.2.2.1 (Int.toNat s.1) (Ty.dflt T_api_Line)).1.2 0 20)), (List.getD s.2.2.2.1 (Int.toNat s.1) (Ty.dflt T_api_Line)).2) :: []))) 140737488355328)) then (some (.inl ((IntKind.wrap .i64 (s.1 + (1 : Int))), (s.2.1, (s.2.2.1, (s.2.2.2.1, (s.2.2.2.2.1, (s.2.2.2.2.2.1, ((s.2.2.2.2.2.2.1 ++ ((((List.getD s.2.2.2.1 (Int.toNat s.1) (Ty.dflt T_api_Line)).1.1, (ByteArray.extract (List.getD s.2.2.2.1 (Int.toNat s.1) (Ty.dflt T_api_Line)).1.2 0 20)), (List.getD s.2.2.2.1 (Int.toNat s.1) (Ty.dflt T_api_Line)).2) :: [])), s.2.2.2.2.2.2.2))))))))) else none) else none) else (bif ((true && (Nat.ble (((List.length s.2.2.2.2.2.2.1) + (List.length ((List.getD s.2.2.2.1 (Int.toNat s.1) (Ty.dflt T_api_Line)) :: []))) * 32) 140737488355328)) && (Nat.ble ((List.length s.2.2.2.2.2.2.1) + (List.length ((List.getD s.2.2.2.1 (Int.toNat s.1) (Ty.dflt T_api_Line)) :: []))) 140737488355328)) then (some (.inl ((IntKind.wrap .i64 (s.1 + (1 : Int))), (s.2.1, (s.2.2.1, (s.2.2.2.1, (s.2.2.2.2.1, (s.2.2.2.2.2.1, ((s.2.2.2.2.2.2.1 ++ ((List.getD s.2.2.2.1 (Int.toNat s.1) (Ty.dflt T_api_Line)) :: [])), s.2.2.2.2.2.2.2))))))))) else none)) else none) else (some (.inr (s.2.2.2.2.2.2.1, (s.2.1, (s.2.2.1, (s.2.2.2.1, (s.2.2.2.2.1, (s.2.2.2.2.2.1, s.2.2.2.2.2.2.2)))))))))
theorem bursarlaw12_Few.t10_ok : ∀ s : Vals bursarlaw12_Few.sh10.tys, turnK P bursarlaw12_Few.H (lp []) (bodyAt (codeOf P 14) 10) 0 bursarlaw12_Few.sh10 bursarlaw12_Few.os10 s some = bursarlaw12_Few.t10 s := by rintro ⟨s0, s1, s2, s3, s4, s5, s6, s7⟩; cases s6 <;> cases s7 <;> kernel_rfl
noncomputable def bursarlaw12_Few.l10 : (Int × (Int × (ByteArray × ((List ((Int × ByteArray) × Int)) × (Int × (ByteArray × ((List ((Int × ByteArray) × Int)) × (List ((Int × ByteArray) × Int))))))))) → Option (((List ((Int × ByteArray) × Int)) × (Int × (ByteArray × ((List ((Int × ByteArray) × Int)) × (Int × (ByteArray × (List ((Int × ByteArray) × Int))))))))) := rounds bursarlaw12_Few.t10
noncomputable def bursarlaw12_Few.f (a : (Int × (ByteArray × (List ((Int × ByteArray) × Int))))) : Option (Int × (ByteArray × (List ((Int × ByteArray) × Int)))) := (bif (decide ((((List.length a.2.2) : Int) > (10 : Int)))) then (bif (true && (decide (((10 : Int) ≤ ((List.length a.2.2) : Int))))) then (bif (decide (((a.2.1.size : Int) > (25 : Int)))) then (bif (true && (decide (((25 : Int) ≤ (a.2.1.size : Int))))) then (((bursarlaw12_Few.l10 ((0 : Int), (a.1, ((ByteArray.extract a.2.1 0 25), ((List.take 10 (List.drop 0 a.2.2)), ((0 : Int), ((bs []), ([], []))))))))).bind fun (x1 : ((List ((Int × ByteArray) × Int)) × (Int × (ByteArray × ((List ((Int × ByteArray) × Int)) × (Int × (ByteArray × (List ((Int × ByteArray) × Int))))))))) => (match x1.2.2.2.2.2.2 with | [] => (some (x1.2.1, (x1.2.2.1, x1.1))) | x2 :: x3 => (some (x1.2.1, (x1.2.2.1, x1.1))))) else none) else (((bursarlaw12_Few.l10 ((0 : Int), (a.1, (a.2.1, ((List.take 10 (List.drop 0 a.2.2)), ((0 : Int), ((bs []), ([], []))))))))).bind fun (x1 : ((List ((Int × ByteArray) × Int)) × (Int × (ByteArray × ((List ((Int × ByteArray) × Int)) × (Int × (ByteArray × (List ((Int × ByteArray) × Int))))))))) => (match x1.2.2.2.2.2.2 with | [] => (some (x1.2.1, (x1.2.2.1, x1.1))) | x2 :: x3 => (some (x1.2.1, (x1.2.2.1, x1.1)))))) else none) else (bif (decide (((a.2.1.size : Int) > (25 : Int)))) then (bif (true && (decide (((25 : Int) ≤ (a.2.1.size : Int))))) then (((bursarlaw12_Few.l10 ((0 : Int), (a.1, ((ByteArray.extract a.2.1 0 25), (a.2.2, ((0 : Int), ((bs []), ([], []))))))))).bind fun (x1 : ((List ((Int × ByteArray) × Int)) × (Int × (ByteArray × ((List ((Int × ByteArray) × Int)) × (Int × (ByteArray × (List ((Int × ByteArray) × Int))))))))) => (match x1.2.2.2.2.2.2 with | [] => (some (x1.2.1, (x1.2.2.1, x1.1))) | x2 :: x3 => (some (x1.2.1, (x1.2.2.1, x1.1))))) else none) else (((bursarlaw12_Few.l10 ((0 : Int), (a.1, (a.2.1, (a.2.2, ((0 : Int), ((bs []), ([], []))))))))).bind fun (x1 : ((List ((Int × ByteArray) × Int)) × (Int × (ByteArray × ((List ((Int × ByteArray) × Int)) × (Int × (ByteArray × (List ((Int × ByteArray) × Int))))))))) => (match x1.2.2.2.2.2.2 with | [] => (some (x1.2.1, (x1.2.2.1, x1.1))) | x2 :: x3 => (some (x1.2.1, (x1.2.2.1, x1.1)))))))
theorem bursarlaw12_Few.ok : ∀ a : Vals bursarlaw12_Few.As.tys, fnK P bursarlaw12_Few.H (lp [(10, (NodeT.summ ⟨bursarlaw12_Few.sh10, bursarlaw12_Few.os10, bursarlaw12_Few.l10⟩ 0))]) 14 bursarlaw12_Few.As bursarlaw12_Few.m a some = bursarlaw12_Few.f a := fun a => by kernel_rfl
noncomputable abbrev bursarlaw12_Few.row : Row := fnRow 14 bursarlaw12_Few.As bursarlaw12_Few.m bursarlaw12_Few.f
theorem bursarlaw12_Few.row_ok : RowOK P G0 bursarlaw12_Few.row := row_told bursarlaw12_Few.hok (lp_of (l := [(10, (NodeT.summ ⟨bursarlaw12_Few.sh10, bursarlaw12_Few.os10, bursarlaw12_Few.l10⟩ 0))]) ⟨(loop_sum bursarlaw12_Few.hok (by kernel_rfl) (by kernel_rfl) (l := []) trivial bursarlaw12_Few.sh10 bursarlaw12_Few.os10 (by kernel_rfl) bursarlaw12_Few.t10 bursarlaw12_Few.t10_ok), trivial⟩) (fun _ => rfl) bursarlaw12_Few.ok
end Go.Proofs.YtnnebljljmpdkaaDoor
end
section
/- The Go function bursarlaw12.EntryEven, as a Lean function, and that it is this one. Written by a program of this session. -/
set_option linter.unusedVariables false
set_option maxRecDepth 100000
namespace Go.Proofs.YtnnebljljmpdkaaDoor
open Go Go.Fw
abbrev bursarlaw12_EntryEven.As : Shs := (.cons (.x T_api_Entry) (.cons (.x T_api_Entry) .nil))
abbrev bursarlaw12_EntryEven.m : Back := [(false, .b)]
noncomputable abbrev bursarlaw12_EntryEven.H : HK := hk P G0 E0 J0 [bursarlaw12_awake.row, bursarref12_Same.row, entry_On.row, bursarlaw12_Few.row, entry_Text.row, bursarref01_Sum.row] noLoops 4
theorem bursarlaw12_EntryEven.rows : TabOK P G0 (tabF [bursarlaw12_awake.row, bursarref12_Same.row, entry_On.row, bursarlaw12_Few.row, entry_Text.row, bursarref01_Sum.row]) := rows_ok (ws := [bursarlaw12_awake.row, bursarref12_Same.row, entry_On.row, bursarlaw12_Few.row, entry_Text.row, bursarref01_Sum.row]) ⟨bursarlaw12_awake.row_ok, ⟨bursarref12_Same.row_ok, ⟨entry_On.row_ok, ⟨bursarlaw12_Few.row_ok, ⟨entry_Text.row_ok, ⟨bursarref01_Sum.row_ok, trivial⟩⟩⟩⟩⟩⟩
theorem bursarlaw12_EntryEven.hok : HKOK P bursarlaw12_EntryEven.H := hk_ok e0_ok j0_ok bursarlaw12_EntryEven.rows (fun g n => noLoops_ok g n) 4
noncomputable abbrev bursarlaw12_EntryEven.sh13 : SSh := ⟨[(2, (.pt 0 0)), (9, (.own 1 1)), (10, (.x (.i .i64)))], [.box (.cons (.x (.i .i64)) (.cons (.x .s) (.cons (.x (.l (.g (.p (.g (.p (.i .i64) .s)) (.i .i64))))) .nil))), .arrN (.i .i64)]⟩
noncomputable abbrev bursarlaw12_EntryEven.os13 : PEnds := [((.exit 0), ⟨[(9, (.x (.l (.i .i64))))], []⟩)]
noncomputable def bursarlaw12_EntryEven.t13 (s : (Int × (Int × (ByteArray × ((List ((Int × ByteArray) × Int)) × (List Int)))))) : Option ((Int × (Int × (ByteArray × ((List ((Int × ByteArray) × Int)) × (List Int))))) ⊕ ((List Int))) := (bif (decide ((s.1 < ((List.length s.2.2.2.1) : Int)))) then (bif ((decide (((0 : Int) ≤ s.1))) && (decide ((s.1 < ((List.length s.2.2.2.1) : Int))))) then (((entry_On.f ((s.2.1, (s.2.2.1, s.2.2.2.1)), (List.getD s.2.2.2.1 (Int.toNat s.1) (Ty.dflt T_api_Line)).1))).bind fun (x6 : Int) => (bif ((true && (Nat.ble (((List.length s.2.2.2.2) + (List.length (x6 :: []))) * 8) 140737488355328)) && (Nat.ble ((List.length s.2.2.2.2) + (List.length (x6 :: []))) 140737488355328)) then (some (.inl ((IntKind.wrap .i64 (s.1 + (1 : Int))), (s.2.1, (s.2.2.1, (s.2.2.2.1, (s.2.2.2.2 ++ (x6 :: [])))))))) else none)) else none) else (some (.inr s.2.2.2.2)))
theorem bursarlaw12_EntryEven.t13_ok : ∀ s : Vals bursarlaw12_EntryEven.sh13.tys, turnK P bursarlaw12_EntryEven.H (lp []) (bodyAt (codeOf P 4) 13) 0 bursarlaw12_EntryEven.sh13 bursarlaw12_EntryEven.os13 s some = bursarlaw12_EntryEven.t13 s := by rintro ⟨s0, s1, s2, s3, s4⟩; cases s4 <;> kernel_rfl
noncomputable def bursarlaw12_EntryEven.l13 : (Int × (Int × (ByteArray × ((List ((Int × ByteArray) × Int)) × (List Int))))) → Option ((List Int)) := rounds bursarlaw12_EntryEven.t13
noncomputable def bursarlaw12_EntryEven.f (a : ((Int × (ByteArray × (List ((Int × ByteArray) × Int)))) × (Int × (ByteArray × (List ((Int × ByteArray) × Int)))))) : Option Bool := (((bursarlaw12_Few.f a.1)).bind fun (x2 : (Int × (ByteArray × (List ((Int × ByteArray) × Int))))) => (((bursarlaw12_Few.f a.2)).bind fun (x3 : (Int × (ByteArray × (List ((Int × ByteArray) × Int))))) => (((entry_Text.f x2)).bind fun (x4 : (ByteArray × Int)) => (((entry_Text.f x3)).bind fun (x5 : (ByteArray × Int)) => (bif (x4.2 == (0 : Int)) then (bif (x5.2 == (0 : Int)) then (((bursarref12_Same.f (x2, x3))).bind fun (x6 : Bool) => (bif (!(((ByteArray.toList x4.1) == (ByteArray.toList x5.1)) == x6)) then (some false) else (bif (x4.2 != (0 : Int)) then (bif ((ByteArray.toList x4.1) == []) then (some true) else (some false)) else (((bursarlaw12_EntryEven.l13 ((0 : Int), (x2.1, (x2.2.1, (x2.2.2, [])))))).bind fun (x7 : (List Int)) => (((bursarref01_Sum.f x7)).bind fun (x8 : (Int × Bool)) => (bif (x8.1 == (0 : Int)) then (bif x8.2 then (some true) else (some false)) else (some false))))))) else (bif (x4.2 != (0 : Int)) then (bif ((ByteArray.toList x4.1) == []) then (some true) else (some false)) else (((bursarlaw12_EntryEven.l13 ((0 : Int), (x2.1, (x2.2.1, (x2.2.2, [])))))).bind fun (x6 : (List Int)) => (((bursarref01_Sum.f x6)).bind fun (x7 : (Int × Bool)) => (bif (x7.1 == (0 : Int)) then (bif x7.2 then (some true) else (some false)) else (some false)))))) else (bif (x4.2 != (0 : Int)) then (bif ((ByteArray.toList x4.1) == []) then (some true) else (some false)) else (((bursarlaw12_EntryEven.l13 ((0 : Int), (x2.1, (x2.2.1, (x2.2.2, [])))))).bind fun (x6 : (List Int)) => (((bursarref01_Sum.f x6)).bind fun (x7 : (Int × Bool)) => (bif (x7.1 == (0 : Int)) then (bif x7.2 then (some true) else (some false)) else (some false))))))))))
theorem bursarlaw12_EntryEven.ok : ∀ a : Vals bursarlaw12_EntryEven.As.tys, fnK P bursarlaw12_EntryEven.H (lp [(13, (NodeT.summ ⟨bursarlaw12_EntryEven.sh13, bursarlaw12_EntryEven.os13, bursarlaw12_EntryEven.l13⟩ 0))]) 4 bursarlaw12_EntryEven.As bursarlaw12_EntryEven.m a some = bursarlaw12_EntryEven.f a := fun a => by kernel_rfl
noncomputable abbrev bursarlaw12_EntryEven.row : Row := fnRow 4 bursarlaw12_EntryEven.As bursarlaw12_EntryEven.m bursarlaw12_EntryEven.f
theorem bursarlaw12_EntryEven.row_ok : RowOK P G0 bursarlaw12_EntryEven.row := row_told bursarlaw12_EntryEven.hok (lp_of (l := [(13, (NodeT.summ ⟨bursarlaw12_EntryEven.sh13, bursarlaw12_EntryEven.os13, bursarlaw12_EntryEven.l13⟩ 0))]) ⟨(loop_sum bursarlaw12_EntryEven.hok (by kernel_rfl) (by kernel_rfl) (l := []) trivial bursarlaw12_EntryEven.sh13 bursarlaw12_EntryEven.os13 (by kernel_rfl) bursarlaw12_EntryEven.t13 bursarlaw12_EntryEven.t13_ok), trivial⟩) (fun _ => rfl) bursarlaw12_EntryEven.ok
end Go.Proofs.YtnnebljljmpdkaaDoor
end
section
/- Entries' texts; EntryEven. By this session. -/
set_option linter.unusedVariables false
set_option linter.unusedSimpArgs false
namespace Go.Proofs.YtnnebljljmpdkaaDoor
open Go Go.Fw
/-! ### words -/
theorem sep_inj {c : UInt8} : ∀ {a b x y : List UInt8}, (∀ z ∈ a, z ≠ c) → (∀ z ∈ b, z ≠ c) → a ++ c :: x = b ++ c :: y → a = b ∧ x = y
  | [], [], x, y, _, _, h => by
    simp only [List.nil_append, List.cons.injEq, true_and] at h
    exact ⟨rfl, h⟩
  | [], z :: b, x, y, _, hb, h => by
    simp only [List.nil_append, List.cons_append, List.cons.injEq] at h
    exact absurd h.1.symm (hb z List.mem_cons_self)
  | z :: a, [], x, y, ha, _, h => by
    simp only [List.nil_append, List.cons_append, List.cons.injEq] at h
    exact absurd h.1 (ha z List.mem_cons_self)
  | z :: a, w :: b, x, y, ha, hb, h => by
    simp only [List.cons_append, List.cons.injEq] at h
    obtain ⟨h1, h2⟩ := sep_inj (fun u hu => ha u (List.mem_cons_of_mem _ hu)) (fun u hu => hb u (List.mem_cons_of_mem _ hu)) h.2
    exact ⟨by rw [h.1, h1], h2⟩
/-- words, each behind a space -/
def spaced (ws : List (List UInt8)) : List UInt8 := (ws.map fun w => 32 :: w).flatten
def noSp (w : List UInt8) : Prop := ∀ z ∈ w, z ≠ 32
theorem spaced_cons (w : List UInt8) (ws : List (List UInt8)) : spaced (w :: ws) = 32 :: (w ++ spaced ws) := rfl
theorem words_inj : ∀ {w v : List UInt8} {ws vs : List (List UInt8)}, noSp w → noSp v → (∀ x ∈ ws, noSp x) → (∀ x ∈ vs, noSp x) → w ++ spaced ws = v ++ spaced vs → w = v ∧ ws = vs
  | w, v, [], [], _, _, _, _, h => by
    simp only [spaced, List.map_nil, List.flatten_nil, List.append_nil] at h
    exact ⟨h, rfl⟩
  | w, v, [], b :: vs, hw, _, _, _, h => by
    have : (32 : UInt8) ∈ w := by
      have e : w = v ++ spaced (b :: vs) := by simpa [spaced] using h
      rw [e, spaced_cons]; simp
    exact absurd rfl (hw 32 this)
  | w, v, b :: ws, [], _, hv, _, _, h => by
    have : (32 : UInt8) ∈ v := by
      have e : w ++ spaced (b :: ws) = v := by simpa [spaced] using h
      rw [← e, spaced_cons]; simp
    exact absurd rfl (hv 32 this)
  | w, v, b :: ws, c :: vs, hw, hv, hws, hvs, h => by
    rw [spaced_cons, spaced_cons] at h
    obtain ⟨h1, h2⟩ := sep_inj hw hv h
    obtain ⟨h3, h4⟩ := words_inj (hws b List.mem_cons_self) (hvs c List.mem_cons_self) (fun x hx => hws x (List.mem_cons_of_mem _ hx)) (fun x hx => hvs x (List.mem_cons_of_mem _ hx)) h2
    exact ⟨h1, by rw [h3, h4]⟩
/-! ### names and amounts -/
theorem digitsB_mem {s : ByteArray} (h : digitsB s = true) : ∀ c ∈ s.data.toList, 48 ≤ c.toNat ∧ c.toNat ≤ 57 := by
  intro c hc
  obtain ⟨i, hi, rfl⟩ := List.getElem_of_mem hc
  have hs : i < s.size := by simpa using hi
  have := List.all_eq_true.1 h i (List.mem_range.2 hs)
  simp only [digC, Bool.and_eq_true, decide_eq_true_eq] at this
  have hb : bt s i = (((s.data.toList[i]).toNat : Nat) : Int) := by unfold bt; rw [getD_at hi]
  omega
theorem maySB_digits {a : Acc} (h : maySB a = true) : ∀ c ∈ a.2.data.toList, 48 ≤ c.toNat ∧ c.toNat ≤ 57 := by
  obtain ⟨k, s⟩ := a
  unfold maySB at h
  simp only at h ⊢
  by_cases h1 : k = 1
  · subst h1
    have h : cardB s = true := h
    simp only [cardB, soundB, Bool.and_eq_true] at h
    exact digitsB_mem h.2.2.1
  · by_cases h2 : k = 2
    · subst h2
      have h : acqB s = true := h
      simp only [acqB, Bool.and_eq_true] at h
      exact digitsB_mem h.2
    · rw [show (k == 1) = false by simpa using h1, show (k == 2) = false by simpa using h2] at h
      simp only [cond_false, Bool.and_eq_true, decide_eq_true_eq] at h
      rw [h.2, bs_list]
      intro c hc; cases hc
theorem maySB_kind {a : Acc} (h : maySB a = true) : a.1 = 1 ∨ a.1 = 2 ∨ a.1 = 3 ∨ a.1 = 4 := by
  obtain ⟨k, s⟩ := a
  unfold maySB at h
  simp only at h ⊢
  by_cases h1 : k = 1
  · exact .inl h1
  by_cases h2 : k = 2
  · exact .inr (.inl h2)
  rw [show (k == 1) = false by simpa using h1, show (k == 2) = false by simpa using h2] at h
  simp only [cond_false, Bool.and_eq_true, Bool.or_eq_true, beq_iff_eq] at h
  exact .inr (.inr h.1)
def nameL (a : Acc) : List UInt8 := letterOf a.1 :: a.2.data.toList
theorem nameL_inj {a b : Acc} (ha : maySB a = true) (hb : maySB b = true) (h : nameL a = nameL b) : a = b := by
  obtain ⟨k, s⟩ := a
  obtain ⟨k', s'⟩ := b
  simp only [nameL, List.cons.injEq] at h
  have e2 : s = s' := by rw [eq_bs s, eq_bs s', h.2]
  have e1 : k = k' := by
    have h1 := h.1
    have p := maySB_kind ha
    have q := maySB_kind hb
    simp only at p q
    rcases p with rfl | rfl | rfl | rfl <;> rcases q with rfl | rfl | rfl | rfl <;> first | rfl | exact absurd h1 (by decide)
  rw [e1, e2]
theorem letter_big (k : Int) : 65 ≤ (letterOf k).toNat := by
  unfold letterOf
  cases (k == 1) <;> cases (k == 2) <;> cases (k == 3) <;> decide
theorem nameL_no {a : Acc} (ha : maySB a = true) : ∀ c ∈ nameL a, c ≠ 32 ∧ c ≠ 61 := by
  intro c hc
  have hd : ∀ n : Nat, (n = 32 ∨ n = 61) → c.toNat ≠ n → c ≠ UInt8.ofNat n := fun n hn h e => h (by rw [e, UInt8.toNat_ofNat']; omega)
  rcases List.mem_cons.1 hc with rfl | hc
  · have := letter_big a.1
    by_cases h3 : a.1 = 1 ∨ a.1 = 2 ∨ a.1 = 3 ∨ a.1 = 4
    · rcases h3 with h | h | h | h <;> rw [h] <;> decide
    · exact absurd (maySB_kind ha) h3
  · have := maySB_digits ha c hc
    exact ⟨hd 32 (.inl rfl) (by omega), hd 61 (.inr rfl) (by omega)⟩
theorem txt_inj {a b : Int} (ha : Am a) (hb : Am b) (h : txt a = txt b) : a = b := by
  have h1 := refParse_txt ha
  have h2 := refParse_txt hb
  rw [h, h2] at h1
  exact ((Prod.mk.inj h1).1).symm
theorem txt_no {a : Int} : ∀ c ∈ txt a, c ≠ 32 ∧ c ≠ 61 := by
  intro c hc
  have key : ∀ n : Nat, 48 ≤ n → n ≤ 57 → c.toNat = n → c ≠ 32 ∧ c ≠ 61 := fun n h1 h2 h => ⟨fun e => by rw [e] at h; have : (32 : UInt8).toNat = 32 := rfl; omega, fun e => by rw [e] at h; have : (61 : UInt8).toNat = 61 := rfl; omega⟩
  unfold txt at hc
  rcases List.mem_append.1 hc with hc | hc
  · split at hc
    · rw [List.mem_singleton.1 hc]; decide
    · cases hc
  · unfold body at hc
    rcases List.mem_append.1 hc with hc | hc
    · have := decP_dig _ _ _ hc
      exact key _ this.1 this.2 rfl
    · have hx : ∀ x, c = dgt (x % 10) → c ≠ 32 ∧ c ≠ 61 := fun x e => by
        have := dgt_nat (n := x % 10) (by omega)
        exact key (48 + x % 10) (by omega) (by omega) (by rw [e, this])
      simp only [List.mem_cons, List.not_mem_nil, or_false] at hc
      rcases hc with hc | hc | hc | hc
      · exact hx _ hc
      · rw [hc]; decide
      · exact hx _ hc
      · exact hx _ hc
/-! ### a number's digits -/
def numL (n : Nat) : List UInt8 := decP 19 (n / 10) ++ [dgt (n % 10)]
theorem numL_val {n : Nat} (h : n ≤ 2147483647) : Lib.parseUintM 18446744073709551615 0 (numL n) = Lib.parseUintM 18446744073709551615 n [] := by
  unfold numL
  rw [parse_decP _ 19 _ _ (by omega) (by omega) (by omega), parse_dig (by omega) (by omega) (by omega), show n / 10 * 10 + n % 10 = n by omega]
theorem numL_inj {n m : Nat} (hn : n ≤ 2147483647) (hm : m ≤ 2147483647) (h : numL n = numL m) : n = m := by
  have h1 := numL_val hn
  rw [h, numL_val hm] at h1
  simp only [Lib.parseUintM] at h1
  first | exact (by injection h1 with h1; exact h1.symm) | (simpa using h1.symm)
theorem numL_no {n : Nat} : noSp (numL n) := by
  intro c hc e
  have : 48 ≤ c.toNat := by
    rcases List.mem_append.1 hc with hc | hc
    · exact (decP_dig _ _ _ hc).1
    · rw [List.mem_singleton.1 hc, dgt_nat (by omega)]; omega
  rw [e] at this
  exact absurd this (by decide)
theorem itoa_num {n : Int} (h0 : 0 ≤ n) (h1 : n ≤ 2147483647) : strconv_Itoa.f n = some (bs (numL n.toNat)) := by
  unfold strconv_Itoa.f itoaI numL
  rw [decide_eq_true (show -9223372036854775808 ≤ n by omega), decide_eq_true (show n ≤ 9223372036854775807 by omega), decide_eq_false (show ¬ n < 0 by omega), decF_decP 19 n.toNat (by omega)]
  rfl
/-! ### an entry's text -/
def lineT (y : Lin) : List UInt8 := nameL y.1 ++ 61 :: txt y.2
def textE (x : Ent) : List UInt8 := numL x.1.toNat ++ 32 :: (x.2.1.data.toList ++ spaced (x.2.2.map lineT))
theorem checkE_ok {x : Ent} (h : checkE x = 0) : 0 ≤ x.1 ∧ x.1 ≤ 2147483647 ∧ okRef x.2.1 = true ∧ 2 ≤ x.2.2.length ∧ x.2.2.length ≤ 8 ∧ okLines x.2.2 = true ∧ fits (x.2.2.map (·.2)).sum = true ∧ (x.2.2.map (·.2)).sum = 0 := by
  unfold checkE at h
  by_cases c1 : x.1 < 0
  · simp [c1] at h
  by_cases c2 : x.1 > 2147483647
  · simp [c2] at h
  cases c3 : okRef x.2.1
  · simp [c3] at h
  by_cases c4 : x.2.2.length < 2
  · simp [c4] at h
  by_cases c5 : x.2.2.length > 8
  · simp [c5] at h
  cases c6 : okLines x.2.2
  · simp [c6] at h
  rw [decide_eq_false c1, decide_eq_false c2, c3, decide_eq_false c4, decide_eq_false c5, c6] at h
  simp only [Bool.not_true, Bool.or_false, cond_false] at h
  cases c7 : fits (x.2.2.map (·.2)).sum
  · rw [c7] at h; cases h
  · rw [c7] at h
    simp only [cond_true] at h
    by_cases c8 : (x.2.2.map (·.2)).sum = 0
    · exact ⟨by omega, by omega, rfl, by omega, by omega, rfl, rfl, c8⟩
    · rw [show ((x.2.2.map (·.2)).sum == 0) = false by simpa using c8] at h
      cases h
theorem okLines_at {l : List Lin} (h : okLines l = true) {i : Nat} (hi : i < l.length) : maySB (l.getD i zL).1 = true ∧ ∀ j, j < i → (l.getD j zL).1 ≠ (l.getD i zL).1 := by
  have := List.all_eq_true.1 h i (List.mem_range.2 hi)
  simp only [okLine, Bool.and_eq_true, Bool.not_eq_true'] at this
  refine ⟨this.2.2, fun j hj e => ?_⟩
  have h1 := this.1
  rw [List.any_eq_false] at h1
  exact h1 j (List.mem_range.2 hj) (decide_eq_true e)
theorem okLines_mem {l : List Lin} (h : okLines l = true) : ∀ y ∈ l, maySB y.1 = true := by
  intro y hy
  obtain ⟨i, hi, rfl⟩ := List.getElem_of_mem hy
  have := (okLines_at h hi).1
  rwa [getD_at hi] at this
theorem chartName_is {a : Acc} (h : maySB a = true) (hs : a.2.size ≤ 1000) : chart_Name.f a = some (bs (nameL a), 0) := by
  have hm := chartMay_is a
  obtain ⟨k, s⟩ := a
  have hs : s.size ≤ 1000 := hs
  have p := maySB_kind h
  unfold chart_Name.f
  rw [hm, h]
  simp only at p
  rcases p with rfl | rfl | rfl | rfl <;> (simp only [Option.bind_some, Bool.not_true, cond_false]; rw [Nat.ble_eq_true_of_le (show 1 + s.size ≤ 9223372036854775807 by omega), bs_cons]; rfl)
theorem nameL_len {a : Acc} (h : maySB a = true) : (nameL a).length ≤ 17 ∧ a.2.size ≤ 1000 := by
  have hl : a.2.data.toList.length = a.2.size := by simp
  have : a.2.size ≤ 16 := by
    obtain ⟨k, s⟩ := a
    unfold maySB at h
    simp only at h ⊢
    by_cases h1 : k = 1
    · subst h1
      have h : cardB s = true := h
      simp only [cardB, Bool.and_eq_true, beq_iff_eq] at h
      omega
    · by_cases h2 : k = 2
      · subst h2
        have h : acqB s = true := h
        simp only [acqB, Bool.and_eq_true, beq_iff_eq] at h
        omega
      · rw [show (k == 1) = false by simpa using h1, show (k == 2) = false by simpa using h2] at h
        simp only [cond_false, Bool.and_eq_true, decide_eq_true_eq] at h
        rw [h.2, bs_size]; simp
  unfold nameL
  rw [List.length_cons]
  omega
theorem spaced_app (l m : List (List UInt8)) : spaced (l ++ m) = spaced l ++ spaced m := by unfold spaced; simp
theorem text_rounds12 {l : List Lin} (hl : l.length ≤ 8) (hok : okLines l = true) (hg : goodL l) {p : List UInt8} (hp : p.length ≤ 1000) :
    entry_Text.l8 (bs p, l, (l.length : Int), 0) = some (bs (p ++ spaced (l.map lineT))) := by
  have len : ∀ i, i ≤ l.length → (spaced ((l.take i).map lineT)).length ≤ 50 * i := fun i => by
    induction i with
    | zero => intro _; simp [spaced]
    | succ i ih =>
      intro hi
      have h1 := ih (by omega)
      have hm := (okLines_at hok (i := i) (by omega)).1
      have n1 := (nameL_len hm).1
      have n2 := txt_len (l.getD i zL).2
      rw [take_up zL (by omega), List.map_append, spaced_app, List.length_append]
      simp only [List.map_cons, List.map_nil, spaced, List.flatten_cons, List.flatten_nil, List.append_nil, List.length_cons, lineT, List.length_append] at h1 ⊢
      omega
  have h := rounds_to (t := entry_Text.t8) (fun i => (bs (p ++ spaced ((l.take i).map lineT)), l, (l.length : Int), ((i : Nat) : Int))) l.length (fun i hi => by
    have hm := (okLines_at hok hi).1
    have n1 := nameL_len hm
    have n2 := txt_len (l.getD i zL).2
    have n3 := len i (by omega)
    have hA : Am (l.getD i zL).2 := by rw [getD_at hi]; exact (hg _ (List.getElem_mem hi)).2.2
    have e : ∀ a : List UInt8, p ++ spaced ((l.take (i + 1)).map lineT) = (p ++ spaced ((l.take i).map lineT)) ++ (([32] ++ nameL (l.getD i zL).1) ++ [61] ++ txt (l.getD i zL).2) := fun _ => by
      rw [take_up zL hi, List.map_append, spaced_app]
      simp [spaced, lineT]
    rw [e []]
    simp only [entry_Text.t8, inb hi, cond_true, ge0' i, Bool.and_self, Int.toNat_natCast, dflt_line, chartName_is hm n1.2, Option.bind_some, Text_is hA, bs_append, bs_size, wrap_up (show i < 9223372036854775807 by omega)]
    simp only [List.length_append, List.length_cons, List.length_nil]
    rw [Nat.ble_eq_true_of_le (by omega), Nat.ble_eq_true_of_le (by omega), Nat.ble_eq_true_of_le (by omega), Nat.ble_eq_true_of_le (by omega)]
    rfl)
  have h0 : entry_Text.l8 (bs (p ++ spaced ((l.take 0).map lineT)), l, (l.length : Int), 0) = rounds entry_Text.t8 (bs (p ++ spaced ((l.take l.length).map lineT)), l, (l.length : Int), ((l.length : Nat) : Int)) := h
  have e0 : p ++ spaced ((l.take 0).map lineT) = p := by simp [spaced]
  rw [e0] at h0
  rw [h0, List.take_length, rounds_end (r := bs (p ++ spaced (l.map lineT))) (by simp only [entry_Text.t8, outb, cond_false])]
theorem entText_is {x : Ent} (hg : goodL x.2.2) : entry_Text.f x = some (bif checkE x == 0 then (bs (textE x), 0) else (bs [], checkE x)) := by
  unfold entry_Text.f
  rw [check_is hg, Option.bind_some, bne]
  by_cases h0 : checkE x = 0
  · obtain ⟨h1, h2, h3, h4, h5, h6, h7, h8⟩ := checkE_ok h0
    have hr : x.2.1.data.toList.length ≤ 20 := by
      unfold okRef at h3
      simp only [Bool.and_eq_true, decide_eq_true_eq] at h3
      simpa using h3.1
    have hr' : x.2.1.size ≤ 20 := by simpa using hr
    have hn : (numL x.1.toNat).length ≤ 20 := by
      have := decP_len 19 (x.1.toNat / 10)
      unfold numL; simp; omega
    rw [h0]
    simp only [BEq.rfl, Bool.not_true, cond_false, cond_true, itoa_num h1 h2, Option.bind_some, bs_append, bs_size]
    have ha : bs (numL x.1.toNat ++ [32]) ++ x.2.1 = bs (numL x.1.toNat ++ [32] ++ x.2.1.data.toList) := by
      conv => lhs; rhs; rw [eq_bs x.2.1]
      rw [bs_append]
    rw [ha, text_rounds12 h5 h6 hg (by simp only [List.length_append, List.length_cons, List.length_nil]; omega)]
    rw [Nat.ble_eq_true_of_le (by omega), Nat.ble_eq_true_of_le (by simp only [List.length_append, List.length_cons, List.length_nil]; omega)]
    unfold textE
    simp
  · have e : (checkE x == 0) = false := by simpa using h0
    rw [e]
    rfl
theorem okRef_no {s : ByteArray} (h : okRef s = true) : noSp s.data.toList := by
  intro c hc e
  unfold okRef at h
  simp only [Bool.and_eq_true, List.all_eq_true, decide_eq_true_eq] at h
  have := (h.2 c hc).1
  rw [e] at this
  exact absurd this (by decide)
theorem lineT_no {y : Lin} (h : maySB y.1 = true) : noSp (lineT y) := by
  intro c hc
  unfold lineT at hc
  rcases List.mem_append.1 hc with hc | hc
  · exact (nameL_no h c hc).1
  · rcases List.mem_cons.1 hc with rfl | hc
    · decide
    · exact (txt_no c hc).1
theorem lineT_inj {y z : Lin} (hy : maySB y.1 = true) (hz : maySB z.1 = true) (ay : Am y.2) (az : Am z.2) (h : lineT y = lineT z) : y = z := by
  obtain ⟨h1, h2⟩ := sep_inj (fun c hc => (nameL_no hy c hc).2) (fun c hc => (nameL_no hz c hc).2) h
  have e1 := nameL_inj hy hz h1
  have e2 := txt_inj ay az h2
  obtain ⟨a, n⟩ := y
  obtain ⟨b, m⟩ := z
  simp only at e1 e2
  rw [e1, e2]
theorem map_inj_on {α β : Type} {f : α → β} : ∀ {l m : List α}, (∀ x ∈ l, ∀ y ∈ m, f x = f y → x = y) → l.map f = m.map f → l = m
  | [], [], _, _ => rfl
  | [], _ :: _, _, h => by simp at h
  | _ :: _, [], _, h => by simp at h
  | a :: l, b :: m, hf, h => by
    simp only [List.map_cons, List.cons.injEq] at h
    rw [hf a List.mem_cons_self b List.mem_cons_self h.1, map_inj_on (fun x hx y hy => hf x (List.mem_cons_of_mem _ hx) y (List.mem_cons_of_mem _ hy)) h.2]
theorem textE_inj {x y : Ent} (hx : checkE x = 0) (hy : checkE y = 0) (gx : goodL x.2.2) (gy : goodL y.2.2) : textE x = textE y ↔ x = y := by
  refine ⟨fun h => ?_, fun h => by rw [h]⟩
  obtain ⟨a1, a2, a3, a4, a5, a6, _, _⟩ := checkE_ok hx
  obtain ⟨b1, b2, b3, b4, b5, b6, _, _⟩ := checkE_ok hy
  obtain ⟨h1, h2⟩ := sep_inj numL_no numL_no h
  have mx := okLines_mem a6
  have my := okLines_mem b6
  obtain ⟨h3, h4⟩ := words_inj (okRef_no a3) (okRef_no b3) (fun w hw => by
    obtain ⟨z, hz, rfl⟩ := List.mem_map.1 hw
    exact lineT_no (mx z hz)) (fun w hw => by
    obtain ⟨z, hz, rfl⟩ := List.mem_map.1 hw
    exact lineT_no (my z hz)) h2
  have e1 := numL_inj (by omega) (by omega) h1
  have e3 := map_inj_on (fun u hu v hv e => lineT_inj (mx u hu) (my v hv) (gx u hu).2.2 (gy v hv).2.2 e) h4
  obtain ⟨b, r, l⟩ := x
  obtain ⟨b', r', l'⟩ := y
  simp only at e1 e3 h3 a1 b1
  have e2 : r = r' := by rw [eq_bs r, eq_bs r', h3]
  have e1 : b = b' := by omega
  rw [e1, e2, e3]
/-! ### an entry of which no more is looked at than may be -/
def cutA (y : Lin) : Lin := bif decide ((y.1.2.size : Int) > 20) then ((y.1.1, y.1.2.extract 0 20), y.2) else y
theorem cutA_good {l : List Lin} (h : ∀ y ∈ l, (Lit.int .i64 y.1.1).wf = true ∧ Am y.2) : goodL (l.map cutA) := by
  intro z hz
  obtain ⟨y, hy, rfl⟩ := List.mem_map.1 hz
  have hmax : (20 : Nat) ≤ maxLen := by decide
  obtain ⟨h1, h2⟩ := h y hy
  unfold cutA
  by_cases c : (y.1.2.size : Int) > 20
  · rw [decide_eq_true c]
    refine ⟨h1, ?_, h2⟩
    show (y.1.2.extract 0 20).size ≤ maxLen
    rw [ByteArray.size_extract]; omega
  · rw [decide_eq_false c]
    exact ⟨h1, by simp only [cond_false]; omega, h2⟩
theorem few12_rounds {l : List Lin} (hl : l.length ≤ 10) (b : Int) (r : ByteArray) (z : Int × ByteArray × List Lin × List Lin) (hz : z = (0, bs [], [], [])) :
    bursarlaw12_Few.l10 (0, b, r, l, z) = some (l.map cutA, b, r, l, 0, bs [], []) := by
  subst hz
  have h := rounds_map (t := bursarlaw12_Few.t10) l zL cutA (fun acc i => (((i : Nat) : Int), b, r, l, (0 : Int), bs [], acc, ([] : List Lin))) (fun acc => (acc, b, r, l, (0 : Int), bs [], ([] : List Lin))) (fun i hi => by
    have hm : ((l.take i).map cutA).length ≤ 1000 := by simp; omega
    unfold bursarlaw12_Few.t10
    rw [dflt_line]
    simp only [inb hi, cond_true, ge0' i, Bool.and_self, Int.toNat_natCast, wrap_up (show i < 9223372036854775807 by omega), List.length_cons, List.length_nil]
    rw [Nat.ble_eq_true_of_le (by omega), Nat.ble_eq_true_of_le (by omega)]
    unfold cutA
    by_cases c : ((l.getD i zL).1.2.size : Int) > 20
    · rw [decide_eq_true c, decide_eq_true (show (20 : Int) ≤ ((l.getD i zL).1.2.size : Int) by omega)]
      rfl
    · rw [decide_eq_false c]
      rfl) (fun _ _ => by simp only [bursarlaw12_Few.t10, outb, cond_false])
  exact h
theorem few12_is (x : Ent) (hw : ∀ y ∈ x.2.2, (Lit.int .i64 y.1.1).wf = true ∧ Am y.2) : ∃ z, bursarlaw12_Few.f x = some z ∧ goodL z.2.2 ∧ z.2.2.length ≤ 10 ∧ z.1 = x.1 := by
  obtain ⟨b, r, l⟩ := x
  have hw : ∀ y ∈ l, (Lit.int .i64 y.1.1).wf = true ∧ Am y.2 := hw
  have hc : (List.take 10 (List.drop 0 l)).length ≤ 10 := by simp; omega
  have hcw : ∀ y ∈ List.take 10 (List.drop 0 l), (Lit.int .i64 y.1.1).wf = true ∧ Am y.2 := fun y hy => hw y (List.mem_of_mem_drop (List.mem_of_mem_take hy))
  unfold bursarlaw12_Few.f
  by_cases c1 : (l.length : Int) > 10
  · by_cases c2 : (r.size : Int) > 25
    · simp only [decide_eq_true c1, decide_eq_true (show (10 : Int) ≤ (l.length : Int) by omega), decide_eq_true c2, decide_eq_true (show (25 : Int) ≤ (r.size : Int) by omega), Bool.and_self, cond_true, few12_rounds hc _ _ _ rfl, Option.bind_some]
      exact ⟨_, rfl, cutA_good hcw, by rw [List.length_map]; exact hc, rfl⟩
    · simp only [decide_eq_true c1, decide_eq_true (show (10 : Int) ≤ (l.length : Int) by omega), decide_eq_false c2, Bool.and_self, cond_true, cond_false, few12_rounds hc _ _ _ rfl, Option.bind_some]
      exact ⟨_, rfl, cutA_good hcw, by rw [List.length_map]; exact hc, rfl⟩
  · have hl : l.length ≤ 10 := by omega
    by_cases c2 : (r.size : Int) > 25
    · simp only [decide_eq_false c1, decide_eq_true c2, decide_eq_true (show (25 : Int) ≤ (r.size : Int) by omega), Bool.and_self, cond_true, cond_false, few12_rounds hl _ _ _ rfl, Option.bind_some]
      exact ⟨_, rfl, cutA_good hw, by rw [List.length_map]; exact hl, rfl⟩
    · simp only [decide_eq_false c1, decide_eq_false c2, Bool.and_self, cond_true, cond_false, few12_rounds hl _ _ _ rfl, Option.bind_some]
      exact ⟨_, rfl, cutA_good hw, by rw [List.length_map]; exact hl, rfl⟩
/-! ### EntryEven -/
theorem onE_at {l : List Lin} (h : okLines l = true) {i : Nat} (hi : i < l.length) : onE l (l.getD i zL).1 = (l.getD i zL).2 := by
  have hf : l.find? (fun y => decide (y.1 = (l.getD i zL).1)) = some (l.getD i zL) := by
    have hd : l = l.take i ++ (l.getD i zL :: l.drop (i + 1)) := by
      conv => lhs; rw [← List.take_append_drop i l, List.drop_eq_getElem_cons hi]
      rw [getD_at hi]
    have hn : (l.take i).find? (fun y => decide (y.1 = (l.getD i zL).1)) = none := by
      rw [List.find?_eq_none]
      intro y hy
      obtain ⟨j, hj, rfl⟩ := List.getElem_of_mem hy
      have hj' : j < i := by have : j < (l.take i).length := hj; simp at this; omega
      have := (okLines_at h hi).2 j hj'
      rw [getD_at (show j < l.length by omega)] at this
      rw [List.getElem_take]
      simpa using this
    obtain ⟨q, hq⟩ : ∃ q, l.getD i zL = q := ⟨_, rfl⟩
    rw [hq] at hd hn ⊢
    rw [hd, List.find?_append, hn, List.find?_cons, decide_eq_true rfl]
    rfl
  unfold onE
  rw [hf]
theorem even_rounds {l : List Lin} (hl : l.length ≤ 1000) (hok : okLines l = true) (b : Int) (r : ByteArray) : bursarlaw12_EntryEven.l13 (0, b, r, l, []) = some (l.map (·.2)) := by
  have h := rounds_map (t := bursarlaw12_EntryEven.t13) l zL (fun y : Lin => y.2) (fun acc i => (((i : Nat) : Int), b, r, l, acc)) (fun acc => acc) (fun i hi => by
    have hm : ((l.take i).map (fun y : Lin => y.2)).length ≤ 1000 := by simp; omega
    simp only [bursarlaw12_EntryEven.t13, inb hi, cond_true, ge0' i, Bool.and_self, Int.toNat_natCast, dflt_line, on_is (b, r, l) _ hl, onE_at hok hi, Option.bind_some, wrap_up (show i < 9223372036854775807 by omega), List.length_cons, List.length_nil]
    rw [Nat.ble_eq_true_of_le (by omega), Nat.ble_eq_true_of_le (by omega)]
    rfl) (fun _ _ => by simp only [bursarlaw12_EntryEven.t13, outb, cond_false])
  exact h
theorem EntryEven_is (a : Ent × Ent) (hx : ∀ y ∈ a.1.2.2, (Lit.int .i64 y.1.1).wf = true ∧ Am y.2) (hy : ∀ y ∈ a.2.2.2, (Lit.int .i64 y.1.1).wf = true ∧ Am y.2) : bursarlaw12_EntryEven.f a = some true := by
  obtain ⟨x, e1, gx, lx, _⟩ := few12_is a.1 hx
  obtain ⟨y, e2, gy, ly, _⟩ := few12_is a.2 hy
  unfold bursarlaw12_EntryEven.f
  simp only [e1, e2, Option.bind_some, entText_is gx, entText_is gy, texts_eq, texts_nil]
  by_cases hx0 : checkE x = 0
  · obtain ⟨h1, h2, h3, h4, h5, h6, h7, h8⟩ := checkE_ok hx0
    have hsum := ref_Sum_is (l := x.2.2.map (·.2)) (by simp; omega) gx.amounts
    have hr : sumR (x.2.2.map (·.2)).sum = (0, true) := by unfold sumR; rw [h7, h8]; rfl
    have hev := even_rounds (l := x.2.2) (by omega) h6 x.1 x.2.1
    have hz : (checkE x == 0) = true := by rw [hx0]; rfl
    by_cases hy0 : checkE y = 0
    · have hz' : (checkE y == 0) = true := by rw [hy0]; rfl
      have hs := same12_is x y (by omega)
      have hin : decide (bs (textE x) = bs (textE y)) = decide (x = y) := by
        rw [Bool.eq_iff_iff, decide_eq_true_eq, decide_eq_true_eq, bs_inj]
        exact textE_inj hx0 hy0 gx gy
      simp only [hz, hz', cond_true, BEq.rfl, hs, Option.bind_some, hin, Bool.not_true, cond_false, bne_self_eq_false, hev, hsum, hr]
    · have hz' : (checkE y == 0) = false := by simpa using hy0
      simp only [hz, hz', cond_true, cond_false, BEq.rfl, bne_self_eq_false, Option.bind_some, hev, hsum, hr]
  · have hz : (checkE x == 0) = false := by simpa using hx0
    have hz1 : (checkE x != 0) = true := by simpa using hx0
    simp only [hz, hz1, cond_true, cond_false, decide_true]
end Go.Proofs.YtnnebljljmpdkaaDoor
end
section
/- Small laws for walks by hand. By this session. -/
set_option linter.unusedVariables false
namespace Go.Fw
variable {P : Program}
theorem run_append_nothing (w : World) {t ty e : TypeId} {i : TypeInfo} (ht : P.underlying t = some (.slice e)) (hi : P.info? e = some i) (ad ad' : Option Addr) (len cap c : Nat) (hle : len ≤ cap) :
    (Builtin.append_ #[t, t] ty #[.slice ad len cap, .slice ad' 0 c]).run P w = .ok (.slice ad len cap) w := by
  have hlen : ∀ w : World, (Builtin.lenOf (.slice ad' 0 c)).run P w = .ok 0 w := fun w => by simp [Builtin.lenOf]
  have hfirst : ∀ w : World, (Builtin.firstCells i.size 0 (.slice ad' 0 c)).run P w = .ok #[] w := fun w => by cases ad' <;> simp [Builtin.firstCells, loadCells, loadCellsFrom]
  cases ad with
  | none => simp [Builtin.append_, run_underlying ht, sizeOf, typeInfo, hi, hlen, hle, hfirst]
  | some a => exact run_append_room' (P := P) w t t ty e i _ ht ht (.inr ⟨e, rfl⟩) hi a len cap 0 _ #[] hlen (hfirst _) (by omega) (by simp [storeCells])
theorem wpList_append_nothing {ops : Array Oper} {rest : List Oper} {o : Oper} {a : Act} {w : World} {Q : Exit → Act → World → Prop} (hgd : o.guard = none) (s x : Operand) (t e : TypeId) (i : TypeInfo)
    (ho : o.op = .call { callee := .builtin .append, args := #[s, x], argTypes := #[t, t] }) (ht : P.underlying t = some (.slice e)) (hi : P.info? e = some i)
    (ad ad' : Option Addr) (len cap c : Nat) (hs : a.eval s = .slice ad len cap) (hx : a.eval x = .slice ad' 0 c) (hle : len ≤ cap)
    (h : wpList P ops Q rest (a.put o.dst (.slice ad len cap)) w) : wpList P ops Q (o :: rest) a w := by
  refine wpList_plain hgd fun K hK => ?_
  have hr := run_append_nothing (P := P) w (ty := o.type) ht hi ad ad' len cap c hle
  unfold Oper.wp execOp
  simp only [ho, resolve, invoke, builtin, Sem.run_bind, Sem.run_pure, Result.andThen_ok, List.map_toArray, List.map_cons, List.map_nil, hs, hx, hr]
  exact hK _ _ h
end Go.Fw
end
section
/- Copies of lists, where nothing is put behind a copy of nothing: the copy of nothing is plain data. By this session. -/
set_option linter.unusedVariables false
set_option linter.unusedSimpArgs false
namespace Go.Fw
variable {P : Program} {α : Type} {r : α}
def encC0 (T : Ty) : List T.den → D
  | [] => .sl T.w (.t T [])
  | a :: l => .fr T.w (.t T (a :: l))
def splC0 (T : Ty) (x : List T.den) {α : Type} (K : D → Option α) : Option α := match x with
  | [] => K (.sl T.w (.t T []))
  | a :: l => K (.fr T.w (.t T (a :: l)))
def cloneRow0 (g : FuncId) (T : Ty) (F : List T.den → Option (List T.den)) : Row := ⟨g, List T.den, List T.den, decArgs (AsL T), F, encC0 T, fun r _ K => splC0 T r K, fun r _ _ => by cases r <;> rfl⟩
theorem clone_row0 {G : Nat → Option (List D)} {H : HK} (hok : HKOK P H) {g : FuncId} {T : Ty} {F : List T.den → Option (List T.den)} (hG : H.G = G)
    (h1 : ∀ (a : T.den) (l : List T.den), fnK P H (lp []) g (AsL T) (mL T) (a :: l : List T.den) some = F (a :: l : List T.den)) (hF : ∀ l q, F l = some q → q = l)
    (h0 : ∀ (w : World) (ad : Option Addr) (cap : Nat), (ad = none → cap = 0) → Calls P g #[.slice ad 0 cap] w fun e w' => ∃ ad', e = .returned (.slice ad' 0 0) ∧ w.heap.size ≤ w'.heap.size ∧ (∀ b, b < w.heap.size → w'.heap[b]? = w.heap[b]?) ∧ w'.os = w.os ∧ w'.tape = w.tape ∧ w'.output = w.output) (he : Enters P g) : RowOK P G (cloneRow0 g T F) := by
  subst hG
  have key : ∀ (ds : List D) (a q : List T.den), decArgs (AsL T) ds = some a → F a = some q → Enters P g ∧ PCall P H.G g ds (encC0 T q) := by
    intro ds a q ha hq
    have hql := hF a q hq
    subst hql
    have hds := (decArgs_argD ha).symm
    cases q with
    | cons x l =>
      obtain ⟨g1, g2⟩ := fnK_sound (L := lp []) (As := AsL T) (m := mL T) hok (lp_of (l := []) trivial) (a := (x :: l : List T.den)) rfl ((h1 x l).trans hq)
      refine ⟨g1, ?_⟩
      exact g2.coe (by rw [← hds]; exact coeA_len) fun w I f hf => by rw [← hds]; exact coeA_rel hf
    | nil =>
      refine ⟨he, PCall.coe (ds' := argD (AsL T) ([] : List T.den)) ?_ (by rw [← hds]; exact coeA_len) fun w I f hf => by rw [← hds]; exact coeA_rel hf⟩
      intro w I K vs hg hI hK hd hsz hargs
      have hr := hargs 0 (.sl T.w (.t T [])) rfl
      have hs : vs.size = 1 := hsz
      rw [Array.getD_eq_getD_getElem?, Array.getElem?_eq_getElem (by omega)] at hr
      simp only [Option.getD_some] at hr
      obtain ⟨v, hv⟩ : ∃ v, vs[0] = v := ⟨_, rfl⟩
      have hvs : vs = #[v] := by
        refine Array.ext (by simpa using hs) fun i hi hi' => ?_
        match i, hi with
        | 0, _ => exact hv
        | i + 1, hi => omega
      rw [hv] at hr
      obtain ⟨ad, cap, rfl, hc⟩ : ∃ ad cap, v = .slice ad 0 cap ∧ (ad = none → cap = 0) := by
        cases hr with
        | sl _ _ a cap => exact ⟨some a, cap, rfl, fun e => by cases e⟩
        | sl0 _ _ ad cap _ hc => exact ⟨ad, cap, rfl, hc⟩
      rw [hvs]
      refine (h0 w ad cap hc).mono ?_
      rintro e w' ⟨ad', rfl, b1, b2, b3, b4, b5⟩
      refine ⟨_, I, rfl, b1, fun b hb => ⟨hb, b2 b (hI b hb)⟩, fun b hb => b2 b (hK b hb), fun b hb => ⟨Nat.lt_of_lt_of_le (hI b hb) b1, hd b hb⟩, fun b cs e fz hc => ⟨cs, ?_, rfl⟩, b3, b4, b5, ?_⟩
      · rw [b2 b (Array.getElem?_eq_some_iff.1 hc).1]; exact hc
      · exact RelD.sl0 _ _ ad' 0 rfl (fun _ => rfl)
  exact fun ds a q => key ds a q
end Go.Fw
end
section
/- slices.Clone of a list, as a row. By this session. -/
set_option linter.unusedVariables false
set_option maxRecDepth 100000
namespace Go.Proofs.YtnnebljljmpdkaaDoor
open Go Go.Fw Go.RowKit
set_option maxHeartbeats 1000000 in
theorem slices_Clone_api_Line_api_Line.zero (w : World) (ad : Option Addr) (cap : Nat) (hc : ad = none → cap = 0) : Calls Tryd.prog 30 #[.slice ad 0 cap] w fun e w' => ∃ ad', e = .returned (.slice ad' 0 0) ∧ w.heap.size ≤ w'.heap.size ∧ (∀ b, b < w.heap.size → w'.heap[b]? = w.heap[b]?) ∧ w'.os = w.os ∧ w'.tape = w.tape ∧ w'.output = w.output := by
  have q : ∀ (w : World) (a : Option Addr) (n c n' c' : Nat), (binOp .eql 26 (.slice a n c) (.slice none n' c')).run Tryd.prog w = .ok (.bool a.isNone) w := fun w a n c n' c' => Lib.run_eql_slice_nil w _ _ a n c n' c' Tryd.underlying26
  have u : ∀ w, Sem.run Tryd.prog (underlying 26) w = .ok (TypeDesc.slice 37) w := run_underlying Tryd.underlying26
  have hs : (Tryd.prog.info? 37).isSome = true := by kernel_rfl
  obtain ⟨i0, hi⟩ := Option.isSome_iff_exists.1 hs
  cases ad with
  | none =>
    obtain rfl := hc rfl
    go_enter Tryd.func30, Tryd.ntmps30
    go_wp2
    go_ret
    exact ⟨⟨none, rfl⟩, Nat.le_refl _, fun _ _ => rfl, rfl, rfl, rfl⟩
  | some a =>
    go_enter Tryd.func30, Tryd.ntmps30
    go_wp2_with (at_builtin; refine wpList_append_nothing rfl _ _ 26 37 i0 rfl Tryd.underlying26 hi _ (some a) 0 _ cap rfl rfl (Nat.le_refl _) ?_)
    go_ret
    refine ⟨_, rfl, ?_, fun b hb => ?_, rfl, rfl, rfl⟩
    · show w.heap.size ≤ (w.heap.push _).size; simp
    · show (w.heap.push _)[b]? = _
      rw [Array.getElem?_push, if_neg (by omega)]
noncomputable def slices_Clone_api_Line_api_Line.f (l : List (T_api_Line : Ty).den) : Option (List (T_api_Line : Ty).den) := bif (Nat.ble ((0 + l.length) * 32) 140737488355328 && Nat.ble (0 + l.length) 140737488355328) then some l else none
noncomputable abbrev slices_Clone_api_Line_api_Line.H : HK := hk P G0 E0 J0 [] noLoops 4
theorem slices_Clone_api_Line_api_Line.hok : HKOK P slices_Clone_api_Line_api_Line.H := hk_ok e0_ok j0_ok (rows_ok (ws := []) trivial) (fun g n => noLoops_ok g n) 4
theorem slices_Clone_api_Line_api_Line.cons : ∀ (a : (T_api_Line : Ty).den) (l : List (T_api_Line : Ty).den), fnK P slices_Clone_api_Line_api_Line.H (lp []) 30 (AsL T_api_Line) (mL T_api_Line) (a :: l : List (T_api_Line : Ty).den) some = slices_Clone_api_Line_api_Line.f (a :: l) := fun a l => by kernel_rfl
noncomputable abbrev slices_Clone_api_Line_api_Line.row : Row := cloneRow0 30 T_api_Line slices_Clone_api_Line_api_Line.f
theorem slices_Clone_api_Line_api_Line.row_ok : RowOK P G0 slices_Clone_api_Line_api_Line.row := clone_row0 slices_Clone_api_Line_api_Line.hok rfl slices_Clone_api_Line_api_Line.cons (fun l q h => by
    unfold slices_Clone_api_Line_api_Line.f at h
    obtain ⟨_, h⟩ := cond_some h
    injection h with h
    exact h.symm) slices_Clone_api_Line_api_Line.zero ⟨_, Tryd.func30, by kernel_rfl, by kernel_rfl⟩
end Go.Proofs.YtnnebljljmpdkaaDoor
end
section
/- The Go function entry.Back, as a Lean function, and that it is this one. Written by a program of this session. -/
set_option linter.unusedVariables false
set_option maxRecDepth 100000
namespace Go.Proofs.YtnnebljljmpdkaaDoor
open Go Go.Fw
abbrev entry_Back.As : Shs := (.cons (.x T_api_Entry) .nil)
abbrev entry_Back.m : Back := [(false, T_api_Entry), (false, (.i .i64))]
noncomputable abbrev entry_Back.H : HK := hk P G0 E0 J0 [entry_Check.row, money_Sub.row, slices_Clone_api_Line_api_Line.row] noLoops 4
theorem entry_Back.rows : TabOK P G0 (tabF [entry_Check.row, money_Sub.row, slices_Clone_api_Line_api_Line.row]) := rows_ok (ws := [entry_Check.row, money_Sub.row, slices_Clone_api_Line_api_Line.row]) ⟨entry_Check.row_ok, ⟨money_Sub.row_ok, ⟨slices_Clone_api_Line_api_Line.row_ok, trivial⟩⟩⟩
theorem entry_Back.hok : HKOK P entry_Back.H := hk_ok e0_ok j0_ok entry_Back.rows (fun g n => noLoops_ok g n) 4
noncomputable abbrev entry_Back.sh8 : SSh := ⟨[(1, (.pt 0 0)), (2, (.pt 1 0)), (20, (.x (.l (.g (.p (.g (.p (.i .i64) .s)) (.i .i64)))))), (21, (.x (.i .i64))), (22, (.x (.i .i64)))], [.box (.cons (.x (.i .i64)) (.cons (.x .s) (.cons (.x (.l (.g (.p (.g (.p (.i .i64) .s)) (.i .i64))))) .nil))), .box (.cons (.x (.i .i64)) (.cons (.x .s) (.cons (.own 2 3) .nil))), .arrN T_api_Line]⟩
noncomputable abbrev entry_Back.os8 : PEnds := [(.ret, ⟨[(2, (.pt 0 0)), (3, (.x (.i .i64)))], [.box (.cons (.x (.i .i64)) (.cons (.x .s) (.cons (.own 1 3) .nil))), .arrN T_api_Line]⟩), ((.exit 0), ⟨[(1, (.pt 0 0)), (2, (.pt 1 0))], [.box (.cons (.x (.i .i64)) (.cons (.x .s) (.cons (.x (.l (.g (.p (.g (.p (.i .i64) .s)) (.i .i64))))) .nil))), .box (.cons (.x (.i .i64)) (.cons (.x .s) (.cons (.own 2 3) .nil))), .arrN T_api_Line]⟩)]
noncomputable def entry_Back.t8 (s : ((List ((Int × ByteArray) × Int)) × (Int × (Int × (Int × (ByteArray × ((List ((Int × ByteArray) × Int)) × (Int × (ByteArray × (List ((Int × ByteArray) × Int))))))))))) : Option (((List ((Int × ByteArray) × Int)) × (Int × (Int × (Int × (ByteArray × ((List ((Int × ByteArray) × Int)) × (Int × (ByteArray × (List ((Int × ByteArray) × Int)))))))))) ⊕ ((Int × (Int × (ByteArray × (List ((Int × ByteArray) × Int))))) ⊕ (Int × (ByteArray × ((List ((Int × ByteArray) × Int)) × (Int × (ByteArray × (List ((Int × ByteArray) × Int))))))))) := (bif (decide ((s.2.2.1 < s.2.1))) then (bif ((decide (((0 : Int) ≤ s.2.2.1))) && (decide ((s.2.2.1 < ((List.length s.1) : Int))))) then (((money_Sub.f ((0 : Int), (List.getD s.1 (Int.toNat s.2.2.1) (Ty.dflt T_api_Line)).2))).bind fun (x10 : (Int × Int)) => (bif (x10.2 != (0 : Int)) then (some (.inr (.inl (x10.2, ((0 : Int), ((bs []), [])))))) else (bif ((decide (((0 : Int) ≤ s.2.2.1))) && (decide ((s.2.2.1 < ((List.length s.2.2.2.2.2.1) : Int))))) then none else none))) else none) else (some (.inr (.inr s.2.2.2))))
theorem entry_Back.t8_ok : ∀ s : Vals entry_Back.sh8.tys, turnK P entry_Back.H (lp []) (bodyAt (codeOf P 17) 8) 0 entry_Back.sh8 entry_Back.os8 s some = entry_Back.t8 s := by rintro ⟨s0, s1, s2, s3, s4, s5, s6, s7, s8⟩; cases s8 <;> kernel_rfl
noncomputable def entry_Back.l8 : ((List ((Int × ByteArray) × Int)) × (Int × (Int × (Int × (ByteArray × ((List ((Int × ByteArray) × Int)) × (Int × (ByteArray × (List ((Int × ByteArray) × Int)))))))))) → Option ((Int × (Int × (ByteArray × (List ((Int × ByteArray) × Int))))) ⊕ (Int × (ByteArray × ((List ((Int × ByteArray) × Int)) × (Int × (ByteArray × (List ((Int × ByteArray) × Int)))))))) := rounds entry_Back.t8
noncomputable abbrev entry_Back.sh8b : SSh := ⟨[(1, (.pt 0 0)), (2, (.pt 1 0)), (20, (.own 2 3)), (21, (.x (.i .i64))), (22, (.x (.i .i64)))], [.box (.cons (.x (.i .i64)) (.cons (.x .s) (.cons (.own 2 3) .nil))), .box (.cons (.x (.i .i64)) (.cons (.x .s) (.cons (.own 3 3) .nil))), .arr T_api_Line, .arrN T_api_Line]⟩
noncomputable abbrev entry_Back.os8b : PEnds := [(.ret, ⟨[(2, (.pt 0 0)), (3, (.x (.i .i64)))], [.box (.cons (.x (.i .i64)) (.cons (.x .s) (.cons (.own 1 3) .nil))), .arrN T_api_Line]⟩), ((.exit 0), ⟨[(1, (.pt 0 0)), (2, (.pt 1 0))], [.box (.cons (.x (.i .i64)) (.cons (.x .s) (.cons (.own 2 3) .nil))), .box (.cons (.x (.i .i64)) (.cons (.x .s) (.cons (.own 3 3) .nil))), .arr T_api_Line, .arrN T_api_Line]⟩)]
noncomputable def entry_Back.t8b (s : (Int × (Int × (Int × (ByteArray × (Int × (ByteArray × ((List ((Int × ByteArray) × Int)) × (List ((Int × ByteArray) × Int)))))))))) : Option ((Int × (Int × (Int × (ByteArray × (Int × (ByteArray × ((List ((Int × ByteArray) × Int)) × (List ((Int × ByteArray) × Int))))))))) ⊕ ((Int × (Int × (ByteArray × (List ((Int × ByteArray) × Int))))) ⊕ (Int × (ByteArray × (Int × (ByteArray × ((List ((Int × ByteArray) × Int)) × (List ((Int × ByteArray) × Int))))))))) := (bif (decide ((s.2.1 < s.1))) then (bif ((decide (((0 : Int) ≤ s.2.1))) && (decide ((s.2.1 < ((List.length s.2.2.2.2.2.2.1) : Int))))) then (bif (true && (Nat.blt (0 + (Int.toNat s.2.1)) (List.length s.2.2.2.2.2.2.1))) then (((money_Sub.f ((0 : Int), (List.getD s.2.2.2.2.2.2.1 (0 + (Int.toNat s.2.1)) (Ty.dflt T_api_Line)).2))).bind fun (x9 : (Int × Int)) => (bif (x9.2 != (0 : Int)) then (some (.inr (.inl (x9.2, ((0 : Int), ((bs []), [])))))) else (bif ((decide (((0 : Int) ≤ s.2.1))) && (decide ((s.2.1 < ((List.length s.2.2.2.2.2.2.1) : Int))))) then (bif (true && (Nat.blt (0 + (Int.toNat s.2.1)) (List.length s.2.2.2.2.2.2.1))) then (some (.inl (s.1, ((IntKind.wrap .i64 (s.2.1 + (1 : Int))), (s.2.2.1, (s.2.2.2.1, (s.2.2.2.2.1, (s.2.2.2.2.2.1, ((List.set s.2.2.2.2.2.2.1 (0 + (Int.toNat s.2.1)) ((List.getD s.2.2.2.2.2.2.1 (0 + (Int.toNat s.2.1)) (Ty.dflt T_api_Line)).1, x9.1)), s.2.2.2.2.2.2.2))))))))) else none) else none))) else none) else none) else (some (.inr (.inr s.2.2))))
theorem entry_Back.t8b_ok : ∀ s : Vals entry_Back.sh8b.tys, turnK P entry_Back.H (lp []) (bodyAt (codeOf P 17) 8) 0 entry_Back.sh8b entry_Back.os8b s some = entry_Back.t8b s := by rintro ⟨s0, s1, s2, s3, s4, s5, s6, s7⟩; cases s7 <;> kernel_rfl
noncomputable def entry_Back.l8b : (Int × (Int × (Int × (ByteArray × (Int × (ByteArray × ((List ((Int × ByteArray) × Int)) × (List ((Int × ByteArray) × Int))))))))) → Option ((Int × (Int × (ByteArray × (List ((Int × ByteArray) × Int))))) ⊕ (Int × (ByteArray × (Int × (ByteArray × ((List ((Int × ByteArray) × Int)) × (List ((Int × ByteArray) × Int)))))))) := rounds entry_Back.t8b
noncomputable def entry_Back.f (a : (Int × (ByteArray × (List ((Int × ByteArray) × Int))))) : Option ((Int × (ByteArray × (List ((Int × ByteArray) × Int)))) × Int) := (((entry_Check.f a)).bind fun (x1 : Int) => (bif (x1 != (0 : Int)) then (some (((0 : Int), ((bs []), [])), x1)) else (((slices_Clone_api_Line_api_Line.f a.2.2)).bind fun (x2 : (List ((Int × ByteArray) × Int))) => (match x2 with | [] => (((entry_Back.l8 ([], ((0 : Int), ((0 : Int), (a.1, (a.2.1, ([], ((0 : Int), ((bs []), [])))))))))).bind fun (x3 : ((Int × (Int × (ByteArray × (List ((Int × ByteArray) × Int))))) ⊕ (Int × (ByteArray × ((List ((Int × ByteArray) × Int)) × (Int × (ByteArray × (List ((Int × ByteArray) × Int))))))))) => (match x3 with | .inl x4 => (match x4.2.2.2 with | [] => (some ((x4.2.1, (x4.2.2.1, [])), x4.1)) | x5 :: x6 => (some ((x4.2.1, (x4.2.2.1, (x5 :: x6))), x4.1))) | .inr x4 => (match x4.2.2.2.2.2 with | [] => (some ((x4.1, (x4.2.1, x4.2.2.1)), (0 : Int))) | x5 :: x6 => (some ((x4.1, (x4.2.1, x4.2.2.1)), (0 : Int)))))) | x3 :: x4 => (((entry_Back.l8b (((List.length (x3 :: x4)) : Int), ((0 : Int), (a.1, (a.2.1, ((0 : Int), ((bs []), ((x3 :: x4), []))))))))).bind fun (x5 : ((Int × (Int × (ByteArray × (List ((Int × ByteArray) × Int))))) ⊕ (Int × (ByteArray × (Int × (ByteArray × ((List ((Int × ByteArray) × Int)) × (List ((Int × ByteArray) × Int))))))))) => (match x5 with | .inl x6 => (match x6.2.2.2 with | [] => (some ((x6.2.1, (x6.2.2.1, [])), x6.1)) | x7 :: x8 => (some ((x6.2.1, (x6.2.2.1, (x7 :: x8))), x6.1))) | .inr x6 => (match x6.2.2.2.2.2 with | [] => (some ((x6.1, (x6.2.1, x6.2.2.2.2.1)), (0 : Int))) | x7 :: x8 => (some ((x6.1, (x6.2.1, x6.2.2.2.2.1)), (0 : Int))))))))))
theorem entry_Back.ok : ∀ a : Vals entry_Back.As.tys, fnK P entry_Back.H (lp [(8, (orS 0 entry_Back.sh8 (NodeT.summ ⟨entry_Back.sh8, entry_Back.os8, entry_Back.l8⟩ 0) (NodeT.summ ⟨entry_Back.sh8b, entry_Back.os8b, entry_Back.l8b⟩ 0)))]) 17 entry_Back.As entry_Back.m a some = entry_Back.f a := fun a => by kernel_rfl
noncomputable abbrev entry_Back.row : Row := fnRow 17 entry_Back.As entry_Back.m entry_Back.f
theorem entry_Back.row_ok : RowOK P G0 entry_Back.row := row_told entry_Back.hok (lp_of (l := [(8, (orS 0 entry_Back.sh8 (NodeT.summ ⟨entry_Back.sh8, entry_Back.os8, entry_Back.l8⟩ 0) (NodeT.summ ⟨entry_Back.sh8b, entry_Back.os8b, entry_Back.l8b⟩ 0)))]) ⟨(or_sum (loop_sum entry_Back.hok (by kernel_rfl) (by kernel_rfl) (l := []) trivial entry_Back.sh8 entry_Back.os8 (by kernel_rfl) entry_Back.t8 entry_Back.t8_ok) (loop_sum entry_Back.hok (by kernel_rfl) (by kernel_rfl) (l := []) trivial entry_Back.sh8b entry_Back.os8b (by kernel_rfl) entry_Back.t8b entry_Back.t8b_ok)), trivial⟩) (fun _ => rfl) entry_Back.ok
end Go.Proofs.YtnnebljljmpdkaaDoor
end
section
/- The Go function bursarlaw12.EntryBack, as a Lean function, and that it is this one. Written by a program of this session. -/
set_option linter.unusedVariables false
set_option maxRecDepth 100000
namespace Go.Proofs.YtnnebljljmpdkaaDoor
open Go Go.Fw
abbrev bursarlaw12_EntryBack.As : Shs := (.cons (.x T_api_Entry) .nil)
abbrev bursarlaw12_EntryBack.m : Back := [(false, .b)]
noncomputable abbrev bursarlaw12_EntryBack.H : HK := hk P G0 E0 J0 [bursarlaw12_none.row, bursarlaw12_awake.row, bursarref12_Same.row, entry_On.row, bursarlaw12_Few.row, entry_Back.row, entry_Check.row] noLoops 4
theorem bursarlaw12_EntryBack.rows : TabOK P G0 (tabF [bursarlaw12_none.row, bursarlaw12_awake.row, bursarref12_Same.row, entry_On.row, bursarlaw12_Few.row, entry_Back.row, entry_Check.row]) := rows_ok (ws := [bursarlaw12_none.row, bursarlaw12_awake.row, bursarref12_Same.row, entry_On.row, bursarlaw12_Few.row, entry_Back.row, entry_Check.row]) ⟨bursarlaw12_none.row_ok, ⟨bursarlaw12_awake.row_ok, ⟨bursarref12_Same.row_ok, ⟨entry_On.row_ok, ⟨bursarlaw12_Few.row_ok, ⟨entry_Back.row_ok, ⟨entry_Check.row_ok, trivial⟩⟩⟩⟩⟩⟩⟩
theorem bursarlaw12_EntryBack.hok : HKOK P bursarlaw12_EntryBack.H := hk_ok e0_ok j0_ok bursarlaw12_EntryBack.rows (fun g n => noLoops_ok g n) 4
noncomputable abbrev bursarlaw12_EntryBack.sh14 : SSh := ⟨[(1, (.pt 0 0)), (4, (.pt 1 0)), (5, (.x (.i .i64))), (7, (.x .b)), (8, (.x (.i .i64)))], [.box (.cons (.x (.i .i64)) (.cons (.x .s) (.cons (.x (.l (.g (.p (.g (.p (.i .i64) .s)) (.i .i64))))) .nil))), .box (.cons (.x (.i .i64)) (.cons (.x .s) (.cons (.x (.l (.g (.p (.g (.p (.i .i64) .s)) (.i .i64))))) .nil)))]⟩
noncomputable abbrev bursarlaw12_EntryBack.os14 : PEnds := [((.exit 0), ⟨[(1, (.pt 0 0)), (4, (.pt 1 0)), (5, (.x (.i .i64))), (7, (.x .b))], [.box (.cons (.x (.i .i64)) (.cons (.x .s) (.cons (.x (.l (.g (.p (.g (.p (.i .i64) .s)) (.i .i64))))) .nil))), .box (.cons (.x (.i .i64)) (.cons (.x .s) (.cons (.x (.l (.g (.p (.g (.p (.i .i64) .s)) (.i .i64))))) .nil)))]⟩)]
noncomputable def bursarlaw12_EntryBack.t14 (s : (Int × (Bool × (Int × (Int × (ByteArray × ((List ((Int × ByteArray) × Int)) × (Int × (ByteArray × (List ((Int × ByteArray) × Int))))))))))) : Option ((Int × (Bool × (Int × (Int × (ByteArray × ((List ((Int × ByteArray) × Int)) × (Int × (ByteArray × (List ((Int × ByteArray) × Int)))))))))) ⊕ ((Int × (Bool × (Int × (ByteArray × ((List ((Int × ByteArray) × Int)) × (Int × (ByteArray × (List ((Int × ByteArray) × Int))))))))))) := (bif (decide ((s.2.2.1 < ((List.length s.2.2.2.2.2.1) : Int)))) then (bif s.2.1 then (some (.inl (s.1, (true, ((IntKind.wrap .i64 (s.2.2.1 + (1 : Int))), s.2.2.2))))) else (bif ((decide (((0 : Int) ≤ s.2.2.1))) && (decide ((s.2.2.1 < ((List.length s.2.2.2.2.2.1) : Int))))) then (some (.inl (s.1, (((List.getD s.2.2.2.2.2.1 (Int.toNat s.2.2.1) (Ty.dflt T_api_Line)).2 == (-9223372036854775808 : Int)), ((IntKind.wrap .i64 (s.2.2.1 + (1 : Int))), s.2.2.2))))) else none)) else (some (.inr (s.1, (s.2.1, s.2.2.2)))))
theorem bursarlaw12_EntryBack.t14_ok : ∀ s : Vals bursarlaw12_EntryBack.sh14.tys, turnK P bursarlaw12_EntryBack.H (lp []) (bodyAt (codeOf P 5) 14) 0 bursarlaw12_EntryBack.sh14 bursarlaw12_EntryBack.os14 s some = bursarlaw12_EntryBack.t14 s := fun s => by kernel_rfl
noncomputable def bursarlaw12_EntryBack.l14 : (Int × (Bool × (Int × (Int × (ByteArray × ((List ((Int × ByteArray) × Int)) × (Int × (ByteArray × (List ((Int × ByteArray) × Int)))))))))) → Option ((Int × (Bool × (Int × (ByteArray × ((List ((Int × ByteArray) × Int)) × (Int × (ByteArray × (List ((Int × ByteArray) × Int)))))))))) := rounds bursarlaw12_EntryBack.t14
noncomputable abbrev bursarlaw12_EntryBack.sh23 : SSh := ⟨[(1, (.pt 0 0)), (4, (.pt 1 0)), (9, (.x (.i .i64)))], [.box (.cons (.x (.i .i64)) (.cons (.x .s) (.cons (.x (.l (.g (.p (.g (.p (.i .i64) .s)) (.i .i64))))) .nil))), .box (.cons (.x (.i .i64)) (.cons (.x .s) (.cons (.x (.l (.g (.p (.g (.p (.i .i64) .s)) (.i .i64))))) .nil)))]⟩
noncomputable abbrev bursarlaw12_EntryBack.os23 : PEnds := [(.ret, ⟨[(2, (.x .b))], []⟩), ((.exit 2), ⟨[(1, (.pt 0 0)), (4, (.pt 1 0))], [.box (.cons (.x (.i .i64)) (.cons (.x .s) (.cons (.x (.l (.g (.p (.g (.p (.i .i64) .s)) (.i .i64))))) .nil))), .box (.cons (.x (.i .i64)) (.cons (.x .s) (.cons (.x (.l (.g (.p (.g (.p (.i .i64) .s)) (.i .i64))))) .nil)))]⟩)]
noncomputable def bursarlaw12_EntryBack.t23 (s : (Int × (Int × (ByteArray × ((List ((Int × ByteArray) × Int)) × (Int × (ByteArray × (List ((Int × ByteArray) × Int))))))))) : Option ((Int × (Int × (ByteArray × ((List ((Int × ByteArray) × Int)) × (Int × (ByteArray × (List ((Int × ByteArray) × Int)))))))) ⊕ (Bool ⊕ (Int × (ByteArray × ((List ((Int × ByteArray) × Int)) × (Int × (ByteArray × (List ((Int × ByteArray) × Int))))))))) := (bif (decide ((s.1 < ((List.length s.2.2.2.1) : Int)))) then (bif ((decide (((0 : Int) ≤ s.1))) && (decide ((s.1 < ((List.length s.2.2.2.1) : Int))))) then (((entry_On.f (s.2.2.2.2, (List.getD s.2.2.2.1 (Int.toNat s.1) (Ty.dflt T_api_Line)).1))).bind fun (x7 : Int) => (bif ((decide (((0 : Int) ≤ s.1))) && (decide ((s.1 < ((List.length s.2.2.2.1) : Int))))) then (((entry_On.f ((s.2.1, (s.2.2.1, s.2.2.2.1)), (List.getD s.2.2.2.1 (Int.toNat s.1) (Ty.dflt T_api_Line)).1))).bind fun (x8 : Int) => (bif (x7 != (IntKind.wrap .i64 ((0 : Int) - x8))) then (some (.inr (.inl false))) else (some (.inl ((IntKind.wrap .i64 (s.1 + (1 : Int))), s.2))))) else none)) else none) else (some (.inr (.inr s.2))))
theorem bursarlaw12_EntryBack.t23_ok : ∀ s : Vals bursarlaw12_EntryBack.sh23.tys, turnK P bursarlaw12_EntryBack.H (lp []) (bodyAt (codeOf P 5) 23) 0 bursarlaw12_EntryBack.sh23 bursarlaw12_EntryBack.os23 s some = bursarlaw12_EntryBack.t23 s := fun s => by kernel_rfl
noncomputable def bursarlaw12_EntryBack.l23 : (Int × (Int × (ByteArray × ((List ((Int × ByteArray) × Int)) × (Int × (ByteArray × (List ((Int × ByteArray) × Int)))))))) → Option (Bool ⊕ (Int × (ByteArray × ((List ((Int × ByteArray) × Int)) × (Int × (ByteArray × (List ((Int × ByteArray) × Int)))))))) := rounds bursarlaw12_EntryBack.t23
noncomputable def bursarlaw12_EntryBack.f (a : (Int × (ByteArray × (List ((Int × ByteArray) × Int))))) : Option Bool := (((bursarlaw12_Few.f a)).bind fun (x1 : (Int × (ByteArray × (List ((Int × ByteArray) × Int))))) => (((bursarlaw12_Few.f x1)).bind fun (x2 : (Int × (ByteArray × (List ((Int × ByteArray) × Int))))) => (((entry_Back.f x1)).bind fun (x3 : ((Int × (ByteArray × (List ((Int × ByteArray) × Int)))) × Int)) => (((bursarref12_Same.f (x1, x2))).bind fun (x4 : Bool) => (bif (!x4) then (some false) else (((entry_Check.f x1)).bind fun (x5 : Int) => (bif (x5 != (0 : Int)) then (((bursarlaw12_none.f x3.1)).bind fun (x6 : Bool) => (bif x6 then (bif (x3.2 == x5) then (some true) else (some false)) else (some false))) else (((bursarlaw12_EntryBack.l14 (x3.2, (false, ((0 : Int), (x1.1, (x1.2.1, (x1.2.2, x3.1)))))))).bind fun (x6 : (Int × (Bool × (Int × (ByteArray × ((List ((Int × ByteArray) × Int)) × (Int × (ByteArray × (List ((Int × ByteArray) × Int)))))))))) => (bif x6.2.1 then (((bursarlaw12_none.f x6.2.2.2.2.2)).bind fun (x7 : Bool) => (bif x7 then (bif (x6.1 == (2 : Int)) then (some true) else (some false)) else (some false))) else (bif (x6.1 != (0 : Int)) then (some false) else (((entry_Check.f x6.2.2.2.2.2)).bind fun (x7 : Int) => (bif (x7 != (0 : Int)) then (some false) else (((bursarlaw12_EntryBack.l23 ((0 : Int), x6.2.2))).bind fun (x8 : (Bool ⊕ (Int × (ByteArray × ((List ((Int × ByteArray) × Int)) × (Int × (ByteArray × (List ((Int × ByteArray) × Int))))))))) => (match x8 with | .inl x9 => (some x9) | .inr x9 => (((entry_Back.f x9.2.2.2)).bind fun (x10 : ((Int × (ByteArray × (List ((Int × ByteArray) × Int)))) × Int)) => (((bursarref12_Same.f (x10.1, (x9.1, (x9.2.1, x9.2.2.1))))).bind fun (x11 : Bool) => (bif x11 then (bif (x10.2 == (0 : Int)) then (some true) else (some false)) else (some false))))))))))))))))))
theorem bursarlaw12_EntryBack.ok : ∀ a : Vals bursarlaw12_EntryBack.As.tys, fnK P bursarlaw12_EntryBack.H (lp [(14, (NodeT.summ ⟨bursarlaw12_EntryBack.sh14, bursarlaw12_EntryBack.os14, bursarlaw12_EntryBack.l14⟩ 0)), (23, (NodeT.summ ⟨bursarlaw12_EntryBack.sh23, bursarlaw12_EntryBack.os23, bursarlaw12_EntryBack.l23⟩ 0))]) 5 bursarlaw12_EntryBack.As bursarlaw12_EntryBack.m a some = bursarlaw12_EntryBack.f a := fun a => by kernel_rfl
noncomputable abbrev bursarlaw12_EntryBack.row : Row := fnRow 5 bursarlaw12_EntryBack.As bursarlaw12_EntryBack.m bursarlaw12_EntryBack.f
theorem bursarlaw12_EntryBack.row_ok : RowOK P G0 bursarlaw12_EntryBack.row := row_told bursarlaw12_EntryBack.hok (lp_of (l := [(14, (NodeT.summ ⟨bursarlaw12_EntryBack.sh14, bursarlaw12_EntryBack.os14, bursarlaw12_EntryBack.l14⟩ 0)), (23, (NodeT.summ ⟨bursarlaw12_EntryBack.sh23, bursarlaw12_EntryBack.os23, bursarlaw12_EntryBack.l23⟩ 0))]) ⟨(loop_sum bursarlaw12_EntryBack.hok (by kernel_rfl) (by kernel_rfl) (l := []) trivial bursarlaw12_EntryBack.sh14 bursarlaw12_EntryBack.os14 (by kernel_rfl) bursarlaw12_EntryBack.t14 bursarlaw12_EntryBack.t14_ok), ⟨(loop_sum bursarlaw12_EntryBack.hok (by kernel_rfl) (by kernel_rfl) (l := []) trivial bursarlaw12_EntryBack.sh23 bursarlaw12_EntryBack.os23 (by kernel_rfl) bursarlaw12_EntryBack.t23 bursarlaw12_EntryBack.t23_ok), trivial⟩⟩) (fun _ => rfl) bursarlaw12_EntryBack.ok
end Go.Proofs.YtnnebljljmpdkaaDoor
end
section
/- Entries the other way round; EntryBack. By this session. -/
set_option linter.unusedVariables false
set_option linter.unusedSimpArgs false
namespace Go.Proofs.YtnnebljljmpdkaaDoor
open Go Go.Fw
def negA (y : Lin) : Lin := (y.1, -y.2)
abbrev negL (l : List Lin) : List Lin := l.map negA
abbrev leastB (y : Lin) : Bool := y.2 == -9223372036854775808
theorem negA_zL : negA zL = zL := rfl
theorem negL_getD (l : List Lin) (i : Nat) : (negL l).getD i zL = negA (l.getD i zL) := by
  by_cases h : i < l.length
  · rw [getD_at h, getD_at (by simpa using h), List.getElem_map]
  · rw [List.getD_eq_getElem?_getD, List.getD_eq_getElem?_getD, List.getElem?_eq_none (by simpa using h), List.getElem?_eq_none (by omega)]
    rfl
theorem neg_am {n : Int} (h : Am n) (h' : (n == -9223372036854775808) = false) : Am (0 - n) := by
  have : n ≠ -9223372036854775808 := by simpa using h'
  obtain ⟨h1, h2⟩ := h
  unfold Am
  omega
theorem neg_am' {n : Int} (h' : (n == -9223372036854775808) = true) : ¬ Am (0 - n) := by
  have : n = -9223372036854775808 := by simpa using h'
  subst this
  unfold Am
  omega
theorem back_rounds {l : List Lin} (hl : l.length ≤ 1000) (hg : goodL l) (b : Int) (r : ByteArray) :
    entry_Back.l8b ((l.length : Int), 0, b, r, 0, bs [], l, []) = some (bif l.any leastB then .inl (2, 0, bs [], []) else .inr (b, r, 0, bs [], negL l, [])) := by
  have hlen : ∀ i, i ≤ l.length → (negL (l.take i) ++ l.drop i).length = l.length := fun i hi => by simp; omega
  have hget : ∀ i, i < l.length → (negL (l.take i) ++ l.drop i).getD i zL = l.getD i zL := fun i hi => by
    have hn : (negL (l.take i)).length = i := by simp; omega
    rw [List.getD_eq_getElem?_getD, List.getElem?_append_right (by omega), hn, List.getElem?_drop, ← List.getD_eq_getElem?_getD]
    simp
  have hset : ∀ i, i < l.length → (negL (l.take i) ++ l.drop i).set i (negA (l.getD i zL)) = negL (l.take (i + 1)) ++ l.drop (i + 1) := fun i hi => by
    have hn : (negL (l.take i)).length = i := by simp; omega
    rw [List.set_append_right _ _ (by omega), hn, Nat.sub_self, List.drop_eq_getElem_cons hi, List.set_cons_zero, take_up zL hi]
    unfold negL
    rw [List.map_append, List.append_assoc]
    rfl
  have hf := rounds_first (t := entry_Back.t8b) (fun i => ((l.length : Int), ((i : Nat) : Int), b, r, 0, bs [], negL (l.take i) ++ l.drop i, ([] : List Lin))) (fun i => bif !leastB (l.getD i zL) then none else some (.inl ((2 : Int), (0 : Int), bs [], ([] : List Lin)))) (.inr (b, r, 0, bs [], negL l, ([] : List Lin))) l.length (fun i hi _ => by
    have hb : Nat.blt i l.length = true := by rw [Nat.blt_eq]; exact hi
    have hA : Am (l.getD i zL).2 := by rw [getD_at hi]; exact (hg _ (List.getElem_mem hi)).2.2
    have hsub := money_Sub_is (a := 0) (b := (l.getD i zL).2) (by unfold Am; omega) hA
    simp only [entry_Back.t8b, dflt_line, hlen i (by omega), inb hi, cond_true, ge0' i, Bool.and_self, Int.toNat_natCast, Nat.zero_add, hb, hget i hi, hsub, Option.bind_some, wrap_up (show i < 9223372036854775807 by omega)]
    cases hle : leastB (l.getD i zL)
    · rw [sumS_of (neg_am hA hle)]
      have hs := hset i hi
      have e : ((l.getD i zL).1, (0 : Int) - (l.getD i zL).2) = negA (l.getD i zL) := by unfold negA; rw [Int.zero_sub]
      simp only [bne_self_eq_false, cond_false, e, hs]
      rfl
    · rw [sumS_not (neg_am' hle)]
      rfl) (fun _ => by simp only [entry_Back.t8b, outb, cond_false, List.take_length, List.drop_length, List.append_nil])
  have hf' : entry_Back.l8b ((l.length : Int), 0, b, r, 0, bs [], l, []) = _ := hf
  rw [hf']
  have hall : (List.range l.length).all (fun i => !leastB (l.getD i zL)) = !l.any leastB := by
    rw [range_all (fun y => !leastB y) zL l, List.all_eq_not_any_not]
    simp only [Bool.not_not]
  rcases find_not (n := l.length) (p := fun i => !leastB (l.getD i zL)) (g := fun i => Sum.inl (β := Int × ByteArray × Int × ByteArray × List Lin × List Lin) ((2 : Int), (0 : Int), bs [], ([] : List Lin))) with ⟨i, _, h1, h2⟩ | ⟨h1, h2⟩
  · rw [h1]
    rw [hall] at h2
    rw [show l.any leastB = true by simpa using h2]
    rfl
  · rw [h1]
    rw [hall] at h2
    rw [show l.any leastB = false by simpa using h2]
    rfl
def backE (x : Ent) : Ent × Int := bif checkE x == 0 then (bif x.2.2.any leastB then ((0, bs [], []), 2) else ((x.1, x.2.1, negL x.2.2), 0)) else ((0, bs [], []), checkE x)
theorem back_is {x : Ent} (hg : goodL x.2.2) : entry_Back.f x = some (backE x) := by
  unfold entry_Back.f backE
  rw [check_is hg, Option.bind_some, bne]
  by_cases h0 : checkE x = 0
  · obtain ⟨_, _, _, h4, h5, _, _, _⟩ := checkE_ok h0
    rw [h0]
    obtain ⟨b, r, l⟩ := x
    simp only at h4 h5
    have hg : goodL l := hg
    have hc : slices_Clone_api_Line_api_Line.f l = some l := by
      unfold slices_Clone_api_Line_api_Line.f
      rw [Nat.ble_eq_true_of_le (by omega), Nat.ble_eq_true_of_le (by omega)]; rfl
    simp only [BEq.rfl, Bool.not_true, cond_false, cond_true, hc, Option.bind_some]
    have hr := back_rounds (l := l) (by omega) hg b r
    cases l with
    | nil => simp at h4
    | cons y z =>
      simp only [hr, Option.bind_some]
      cases (y :: z).any leastB <;> rfl
  · have e : (checkE x == 0) = false := by simpa using h0
    rw [e]
    rfl
theorem good_neg {l : List Lin} (hg : goodL l) (hl : l.any leastB = false) : goodL (negL l) := by
  intro y hy
  obtain ⟨z, hz, rfl⟩ := List.mem_map.1 hy
  obtain ⟨h1, h2, h3⟩ := hg z hz
  refine ⟨h1, h2, ?_⟩
  have hn : leastB z = false := by
    rw [List.any_eq_false] at hl
    simpa using hl z hz
  have := neg_am h3 hn
  show Am (-z.2)
  rwa [Int.zero_sub] at this
theorem least_neg {l : List Lin} (hg : goodL l) : (negL l).any leastB = false := by
  rw [List.any_eq_false]
  intro y hy
  obtain ⟨z, hz, rfl⟩ := List.mem_map.1 hy
  obtain ⟨h1, h2⟩ := (hg z hz).2.2
  simp only [leastB, negA, beq_iff_eq]
  omega
theorem neg_neg (l : List Lin) : negL (negL l) = l := by
  unfold negL
  rw [List.map_map]
  conv => rhs; rw [← List.map_id l]
  refine List.map_congr_left fun y _ => ?_
  obtain ⟨a, n⟩ := y
  simp [negA]
theorem okLine_neg (l : List Lin) (i : Nat) : okLine (negL l) i = okLine l i := by
  unfold okLine
  simp only [negL_getD]
  have e : ((negA (l.getD i zL)).2 == 0) = ((l.getD i zL).2 == 0) := by
    rw [Bool.eq_iff_iff]
    simp only [negA, beq_iff_eq]
    omega
  rw [e]
  rfl
theorem sum_neg : ∀ l : List Lin, ((negL l).map (·.2)).sum = -(l.map (·.2)).sum
  | [] => rfl
  | y :: l => by
    have := sum_neg l
    simp only [negL, List.map_cons, List.sum_cons] at this ⊢
    rw [this]
    simp only [negA]
    omega
theorem check_neg {x : Ent} (h : checkE x = 0) : checkE (x.1, x.2.1, negL x.2.2) = 0 := by
  obtain ⟨h1, h2, h3, h4, h5, h6, h7, h8⟩ := checkE_ok h
  unfold checkE
  simp only
  have e1 : okLines (negL x.2.2) = true := by
    unfold okLines at h6 ⊢
    rw [List.length_map]
    rw [← h6]
    congr 1
    funext i
    exact okLine_neg _ i
  have e2 : ((negL x.2.2).map (·.2)).sum = 0 := by rw [sum_neg, h8]; rfl
  rw [decide_eq_false (show ¬ x.1 < 0 by omega), decide_eq_false (show ¬ x.1 > 2147483647 by omega), h3, List.length_map, decide_eq_false (show ¬ x.2.2.length < 2 by omega), decide_eq_false (show ¬ x.2.2.length > 8 by omega), e1, e2]
  rfl
theorem on_neg (l : List Lin) (a : Acc) : onE (negL l) a = -onE l a := by
  unfold onE negL
  rw [List.find?_map]
  have e : ((fun y : Lin => decide (y.1 = a)) ∘ negA) = fun y : Lin => decide (y.1 = a) := rfl
  rw [e]
  cases l.find? (fun y : Lin => decide (y.1 = a)) <;> rfl
theorem least_rounds {l : List Lin} (hl : l.length ≤ 1000) (e b : Int) (r : ByteArray) (y : Ent) : bursarlaw12_EntryBack.l14 (e, false, 0, b, r, l, y) = some (e, l.any leastB, b, r, l, y) := by
  have hf := rounds_to (t := bursarlaw12_EntryBack.t14) (fun i => (e, (l.take i).any leastB, ((i : Nat) : Int), b, r, l, y)) l.length (fun i hi => by
    have hup : (l.take (i + 1)).any leastB = ((l.take i).any leastB || leastB (l.getD i zL)) := by rw [take_up zL hi, List.any_append]; simp
    simp only [bursarlaw12_EntryBack.t14, inb hi, cond_true, ge0' i, Bool.and_self, Int.toNat_natCast, dflt_line, wrap_up (show i < 9223372036854775807 by omega), hup]
    cases (l.take i).any leastB <;> rfl)
  have hf' : bursarlaw12_EntryBack.l14 (e, false, 0, b, r, l, y) = rounds bursarlaw12_EntryBack.t14 (e, (l.take l.length).any leastB, ((l.length : Nat) : Int), b, r, l, y) := hf
  rw [hf', List.take_length, rounds_end (r := (e, l.any leastB, b, r, l, y)) (by simp only [bursarlaw12_EntryBack.t14, outb, cond_false])]
theorem contrary_rounds {l : List Lin} (hl : l.length ≤ 1000) (hg : goodL l) (hok : okLines l = true) (hle : l.any leastB = false) (b : Int) (r : ByteArray) : bursarlaw12_EntryBack.l23 (0, b, r, l, b, r, negL l) = some (.inr (b, r, l, b, r, negL l)) := by
  have hf := rounds_to (t := bursarlaw12_EntryBack.t23) (fun i => (((i : Nat) : Int), b, r, l, b, r, negL l)) l.length (fun i hi => by
    have hy : Am (l.getD i zL).2 := by rw [getD_at hi]; exact (hg _ (List.getElem_mem hi)).2.2
    have hn : leastB (l.getD i zL) = false := by
      rw [List.any_eq_false] at hle
      rw [getD_at hi]
      simpa using hle _ (List.getElem_mem hi)
    have h1 := neg_am hy hn
    have hw : IntKind.wrap .i64 (0 - (l.getD i zL).2) = -(l.getD i zL).2 := by rw [wrap_i64 h1.1 h1.2, Int.zero_sub]
    simp only [bursarlaw12_EntryBack.t23, inb hi, cond_true, ge0' i, Bool.and_self, Int.toNat_natCast, dflt_line, on_is (b, r, negL l) _ (show (negL l).length ≤ 1000 by simpa using hl), on_is (b, r, l) _ hl, Option.bind_some, on_neg, onE_at hok hi, hw, bne_self_eq_false, cond_false, wrap_up (show i < 9223372036854775807 by omega)])
  have hf' : bursarlaw12_EntryBack.l23 (0, b, r, l, b, r, negL l) = rounds bursarlaw12_EntryBack.t23 (((l.length : Nat) : Int), b, r, l, b, r, negL l) := hf
  rw [hf', rounds_end (r := .inr (b, r, l, b, r, negL l)) (by simp only [bursarlaw12_EntryBack.t23, outb, cond_false])]
/-! ### looked at twice -/
theorem cutA_id {y : Lin} (h : y.1.2.size ≤ 20) : cutA y = y := by
  unfold cutA
  rw [decide_eq_false (by omega)]; rfl
theorem cutA_size (y : Lin) : (cutA y).1.2.size ≤ 20 := by
  unfold cutA
  by_cases c : (y.1.2.size : Int) > 20
  · rw [decide_eq_true c]
    show (y.1.2.extract 0 20).size ≤ 20
    rw [ByteArray.size_extract]; omega
  · rw [decide_eq_false c]
    simp only [cond_false]; omega
theorem few12_id {b : Int} {r : ByteArray} {l : List Lin} (hl : l.length ≤ 10) (hr : r.size ≤ 25) (hs : ∀ y ∈ l, y.1.2.size ≤ 20) : bursarlaw12_Few.f (b, r, l) = some (b, r, l) := by
  have hm : l.map cutA = l := by
    conv => rhs; rw [← List.map_id l]
    exact List.map_congr_left fun y hy => cutA_id (hs y hy)
  unfold bursarlaw12_Few.f
  simp only [decide_eq_false (show ¬ (l.length : Int) > 10 by omega), decide_eq_false (show ¬ (r.size : Int) > 25 by omega), cond_false, few12_rounds hl _ _ _ rfl, Option.bind_some, hm]
theorem few12_is' (x : Ent) (hw : ∀ y ∈ x.2.2, (Lit.int .i64 y.1.1).wf = true ∧ Am y.2) : ∃ b r l, bursarlaw12_Few.f x = some (b, r, l) ∧ goodL l ∧ l.length ≤ 10 ∧ r.size ≤ 25 ∧ ∀ y ∈ l, y.1.2.size ≤ 20 := by
  obtain ⟨b, r, l⟩ := x
  have hw : ∀ y ∈ l, (Lit.int .i64 y.1.1).wf = true ∧ Am y.2 := hw
  have hc : (List.take 10 (List.drop 0 l)).length ≤ 10 := by simp; omega
  have hcw : ∀ y ∈ List.take 10 (List.drop 0 l), (Lit.int .i64 y.1.1).wf = true ∧ Am y.2 := fun y hy => hw y (List.mem_of_mem_drop (List.mem_of_mem_take hy))
  have hsz : ∀ m : List Lin, ∀ y ∈ m.map cutA, y.1.2.size ≤ 20 := fun m y hy => by
    obtain ⟨z, _, rfl⟩ := List.mem_map.1 hy
    exact cutA_size z
  have hcr : (r.extract 0 25).size ≤ 25 := by rw [ByteArray.size_extract]; omega
  unfold bursarlaw12_Few.f
  by_cases c1 : (l.length : Int) > 10
  · by_cases c2 : (r.size : Int) > 25
    · simp only [decide_eq_true c1, decide_eq_true (show (10 : Int) ≤ (l.length : Int) by omega), decide_eq_true c2, decide_eq_true (show (25 : Int) ≤ (r.size : Int) by omega), Bool.and_self, cond_true, few12_rounds hc _ _ _ rfl, Option.bind_some]
      exact ⟨_, _, _, rfl, cutA_good hcw, by rw [List.length_map]; exact hc, hcr, hsz _⟩
    · simp only [decide_eq_true c1, decide_eq_true (show (10 : Int) ≤ (l.length : Int) by omega), decide_eq_false c2, Bool.and_self, cond_true, cond_false, few12_rounds hc _ _ _ rfl, Option.bind_some]
      exact ⟨_, _, _, rfl, cutA_good hcw, by rw [List.length_map]; exact hc, by omega, hsz _⟩
  · have hl : l.length ≤ 10 := by omega
    by_cases c2 : (r.size : Int) > 25
    · simp only [decide_eq_false c1, decide_eq_true c2, decide_eq_true (show (25 : Int) ≤ (r.size : Int) by omega), Bool.and_self, cond_true, cond_false, few12_rounds hl _ _ _ rfl, Option.bind_some]
      exact ⟨_, _, _, rfl, cutA_good hw, by rw [List.length_map]; exact hl, hcr, hsz _⟩
    · simp only [decide_eq_false c1, decide_eq_false c2, Bool.and_self, cond_true, cond_false, few12_rounds hl _ _ _ rfl, Option.bind_some]
      exact ⟨_, _, _, rfl, cutA_good hw, by rw [List.length_map]; exact hl, by omega, hsz _⟩
theorem EntryBack_is (a : Ent) (hw : ∀ y ∈ a.2.2, (Lit.int .i64 y.1.1).wf = true ∧ Am y.2) : bursarlaw12_EntryBack.f a = some true := by
  obtain ⟨b, r, l, e1, hg, hl, hr, hs⟩ := few12_is' a hw
  have e2 := few12_id (b := b) hl hr hs
  have hsame := same12_is (b, r, l) (b, r, l) (show l.length ≤ 1000 by omega)
  rw [decide_eq_true rfl] at hsame
  unfold bursarlaw12_EntryBack.f
  simp only [e1, e2, Option.bind_some, back_is (x := (b, r, l)) hg, hsame, Bool.not_true, cond_false, check_is (x := (b, r, l)) hg]
  by_cases h0 : checkE (b, r, l) = 0
  · obtain ⟨_, _, _, _, _, h6, _, _⟩ := checkE_ok h0
    simp only at h6
    have hb1 : backE (b, r, l) = bif l.any leastB then ((0, bs [], []), 2) else ((b, r, negL l), 0) := by unfold backE; rw [h0]; rfl
    rw [h0, hb1]
    simp only [bne_self_eq_false, cond_false, least_rounds (show l.length ≤ 1000 by omega), Option.bind_some]
    cases hle : l.any leastB
    · have hgn := good_neg hg hle
      have hcn := check_neg h0
      simp only at hcn
      have hb2 : backE (b, r, negL l) = ((b, r, l), 0) := by unfold backE; rw [hcn]; simp only [BEq.rfl, cond_true, least_neg hg, cond_false, neg_neg]
      simp only [cond_false, bne_self_eq_false, check_is (x := (b, r, negL l)) hgn, hcn, Option.bind_some, contrary_rounds (show l.length ≤ 1000 by omega) hg h6 hle, back_is (x := (b, r, negL l)) hgn, hb2, hsame, cond_true, BEq.rfl]
    · simp only [cond_true, noneE, Option.bind_some, BEq.rfl]
  · have hz : (checkE (b, r, l) == 0) = false := by simpa using h0
    have hz1 : (checkE (b, r, l) != 0) = true := by simpa using h0
    have hb1 : backE (b, r, l) = ((0, bs [], []), checkE (b, r, l)) := by unfold backE; rw [hz]; rfl
    simp only [hz1, hb1, cond_true, noneE, Option.bind_some, BEq.rfl]
end Go.Proofs.YtnnebljljmpdkaaDoor
end
section
/- An entry the other way round may be, and does the contrary on each account; the other way round again it is as it was. -/
set_option linter.unusedVariables false
set_option linter.unusedSimpArgs false
namespace Go.Proofs.YtnnebljljmpdkaaDoor.entryBack
open Go Go.Fw Go.ChangeShapes Go.WideShapes Go.ChangeAt Go.RowKit
theorem own : ownKnob Tryd.prog.godebug = none := by kernel_rfl
theorem laidOut : laidOutB Tryd.prog = true := by kernel_rfl
set_option maxRecDepth 100000 in
theorem told {W : World} (h : laidMetH Tryd.prog Rows.entryBackRow.laid W) : Glob ⟨W, fun b => b < W.heap.size, fun _ => False, fun _ => 0, fun _ => 0, G0⟩ := by
  rw [MakeChecks.laidMetH_plain _ _ _ (by kernel_rfl)] at h
  have f3 := globAt_tab (P := Tryd.prog) (g := 3) (k := .u64) (zs := [1, 10, 100, 1000, 10000, 100000, 1000000, 10000000, 100000000, 1000000000, 10000000000, 100000000000, 1000000000000, 10000000000000, 100000000000000, 1000000000000000, 10000000000000000, 100000000000000000, 1000000000000000000, 10000000000000000000]) (by kernel_rfl) (Lib.tabIs_of_head (g := 3) (by kernel_rfl) (by kernel_rfl) Tryd.underlying133 Tryd.underlying89 (by kernel_rfl) (by kernel_rfl) (laidMet.tail (laidMet.tail h)))
  exact (glob_cons f3 glob_none')
set_option maxRecDepth 100000 in
theorem lifted (os : Os) (started : os.Started) (H : Type) (enc : TypeId × Value → H) :
    ReturnsInHanded {} Tryd.checked os 5 .any (fun w args => (Rows.entryBackSpec.pre enc Tryd.prog Tryd.f5 [] false w args ∧ laidMetH Tryd.prog Rows.entryBackRow.laid w) ∧ sizedMet enc Tryd.prog Tryd.f5 (OpenSpec.ofChange Rows.entryBackSpec) false w args)
      (Rows.entryBackSpec.post enc Tryd.prog Tryd.f5 false true false false) := by
  refine returnsInHanded_of_change_and (C := Tryd.checked) (X := fun w _ => laidMetH Tryd.prog Rows.entryBackRow.laid w) (fun _ _ _ hh h => h.of_heap hh) own started (by kernel_rfl) Tryd.func5
    (ChangeSpec.witness_shaped (enc := enc) (C := Tryd.checked) (os := os) (X := fun w _ => laidMetH Tryd.prog Rows.entryBackRow.laid w) false (World.laidAll Tryd.prog os Rows.entryBackRow.laid) #[.agg #[.int .i64 0, .string ByteArray.empty, .slice none 0 0]] 8 (World.laidAll_os _ _ _) (World.shaped_of_ZipB (by kernel_rfl) (by kernel_rfl)) (by kernel_rfl) (by kernel_rfl) (by kernel_rfl) (by rw [MakeChecks.laidMetH_plain _ _ _ (by kernel_rfl)]; exact laidMet_laidAll _ (by kernel_rfl) (by kernel_rfl))) ?_
  intro W base args ds gs before hval hW _ _ hL _
  exact law_call (P := Tryd.prog) (g := 5) (tb := Tryd.f5.resultTypes.getD 0 0) laidOut bursarlaw12_EntryBack.row_ok (told hL) (by kernel_rfl) (fun a => by kernel_rfl) (by kernel_rfl) (by kernel_rfl) rfl
    (fun ds h => match ds, h with | [_], _ => ⟨rfl, rfl, rfl⟩) (fun a ha => EntryBack_is a (fun y hy => ⟨(ha.2.2.2 y hy).1.1, bounds_i64 (ha.2.2.2 y hy).2⟩)) hval hW
set_option maxRecDepth 100000 in
theorem over : Rows.entryBackRow.holds Tryd.pinned (OpenSpec.ofChange Rows.entryBackSpec) :=
  OpenClaim.holds_of_wide 5 Tryd.f5 rfl rfl rfl rfl rfl rfl rfl ⟨rfl, rfl, rfl, rfl, rfl⟩ rfl rfl rfl rfl rfl (by kernel_rfl) Tryd.func5 (by kernel_rfl)
    (of_decide_eq_true (by kernel_rfl)) (by unfold Func.isWrapper; first | (rw [if_pos (by decide +kernel)]; kernel_rfl) | (rw [if_neg (by decide +kernel)]; exact ⟨rfl, rfl⟩))
    (fun os started H enc _ => lifted os started H enc)
theorem plainParams : (Tryd.f5.params.toList.all fun t => !(Tryd.prog.wantsStandIn t)) = true := by kernel_rfl
theorem card : Rows.EntryBackCardSaid :=
  Claim7.holds_tied_plain_at .later [] [.data, .data, .data] true (true, "1d6d50409bfa2ee97996de2408cce1be4afeb24f2b52e15a9f5b65781189beeb") true
    over (fun _ h => by cases h) (by kernel_rfl) (fun _ h => by cases h) entryBack_row_tie rfl ⟨rfl, rfl⟩ (by kernel_rfl) rfl
    (fun f fn hf hfn => by
      obtain rfl : f = 5 := Option.some.inj ((show Tryd.prog.funcNamed "bursar/bursarlaw12.EntryBack" = some 5 by kernel_rfl).symm.trans hf) |>.symm
      obtain rfl : fn = Tryd.f5 := (Option.some.inj (Tryd.func5.symm.trans hfn)).symm
      exact ⟨by kernel_rfl, fun j t ht => by
        have h := List.all_eq_true.1 plainParams t (by rw [← Array.getElem?_toList] at ht; exact List.mem_of_getElem? ht)
        exact (show Tryd.prog.wantsStandIn t = false by simpa using h)⟩)
    (by kernel_rfl)
end Go.Proofs.YtnnebljljmpdkaaDoor.entryBack
namespace Go.Proofs.YtnnebljljmpdkaaDoor
/-- The given statement. -/
theorem entryBack_holds : Rows.EntryBackCardSaid := entryBack.card
#print axioms entryBack_holds
end Go.Proofs.YtnnebljljmpdkaaDoor
end
