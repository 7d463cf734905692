/- Part 4 of what the proof of this statement stands on: Which postings may be, their entries and texts, and the posting of any text, is as the document says; texts are parsed as they were. -/
import Derived.Laws.Strings
import Derived.Lib.Bytealg
import Derived.Lib.ParseIntB
import Derived.Lib.ItoaNum
import Derived.Laws.RangeString
import Derived.Shelf.Strconv.Itoa1
import Derived.Shelf.Strconv.Itoa2
import Derived.Shelf.LaysM
import Derived.Test.YtpoiijkodpnobaaGreatDoorProg
import Derived.Lib.Walk
import Derived.Lib.ItoaMem
import Derived.WalkKit
import Derived.BigCall
import Derived.BigGuard
import Derived.Deep.Draws
import Derived.Shelf.Pu.ParseUintPublic10
import Derived.Shelf.Pu.ErrVarParseUint
import Derived.Shelf.Strconv.ErrVarAll
import Derived.Shelf.Strings.Repeat
import Derived.Shelf.Strconv.Itoa3
import Derived.Test.YtpoiijkodpnobaaGreatDoorKTradePosts3
section
set_option linter.unusedVariables false
set_option maxRecDepth 100000
namespace Go.Proofs.YtpoiijkodpnobaaGreatDoor
open Go Go.Fw
abbrev digit_All.As : Shs := (.cons (.x .s) .nil)
abbrev digit_All.m : Back := [(false, .b)]
noncomputable abbrev digit_All.H : HK := hk P G0 E0 J0 [] noLoops 4
theorem digit_All.rows : TabOK P G0 (tabF []) := rows_ok (ws := []) trivial
theorem digit_All.hok : HKOK P digit_All.H := hk_ok e0_ok j0_ok digit_All.rows (fun g n => noLoops_ok g n) 4
noncomputable abbrev digit_All.sh3 : SSh := ⟨[(0, (.x .s)), (5, (.x (.i .i64))), (6, (.x (.i .i64)))], []⟩
noncomputable abbrev digit_All.os3 : PEnds := [(.ret, ⟨[(2, (.x .b))], []⟩), ((.exit 0), ⟨[], []⟩)]
noncomputable def digit_All.t3 (s : (ByteArray × (Int × Int))) : Option ((ByteArray × (Int × Int)) ⊕ (Bool ⊕ Unit)) := (bif (decide ((s.2.2 < s.2.1))) then (bif ((decide (((0 : Int) ≤ s.2.2))) && (decide ((s.2.2 < (s.1.size : Int))))) then (bif (decide (((bt s.1 (Int.toNat s.2.2)) < (48 : Int)))) then (some (.inr (.inl false))) else (bif ((decide (((0 : Int) ≤ s.2.2))) && (decide ((s.2.2 < (s.1.size : Int))))) then (bif (decide (((bt s.1 (Int.toNat s.2.2)) > (57 : Int)))) then (some (.inr (.inl false))) else (some (.inl (s.1, (s.2.1, (IntKind.wrap .i64 (s.2.2 + (1 : Int)))))))) else none)) else none) else (some (.inr (.inr ()))))
theorem digit_All.t3_ok : ∀ s : Vals digit_All.sh3.tys, turnK P digit_All.H (lp []) (bodyAt (codeOf P 85) 3) 0 digit_All.sh3 digit_All.os3 s some = digit_All.t3 s := fun s => by kernel_rfl
noncomputable def digit_All.l3 : (ByteArray × (Int × Int)) → Option (Bool ⊕ Unit) := rounds digit_All.t3
noncomputable def digit_All.f (a : ByteArray) : Option Bool := (((digit_All.l3 (a, ((a.size : Int), (0 : Int))))).bind fun x1 => (match x1 with | .inl x2 => (some x2) | .inr x2 => (some true)))
theorem digit_All.ok : ∀ a : Vals digit_All.As.tys, fnK P digit_All.H (lp [(3, (NodeT.summ ⟨digit_All.sh3, digit_All.os3, digit_All.l3⟩ 0))]) 85 digit_All.As digit_All.m a some = digit_All.f a := fun a => by kernel_rfl
noncomputable abbrev digit_All.row : Row := fnRow 85 digit_All.As digit_All.m digit_All.f
theorem digit_All.row_ok : RowOK P G0 digit_All.row := row_told digit_All.hok (lp_of (l := [(3, (NodeT.summ ⟨digit_All.sh3, digit_All.os3, digit_All.l3⟩ 0))]) ⟨(loop_sum digit_All.hok (by kernel_rfl) (by kernel_rfl) (l := []) trivial digit_All.sh3 digit_All.os3 (by kernel_rfl) digit_All.t3 digit_All.t3_ok), trivial⟩) (fun _ => rfl) digit_All.ok
abbrev digit_sum.As : Shs := (.cons (.x .s) .nil)
abbrev digit_sum.m : Back := [(false, (.i .i64))]
noncomputable abbrev digit_sum.H : HK := hk P G0 E0 J0 [] noLoops 4
theorem digit_sum.rows : TabOK P G0 (tabF []) := rows_ok (ws := []) trivial
theorem digit_sum.hok : HKOK P digit_sum.H := hk_ok e0_ok j0_ok digit_sum.rows (fun g n => noLoops_ok g n) 4
noncomputable abbrev digit_sum.sh5 : SSh := ⟨[(0, (.x .s)), (3, (.fn 166 .nil)), (4, (.x (.i .i64))), (8, (.x (.i .i64))), (9, (.x (.i .i64)))], []⟩
noncomputable abbrev digit_sum.os5 : PEnds := [((.exit 0), ⟨[(4, (.x (.i .i64)))], []⟩)]
noncomputable def digit_sum.t5 (s : (ByteArray × (Int × (Int × Int)))) : Option ((ByteArray × (Int × (Int × Int))) ⊕ (Int)) := (bif (decide ((s.2.2.2 < s.2.2.1))) then (bif ((decide (((0 : Int) ≤ (IntKind.wrap .i64 ((IntKind.wrap .i64 ((s.1.size : Int) - (1 : Int))) - s.2.2.2))))) && (decide (((IntKind.wrap .i64 ((IntKind.wrap .i64 ((s.1.size : Int) - (1 : Int))) - s.2.2.2)) < (s.1.size : Int))))) then (bif ((Int.tmod s.2.2.2 (2 : Int)) == (1 : Int)) then (some (.inl (s.1, ((IntKind.wrap .i64 (s.2.1 + (IntKind.wrap .i64 ((IntKind.wrap .i64 ((2 : Int) * (IntKind.wrap .i64 (IntKind.wrap .u8 ((bt s.1 (Int.toNat (IntKind.wrap .i64 ((IntKind.wrap .i64 ((s.1.size : Int) - (1 : Int))) - s.2.2.2)))) - (48 : Int)))))) - (IntKind.wrap .i64 ((9 : Int) * (IntKind.wrap .i64 (Int.tdiv (IntKind.wrap .i64 (IntKind.wrap .u8 ((bt s.1 (Int.toNat (IntKind.wrap .i64 ((IntKind.wrap .i64 ((s.1.size : Int) - (1 : Int))) - s.2.2.2)))) - (48 : Int)))) (5 : Int))))))))), (s.2.2.1, (IntKind.wrap .i64 (s.2.2.2 + (1 : Int)))))))) else (some (.inl (s.1, ((IntKind.wrap .i64 (s.2.1 + (IntKind.wrap .i64 (IntKind.wrap .u8 ((bt s.1 (Int.toNat (IntKind.wrap .i64 ((IntKind.wrap .i64 ((s.1.size : Int) - (1 : Int))) - s.2.2.2)))) - (48 : Int)))))), (s.2.2.1, (IntKind.wrap .i64 (s.2.2.2 + (1 : Int))))))))) else none) else (some (.inr s.2.1)))
theorem digit_sum.t5_ok : ∀ s : Vals digit_sum.sh5.tys, turnK P digit_sum.H (lp []) (bodyAt (codeOf P 136) 5) 0 digit_sum.sh5 digit_sum.os5 s some = digit_sum.t5 s := fun s => by kernel_rfl
noncomputable def digit_sum.l5 : (ByteArray × (Int × (Int × Int))) → Option (Int) := rounds digit_sum.t5
noncomputable def digit_sum.f (a : ByteArray) : Option Int := (((digit_sum.l5 (a, ((0 : Int), ((a.size : Int), (0 : Int)))))).bind fun x1 => (some x1))
theorem digit_sum.ok : ∀ a : Vals digit_sum.As.tys, fnK P digit_sum.H (lp [(5, (NodeT.summ ⟨digit_sum.sh5, digit_sum.os5, digit_sum.l5⟩ 0))]) 136 digit_sum.As digit_sum.m a some = digit_sum.f a := fun a => by kernel_rfl
noncomputable abbrev digit_sum.row : Row := fnRow 136 digit_sum.As digit_sum.m digit_sum.f
theorem digit_sum.row_ok : RowOK P G0 digit_sum.row := row_told digit_sum.hok (lp_of (l := [(5, (NodeT.summ ⟨digit_sum.sh5, digit_sum.os5, digit_sum.l5⟩ 0))]) ⟨(loop_sum digit_sum.hok (by kernel_rfl) (by kernel_rfl) (l := []) trivial digit_sum.sh5 digit_sum.os5 (by kernel_rfl) digit_sum.t5 digit_sum.t5_ok), trivial⟩) (fun _ => rfl) digit_sum.ok
abbrev digit_Sound.As : Shs := (.cons (.x .s) .nil)
abbrev digit_Sound.m : Back := [(false, .b)]
noncomputable abbrev digit_Sound.H : HK := hk P G0 E0 J0 [digit_All.row, digit_sum.row] noLoops 4
theorem digit_Sound.rows : TabOK P G0 (tabF [digit_All.row, digit_sum.row]) := rows_ok (ws := [digit_All.row, digit_sum.row]) ⟨digit_All.row_ok, ⟨digit_sum.row_ok, trivial⟩⟩
theorem digit_Sound.hok : HKOK P digit_Sound.H := hk_ok e0_ok j0_ok digit_Sound.rows (fun g n => noLoops_ok g n) 4
noncomputable def digit_Sound.f (a : ByteArray) : Option Bool := (bif (decide (((a.size : Int) ≥ (2 : Int)))) then (((digit_All.f a)).bind fun x1 => (bif x1 then (((digit_sum.f a)).bind fun x2 => (some ((Int.tmod x2 (10 : Int)) == (0 : Int)))) else (some false))) else (some false))
theorem digit_Sound.ok : ∀ a : Vals digit_Sound.As.tys, fnK P digit_Sound.H (lp []) 102 digit_Sound.As digit_Sound.m a some = digit_Sound.f a := fun a => by kernel_rfl
noncomputable abbrev digit_Sound.row : Row := fnRow 102 digit_Sound.As digit_Sound.m digit_Sound.f
theorem digit_Sound.row_ok : RowOK P G0 digit_Sound.row := row_told digit_Sound.hok (lp_of (l := []) trivial) (fun _ => rfl) digit_Sound.ok
abbrev bursarref02_All.As : Shs := (.cons (.x .s) .nil)
abbrev bursarref02_All.m : Back := [(false, .b)]
noncomputable abbrev bursarref02_All.H : HK := hk P G0 E0 J0 [] noLoops 4
theorem bursarref02_All.rows : TabOK P G0 (tabF []) := rows_ok (ws := []) trivial
theorem bursarref02_All.hok : HKOK P bursarref02_All.H := hk_ok e0_ok j0_ok bursarref02_All.rows (fun g n => noLoops_ok g n) 4
noncomputable abbrev bursarref02_All.sh3 : SSh := ⟨[(0, (.x .s)), (3, (.x (.i .i64)))], []⟩
noncomputable abbrev bursarref02_All.os3 : PEnds := [(.ret, ⟨[(2, (.x .b))], []⟩), ((.exit 0), ⟨[], []⟩)]
noncomputable def bursarref02_All.t3 (s : (ByteArray × Int)) : Option ((ByteArray × Int) ⊕ (Bool ⊕ Unit)) := (bif (decide ((s.2 < (s.1.size : Int)))) then (bif ((decide (((0 : Int) ≤ s.2))) && (decide ((s.2 < (s.1.size : Int))))) then (bif (decide (((bt s.1 (Int.toNat s.2)) < (48 : Int)))) then (some (.inr (.inl false))) else (bif ((decide (((0 : Int) ≤ s.2))) && (decide ((s.2 < (s.1.size : Int))))) then (bif (decide (((bt s.1 (Int.toNat s.2)) > (57 : Int)))) then (some (.inr (.inl false))) else (some (.inl (s.1, (IntKind.wrap .i64 (s.2 + (1 : Int))))))) else none)) else none) else (some (.inr (.inr ()))))
theorem bursarref02_All.t3_ok : ∀ s : Vals bursarref02_All.sh3.tys, turnK P bursarref02_All.H (lp []) (bodyAt (codeOf P 73) 3) 0 bursarref02_All.sh3 bursarref02_All.os3 s some = bursarref02_All.t3 s := fun s => by kernel_rfl
noncomputable def bursarref02_All.l3 : (ByteArray × Int) → Option (Bool ⊕ Unit) := rounds bursarref02_All.t3
noncomputable def bursarref02_All.f (a : ByteArray) : Option Bool := (((bursarref02_All.l3 (a, (0 : Int)))).bind fun x1 => (match x1 with | .inl x2 => (some x2) | .inr x2 => (some true)))
theorem bursarref02_All.ok : ∀ a : Vals bursarref02_All.As.tys, fnK P bursarref02_All.H (lp [(3, (NodeT.summ ⟨bursarref02_All.sh3, bursarref02_All.os3, bursarref02_All.l3⟩ 0))]) 73 bursarref02_All.As bursarref02_All.m a some = bursarref02_All.f a := fun a => by kernel_rfl
noncomputable abbrev bursarref02_All.row : Row := fnRow 73 bursarref02_All.As bursarref02_All.m bursarref02_All.f
theorem bursarref02_All.row_ok : RowOK P G0 bursarref02_All.row := row_told bursarref02_All.hok (lp_of (l := [(3, (NodeT.summ ⟨bursarref02_All.sh3, bursarref02_All.os3, bursarref02_All.l3⟩ 0))]) ⟨(loop_sum bursarref02_All.hok (by kernel_rfl) (by kernel_rfl) (l := []) trivial bursarref02_All.sh3 bursarref02_All.os3 (by kernel_rfl) bursarref02_All.t3 bursarref02_All.t3_ok), trivial⟩) (fun _ => rfl) bursarref02_All.ok
abbrev bursarref02_Sound.As : Shs := (.cons (.x .s) .nil)
abbrev bursarref02_Sound.m : Back := [(false, .b)]
noncomputable abbrev bursarref02_Sound.H : HK := hk P G0 E0 J0 [bursarref02_All.row] noLoops 4
theorem bursarref02_Sound.rows : TabOK P G0 (tabF [bursarref02_All.row]) := rows_ok (ws := [bursarref02_All.row]) ⟨bursarref02_All.row_ok, trivial⟩
theorem bursarref02_Sound.hok : HKOK P bursarref02_Sound.H := hk_ok e0_ok j0_ok bursarref02_Sound.rows (fun g n => noLoops_ok g n) 4
noncomputable abbrev bursarref02_Sound.sh7 : SSh := ⟨[(0, (.x .s)), (3, (.x (.i .i64))), (4, (.x (.i .i64)))], []⟩
noncomputable abbrev bursarref02_Sound.os7 : PEnds := [((.exit 0), ⟨[(3, (.x (.i .i64)))], []⟩)]
noncomputable def bursarref02_Sound.t7 (s : (ByteArray × (Int × Int))) : Option ((ByteArray × (Int × Int)) ⊕ (Int)) := (bif (decide ((s.2.2 < (s.1.size : Int)))) then (bif ((decide (((0 : Int) ≤ s.2.2))) && (decide ((s.2.2 < (s.1.size : Int))))) then (bif ((Int.tmod (IntKind.wrap .i64 ((s.1.size : Int) - s.2.2)) (2 : Int)) == (0 : Int)) then (bif (decide (((IntKind.wrap .i64 ((2 : Int) * (IntKind.wrap .i64 ((IntKind.wrap .i64 (bt s.1 (Int.toNat s.2.2))) - (48 : Int))))) > (9 : Int)))) then (some (.inl (s.1, ((IntKind.wrap .i64 (s.2.1 + (IntKind.wrap .i64 ((IntKind.wrap .i64 ((2 : Int) * (IntKind.wrap .i64 ((IntKind.wrap .i64 (bt s.1 (Int.toNat s.2.2))) - (48 : Int))))) - (9 : Int))))), (IntKind.wrap .i64 (s.2.2 + (1 : Int))))))) else (some (.inl (s.1, ((IntKind.wrap .i64 (s.2.1 + (IntKind.wrap .i64 ((2 : Int) * (IntKind.wrap .i64 ((IntKind.wrap .i64 (bt s.1 (Int.toNat s.2.2))) - (48 : Int))))))), (IntKind.wrap .i64 (s.2.2 + (1 : Int)))))))) else (some (.inl (s.1, ((IntKind.wrap .i64 (s.2.1 + (IntKind.wrap .i64 ((IntKind.wrap .i64 (bt s.1 (Int.toNat s.2.2))) - (48 : Int))))), (IntKind.wrap .i64 (s.2.2 + (1 : Int)))))))) else none) else (some (.inr s.2.1)))
theorem bursarref02_Sound.t7_ok : ∀ s : Vals bursarref02_Sound.sh7.tys, turnK P bursarref02_Sound.H (lp []) (bodyAt (codeOf P 91) 7) 0 bursarref02_Sound.sh7 bursarref02_Sound.os7 s some = bursarref02_Sound.t7 s := fun s => by kernel_rfl
noncomputable def bursarref02_Sound.l7 : (ByteArray × (Int × Int)) → Option (Int) := rounds bursarref02_Sound.t7
noncomputable def bursarref02_Sound.f (a : ByteArray) : Option Bool := (bif (decide (((a.size : Int) < (2 : Int)))) then (some false) else (((bursarref02_All.f a)).bind fun x1 => (bif (!x1) then (some false) else (((bursarref02_Sound.l7 (a, ((0 : Int), (0 : Int))))).bind fun x2 => (some ((Int.tmod x2 (10 : Int)) == (0 : Int)))))))
theorem bursarref02_Sound.ok : ∀ a : Vals bursarref02_Sound.As.tys, fnK P bursarref02_Sound.H (lp [(7, (NodeT.summ ⟨bursarref02_Sound.sh7, bursarref02_Sound.os7, bursarref02_Sound.l7⟩ 0))]) 91 bursarref02_Sound.As bursarref02_Sound.m a some = bursarref02_Sound.f a := fun a => by kernel_rfl
noncomputable abbrev bursarref02_Sound.row : Row := fnRow 91 bursarref02_Sound.As bursarref02_Sound.m bursarref02_Sound.f
theorem bursarref02_Sound.row_ok : RowOK P G0 bursarref02_Sound.row := row_told bursarref02_Sound.hok (lp_of (l := [(7, (NodeT.summ ⟨bursarref02_Sound.sh7, bursarref02_Sound.os7, bursarref02_Sound.l7⟩ 0))]) ⟨(loop_sum bursarref02_Sound.hok (by kernel_rfl) (by kernel_rfl) (l := []) trivial bursarref02_Sound.sh7 bursarref02_Sound.os7 (by kernel_rfl) bursarref02_Sound.t7 bursarref02_Sound.t7_ok), trivial⟩) (fun _ => rfl) bursarref02_Sound.ok
end Go.Proofs.YtpoiijkodpnobaaGreatDoor
end
section
set_option linter.unusedVariables false
set_option linter.unusedSimpArgs false
namespace Go.Proofs.YtpoiijkodpnobaaGreatDoor
open Go Go.Fw
def digC (s : ByteArray) (i : Nat) : Bool := decide (48 ≤ bt s i) && decide (bt s i ≤ 57)
def digitsB (s : ByteArray) : Bool := (List.range s.size).all (digC s)
theorem digit_All_is (s : ByteArray) (hs : s.size ≤ 4611686018427387904) : digit_All.f s = some (digitsB s) := by
  have h := rounds_all (t := digit_All.t3) (fun i => (s, ((s.size : Int), (i : Int)))) (digC s) (.inl false) (.inr ()) s.size (fun i hi => by
    have := bt_bound s i
    have := wrap_up (n := i) (by omega)
    grind [digit_All.t3, digC]) (by simp [digit_All.t3])
  unfold digit_All.f digit_All.l3
  rw [show ((0 : Int)) = ((0 : Nat) : Int) from rfl, h]
  unfold digitsB
  cases (List.range s.size).all (digC s) <;> rfl
theorem ref_All_is (s : ByteArray) (hs : s.size ≤ 4611686018427387904) : bursarref02_All.f s = some (digitsB s) := by
  have h := rounds_all (t := bursarref02_All.t3) (fun i => (s, (i : Int))) (digC s) (.inl false) (.inr ()) s.size (fun i hi => by
    have := bt_bound s i
    have := wrap_up (n := i) (by omega)
    grind [bursarref02_All.t3, digC]) (by simp [bursarref02_All.t3])
  unfold bursarref02_All.f bursarref02_All.l3
  rw [show ((0 : Int)) = ((0 : Nat) : Int) from rfl, h]
  unfold digitsB
  cases (List.range s.size).all (digC s) <;> rfl
theorem digits_at {s : ByteArray} (h : digitsB s = true) {i : Nat} (hi : i < s.size) : 48 ≤ bt s i ∧ bt s i ≤ 57 := by
  unfold digitsB at h
  rw [List.all_eq_true] at h
  simpa [digC] using h i (List.mem_range.2 hi)
def term (s : ByteArray) (j : Nat) : Int := bif (s.size - j) % 2 == 0 then (bif decide (2 * (bt s j - 48) > 9) then 2 * (bt s j - 48) - 9 else 2 * (bt s j - 48)) else bt s j - 48
def luhn (s : ByteArray) : Int := sumTo (term s) s.size
theorem term_bound {s : ByteArray} (h : digitsB s = true) {j : Nat} (hj : j < s.size) : 0 ≤ term s j ∧ term s j ≤ 9 := by
  have := digits_at h hj
  grind [term]
theorem digit_sum_is (s : ByteArray) (hs : s.size ≤ 576460752303423488) (hd : digitsB s = true) : digit_sum.f s = some (luhn s) := by
  have hb : ∀ n, n ≤ s.size → 0 ≤ sumTo (fun j => term s (s.size - 1 - j)) n ∧ sumTo (fun j => term s (s.size - 1 - j)) n ≤ 9 * n := fun n hn => sumTo_bound fun j hj => term_bound hd (by omega)
  have h := rounds_to (t := digit_sum.t5) (fun i => (s, (sumTo (fun j => term s (s.size - 1 - j)) i, ((s.size : Int), (i : Int))))) s.size (fun i hi => by
    have h1 := digits_at hd (i := s.size - 1 - i) (by omega)
    have h2 := wrap_up (n := i) (by omega)
    have h3 : IntKind.wrap .i64 ((s.size : Int) - 1) = (s.size : Int) - 1 := wrap_i64 (by omega) (by omega)
    have h4 : IntKind.wrap .i64 ((s.size : Int) - 1 - i) = ((s.size - 1 - i : Nat) : Int) := by rw [wrap_i64 (by omega) (by omega)]; omega
    have h5 : term s (s.size - 1 - i) = bif (i : Int).tmod 2 == 1 then 2 * (bt s (s.size - 1 - i) - 48) - 9 * ((bt s (s.size - 1 - i) - 48) / 5) else bt s (s.size - 1 - i) - 48 := by
      have e : ((i : Int).tmod 2 == 1) = ((s.size - (s.size - 1 - i)) % 2 == 0) := by
        rw [Int.tmod_eq_emod_of_nonneg (by omega)]
        rw [Bool.eq_iff_iff]; simp only [beq_iff_eq]; omega
      rw [e]
      unfold term
      cases ((s.size - (s.size - 1 - i)) % 2 == 0) with
      | false => rfl
      | true =>
        simp only [cond_true]
        by_cases hx : 2 * (bt s (s.size - 1 - i) - 48) > 9
        · rw [decide_eq_true hx]; simp only [cond_true]; omega
        · rw [decide_eq_false hx]; simp only [cond_false]; omega
    have hbi := hb i (by omega)
    have hbt := term_bound hd (j := s.size - 1 - i) (by omega)
    simp only [digit_sum.t5, h3, h4, Int.toNat_natCast, sumTo, h2]
    rw [h5] at hbt ⊢
    generalize sumTo (fun j => term s (s.size - 1 - j)) i = T at hbi ⊢
    generalize bt s (s.size - 1 - i) = d at h1 hbt ⊢
    have w1 : IntKind.wrap .u8 (d - 48) = d - 48 := by rw [wrap_u8]; omega
    have w2 : IntKind.wrap .i64 (d - 48) = d - 48 := wrap_i64 (by omega) (by omega)
    have w3 : IntKind.wrap .i64 (2 * (d - 48)) = 2 * (d - 48) := wrap_i64 (by omega) (by omega)
    have w4 : Int.tdiv (d - 48) 5 = (d - 48) / 5 := Int.tdiv_eq_ediv_of_nonneg (by omega)
    have w5 : IntKind.wrap .i64 ((d - 48) / 5) = (d - 48) / 5 := wrap_i64 (by omega) (by omega)
    have w6 : IntKind.wrap .i64 (9 * ((d - 48) / 5)) = 9 * ((d - 48) / 5) := wrap_i64 (by omega) (by omega)
    have w7 : IntKind.wrap .i64 (2 * (d - 48) - 9 * ((d - 48) / 5)) = 2 * (d - 48) - 9 * ((d - 48) / 5) := wrap_i64 (by omega) (by omega)
    have w8 : IntKind.wrap .i64 (T + (2 * (d - 48) - 9 * ((d - 48) / 5))) = T + (2 * (d - 48) - 9 * ((d - 48) / 5)) := wrap_i64 (by omega) (by omega)
    have w9 : IntKind.wrap .i64 (T + (d - 48)) = T + (d - 48) := wrap_i64 (by omega) (by omega)
    rw [w1, w2, w3, w4, w5, w6, w7, w8, w9]
    have g1 : decide ((i : Int) < (s.size : Int)) = true := decide_eq_true (by omega)
    have g2 : decide ((0 : Int) ≤ ((s.size - 1 - i : Nat) : Int)) = true := decide_eq_true (by omega)
    have g3 : decide (((s.size - 1 - i : Nat) : Int) < (s.size : Int)) = true := decide_eq_true (by omega)
    rw [g1, g2, g3]
    cases ((i : Int).tmod 2 == 1) <;> rfl)
  unfold digit_sum.f digit_sum.l5
  have h0 : (s, ((0 : Int), ((s.size : Int), (0 : Int)))) = (s, (sumTo (fun j => term s (s.size - 1 - j)) 0, ((s.size : Int), ((0 : Nat) : Int)))) := rfl
  rw [h0, h, sumTo_back, rounds_end (r := luhn s) (by simp [digit_sum.t5, luhn])]
  rfl
theorem digit_Sound_is (s : ByteArray) (hs : s.size ≤ 576460752303423488) : digit_Sound.f s = some (decide (2 ≤ s.size) && (digitsB s && (luhn s % 10 == 0))) := by
  have hl : digitsB s = true → 0 ≤ luhn s := fun hd => (sumTo_bound (f := term s) (b := 9) (n := s.size) fun j hj => term_bound hd hj).1
  unfold digit_Sound.f
  rw [digit_All_is s (by omega)]
  by_cases h2 : 2 ≤ s.size
  · rw [show decide ((s.size : Int) ≥ 2) = true from decide_eq_true (by omega), decide_eq_true h2]
    cases hd : digitsB s with
    | false => rfl
    | true => simp only [Option.bind_some, cond_true, digit_sum_is s hs hd, Bool.true_and, Int.tmod_eq_emod_of_nonneg (hl hd)]
  · rw [show decide ((s.size : Int) ≥ 2) = false from decide_eq_false (by omega), decide_eq_false h2]; rfl
theorem ref_Sound_is (s : ByteArray) (hs : s.size ≤ 576460752303423488) : bursarref02_Sound.f s = some (decide (2 ≤ s.size) && (digitsB s && (luhn s % 10 == 0))) := by
  unfold bursarref02_Sound.f
  rw [ref_All_is s (by omega)]
  by_cases h2 : 2 ≤ s.size
  · rw [show decide ((s.size : Int) < 2) = false from decide_eq_false (by omega), decide_eq_true h2]
    cases hd : digitsB s with
    | false => rfl
    | true =>
      have hb : ∀ n, n ≤ s.size → 0 ≤ sumTo (term s) n ∧ sumTo (term s) n ≤ 9 * n := fun n hn => sumTo_bound fun j hj => term_bound hd (by omega)
      have h := rounds_to (t := bursarref02_Sound.t7) (fun i => (s, (sumTo (term s) i, (i : Int)))) s.size (fun i hi => by
        have h1 := digits_at hd (i := i) hi
        have h2 := wrap_up (n := i) (by omega)
        have h3 : IntKind.wrap .i64 ((s.size : Int) - i) = ((s.size - i : Nat) : Int) := by rw [wrap_i64 (by omega) (by omega)]; omega
        have h5 : ((((s.size - i : Nat) : Int).tmod 2) == 0) = ((s.size - i) % 2 == 0) := by
          rw [Int.tmod_eq_emod_of_nonneg (by omega), Bool.eq_iff_iff]; simp only [beq_iff_eq]; omega
        have hbi := hb i (by omega)
        simp only [bursarref02_Sound.t7, h3, h5, Int.toNat_natCast, sumTo, h2, term]
        generalize sumTo (term s) i = T at hbi ⊢
        have w1 : IntKind.wrap .i64 (bt s i) = bt s i := wrap_i64 (by omega) (by omega)
        have w2 : IntKind.wrap .i64 (bt s i - 48) = bt s i - 48 := wrap_i64 (by omega) (by omega)
        have w3 : IntKind.wrap .i64 (2 * (bt s i - 48)) = 2 * (bt s i - 48) := wrap_i64 (by omega) (by omega)
        have w7 : IntKind.wrap .i64 (2 * (bt s i - 48) - 9) = 2 * (bt s i - 48) - 9 := wrap_i64 (by omega) (by omega)
        have w8 : IntKind.wrap .i64 (T + (2 * (bt s i - 48) - 9)) = T + (2 * (bt s i - 48) - 9) := wrap_i64 (by omega) (by omega)
        have w9 : IntKind.wrap .i64 (T + (bt s i - 48)) = T + (bt s i - 48) := wrap_i64 (by omega) (by omega)
        have w10 : IntKind.wrap .i64 (T + 2 * (bt s i - 48)) = T + 2 * (bt s i - 48) := wrap_i64 (by omega) (by omega)
        simp only [w1, w2, w3, w7, w8, w9, w10]
        have g1 : decide ((i : Int) < (s.size : Int)) = true := decide_eq_true (by omega)
        have g2 : decide ((0 : Int) ≤ (i : Int)) = true := decide_eq_true (by omega)
        simp only [g1, g2, Bool.and_self, cond_true]
        cases ((s.size - i) % 2 == 0)
        · rfl
        · cases decide (2 * (bt s i - 48) > 9) <;> rfl)
      have h0 : (s, ((0 : Int), (0 : Int))) = (s, (sumTo (term s) 0, ((0 : Nat) : Int))) := rfl
      have hl := (hb s.size (Nat.le_refl _)).1
      unfold bursarref02_Sound.l7
      simp only [Option.bind_some, cond_true, cond_false, Bool.not_true, Bool.true_and]
      rw [h0, h, rounds_end (r := luhn s) (by simp [bursarref02_Sound.t7, luhn])]
      simp only [Option.bind_some, Int.tmod_eq_emod_of_nonneg (show 0 ≤ luhn s from hl)]
  · rw [show decide ((s.size : Int) < 2) = true from decide_eq_true (by omega), decide_eq_false h2]; rfl
end Go.Proofs.YtpoiijkodpnobaaGreatDoor
end
section
set_option linter.unusedVariables false
set_option maxRecDepth 100000
namespace Go.Proofs.YtpoiijkodpnobaaGreatDoor
open Go Go.Fw
abbrev hold_Ref.As : Shs := (.cons (.x .s) .nil)
abbrev hold_Ref.m : Back := [(false, .b)]
noncomputable abbrev hold_Ref.H : HK := hk P G0 E0 J0 [] noLoops 4
theorem hold_Ref.rows : TabOK P G0 (tabF []) := rows_ok (ws := []) trivial
theorem hold_Ref.hok : HKOK P hold_Ref.H := hk_ok e0_ok j0_ok hold_Ref.rows (fun g n => noLoops_ok g n) 4
noncomputable abbrev hold_Ref.sh3 : SSh := ⟨[(0, (.x .s)), (6, (.x (.i .i64))), (7, (.x (.i .i64)))], []⟩
noncomputable abbrev hold_Ref.os3 : PEnds := [(.ret, ⟨[(2, (.x .b))], []⟩), ((.exit 0), ⟨[(0, (.x .s))], []⟩)]
noncomputable def hold_Ref.t3 (s : (ByteArray × (Int × Int))) : Option ((ByteArray × (Int × Int)) ⊕ (Bool ⊕ ByteArray)) := (bif (decide ((s.2.2 < s.2.1))) then (bif ((decide (((0 : Int) ≤ s.2.2))) && (decide ((s.2.2 < (s.1.size : Int))))) then (bif (decide (((bt s.1 (Int.toNat s.2.2)) < (48 : Int)))) then (bif (decide (((bt s.1 (Int.toNat s.2.2)) < (65 : Int)))) then (some (.inr (.inl false))) else (bif (decide (((bt s.1 (Int.toNat s.2.2)) > (90 : Int)))) then (some (.inr (.inl false))) else (some (.inl (s.1, (s.2.1, (IntKind.wrap .i64 (s.2.2 + (1 : Int))))))))) else (bif (decide (((bt s.1 (Int.toNat s.2.2)) > (57 : Int)))) then (bif (decide (((bt s.1 (Int.toNat s.2.2)) < (65 : Int)))) then (some (.inr (.inl false))) else (bif (decide (((bt s.1 (Int.toNat s.2.2)) > (90 : Int)))) then (some (.inr (.inl false))) else (some (.inl (s.1, (s.2.1, (IntKind.wrap .i64 (s.2.2 + (1 : Int))))))))) else (some (.inl (s.1, (s.2.1, (IntKind.wrap .i64 (s.2.2 + (1 : Int))))))))) else none) else (some (.inr (.inr s.1))))
theorem hold_Ref.t3_ok : ∀ s : Vals hold_Ref.sh3.tys, turnK P hold_Ref.H (lp []) (bodyAt (codeOf P 49) 3) 0 hold_Ref.sh3 hold_Ref.os3 s some = hold_Ref.t3 s := fun s => by kernel_rfl
noncomputable def hold_Ref.l3 : (ByteArray × (Int × Int)) → Option (Bool ⊕ ByteArray) := rounds hold_Ref.t3
noncomputable def hold_Ref.f (a : ByteArray) : Option Bool := (((hold_Ref.l3 (a, ((a.size : Int), (0 : Int))))).bind fun x1 => (match x1 with | .inl x2 => (some x2) | .inr x2 => (some ((x2.size : Int) == (12 : Int)))))
theorem hold_Ref.ok : ∀ a : Vals hold_Ref.As.tys, fnK P hold_Ref.H (lp [(3, (NodeT.summ ⟨hold_Ref.sh3, hold_Ref.os3, hold_Ref.l3⟩ 0))]) 49 hold_Ref.As hold_Ref.m a some = hold_Ref.f a := fun a => by kernel_rfl
noncomputable abbrev hold_Ref.row : Row := fnRow 49 hold_Ref.As hold_Ref.m hold_Ref.f
theorem hold_Ref.row_ok : RowOK P G0 hold_Ref.row := row_told hold_Ref.hok (lp_of (l := [(3, (NodeT.summ ⟨hold_Ref.sh3, hold_Ref.os3, hold_Ref.l3⟩ 0))]) ⟨(loop_sum hold_Ref.hok (by kernel_rfl) (by kernel_rfl) (l := []) trivial hold_Ref.sh3 hold_Ref.os3 (by kernel_rfl) hold_Ref.t3 hold_Ref.t3_ok), trivial⟩) (fun _ => rfl) hold_Ref.ok
abbrev chart_May.As : Shs := (.cons (.x T_api_Account) .nil)
abbrev chart_May.m : Back := [(false, .b)]
noncomputable abbrev chart_May.H : HK := hk P G0 E0 J0 [digit_All.row, digit_Sound.row] noLoops 4
theorem chart_May.rows : TabOK P G0 (tabF [digit_All.row, digit_Sound.row]) := rows_ok (ws := [digit_All.row, digit_Sound.row]) ⟨digit_All.row_ok, ⟨digit_Sound.row_ok, trivial⟩⟩
theorem chart_May.hok : HKOK P chart_May.H := hk_ok e0_ok j0_ok chart_May.rows (fun g n => noLoops_ok g n) 4
noncomputable def chart_May.f (a : (Int × ByteArray)) : Option Bool := (bif (a.1 == (1 : Int)) then (bif ((a.2.size : Int) == (16 : Int)) then (((digit_Sound.f a.2)).bind fun x1 => (some x1)) else (some false)) else (bif (a.1 == (2 : Int)) then (bif ((a.2.size : Int) == (6 : Int)) then (((digit_All.f a.2)).bind fun x1 => (some x1)) else (some false)) else (bif (a.1 == (3 : Int)) then (bif (a.1 == (3 : Int)) then (some ((ByteArray.toList a.2) == [])) else (some false)) else (bif (a.1 == (4 : Int)) then (some ((ByteArray.toList a.2) == [])) else (some false)))))
theorem chart_May.ok : ∀ a : Vals chart_May.As.tys, fnK P chart_May.H (lp []) 60 chart_May.As chart_May.m a some = chart_May.f a := fun a => by kernel_rfl
noncomputable abbrev chart_May.row : Row := fnRow 60 chart_May.As chart_May.m chart_May.f
theorem chart_May.row_ok : RowOK P G0 chart_May.row := row_told chart_May.hok (lp_of (l := []) trivial) (fun _ => rfl) chart_May.ok
abbrev bursarref11_Name.As : Shs := (.cons (.x T_api_Account) .nil)
abbrev bursarref11_Name.m : Back := [(false, .s), (false, .b)]
noncomputable abbrev bursarref11_Name.H : HK := hk P G0 E0 J0 [bursarref02_All.row, bursarref02_Sound.row] noLoops 4
theorem bursarref11_Name.rows : TabOK P G0 (tabF [bursarref02_All.row, bursarref02_Sound.row]) := rows_ok (ws := [bursarref02_All.row, bursarref02_Sound.row]) ⟨bursarref02_All.row_ok, ⟨bursarref02_Sound.row_ok, trivial⟩⟩
theorem bursarref11_Name.hok : HKOK P bursarref11_Name.H := hk_ok e0_ok j0_ok bursarref11_Name.rows (fun g n => noLoops_ok g n) 4
noncomputable def bursarref11_Name.f (a : (Int × ByteArray)) : Option (ByteArray × Bool) := (bif (a.1 == (1 : Int)) then (bif ((a.2.size : Int) == (16 : Int)) then (((bursarref02_Sound.f a.2)).bind fun x1 => (bif x1 then (bif (Nat.ble (1 + a.2.size) 9223372036854775807) then (some (((bs [67]) ++ a.2), true)) else none) else (bif (a.1 == (2 : Int)) then (bif ((a.2.size : Int) == (6 : Int)) then (((bursarref02_All.f a.2)).bind fun x2 => (bif x2 then (bif (Nat.ble (1 + a.2.size) 9223372036854775807) then (some (((bs [65]) ++ a.2), true)) else none) else (bif (a.1 == (3 : Int)) then (bif ((ByteArray.toList a.2) == []) then (some ((bs [72]), true)) else (bif (a.1 == (4 : Int)) then (bif ((ByteArray.toList a.2) == []) then (some ((bs [68]), true)) else (some ((bs []), false))) else (some ((bs []), false)))) else (bif (a.1 == (4 : Int)) then (bif ((ByteArray.toList a.2) == []) then (some ((bs [68]), true)) else (some ((bs []), false))) else (some ((bs []), false)))))) else (bif (a.1 == (3 : Int)) then (bif ((ByteArray.toList a.2) == []) then (some ((bs [72]), true)) else (bif (a.1 == (4 : Int)) then (bif ((ByteArray.toList a.2) == []) then (some ((bs [68]), true)) else (some ((bs []), false))) else (some ((bs []), false)))) else (bif (a.1 == (4 : Int)) then (bif ((ByteArray.toList a.2) == []) then (some ((bs [68]), true)) else (some ((bs []), false))) else (some ((bs []), false))))) else (bif (a.1 == (3 : Int)) then (bif ((ByteArray.toList a.2) == []) then (some ((bs [72]), true)) else (bif (a.1 == (4 : Int)) then (bif ((ByteArray.toList a.2) == []) then (some ((bs [68]), true)) else (some ((bs []), false))) else (some ((bs []), false)))) else (bif (a.1 == (4 : Int)) then (bif ((ByteArray.toList a.2) == []) then (some ((bs [68]), true)) else (some ((bs []), false))) else (some ((bs []), false))))))) else (bif (a.1 == (2 : Int)) then (bif ((a.2.size : Int) == (6 : Int)) then (((bursarref02_All.f a.2)).bind fun x1 => (bif x1 then (bif (Nat.ble (1 + a.2.size) 9223372036854775807) then (some (((bs [65]) ++ a.2), true)) else none) else (bif (a.1 == (3 : Int)) then (bif ((ByteArray.toList a.2) == []) then (some ((bs [72]), true)) else (bif (a.1 == (4 : Int)) then (bif ((ByteArray.toList a.2) == []) then (some ((bs [68]), true)) else (some ((bs []), false))) else (some ((bs []), false)))) else (bif (a.1 == (4 : Int)) then (bif ((ByteArray.toList a.2) == []) then (some ((bs [68]), true)) else (some ((bs []), false))) else (some ((bs []), false)))))) else (bif (a.1 == (3 : Int)) then (bif ((ByteArray.toList a.2) == []) then (some ((bs [72]), true)) else (bif (a.1 == (4 : Int)) then (bif ((ByteArray.toList a.2) == []) then (some ((bs [68]), true)) else (some ((bs []), false))) else (some ((bs []), false)))) else (bif (a.1 == (4 : Int)) then (bif ((ByteArray.toList a.2) == []) then (some ((bs [68]), true)) else (some ((bs []), false))) else (some ((bs []), false))))) else (bif (a.1 == (3 : Int)) then (bif ((ByteArray.toList a.2) == []) then (some ((bs [72]), true)) else (bif (a.1 == (4 : Int)) then (bif ((ByteArray.toList a.2) == []) then (some ((bs [68]), true)) else (some ((bs []), false))) else (some ((bs []), false)))) else (bif (a.1 == (4 : Int)) then (bif ((ByteArray.toList a.2) == []) then (some ((bs [68]), true)) else (some ((bs []), false))) else (some ((bs []), false)))))) else (bif (a.1 == (2 : Int)) then (bif ((a.2.size : Int) == (6 : Int)) then (((bursarref02_All.f a.2)).bind fun x1 => (bif x1 then (bif (Nat.ble (1 + a.2.size) 9223372036854775807) then (some (((bs [65]) ++ a.2), true)) else none) else (bif (a.1 == (3 : Int)) then (bif ((ByteArray.toList a.2) == []) then (some ((bs [72]), true)) else (bif (a.1 == (4 : Int)) then (bif ((ByteArray.toList a.2) == []) then (some ((bs [68]), true)) else (some ((bs []), false))) else (some ((bs []), false)))) else (bif (a.1 == (4 : Int)) then (bif ((ByteArray.toList a.2) == []) then (some ((bs [68]), true)) else (some ((bs []), false))) else (some ((bs []), false)))))) else (bif (a.1 == (3 : Int)) then (bif ((ByteArray.toList a.2) == []) then (some ((bs [72]), true)) else (bif (a.1 == (4 : Int)) then (bif ((ByteArray.toList a.2) == []) then (some ((bs [68]), true)) else (some ((bs []), false))) else (some ((bs []), false)))) else (bif (a.1 == (4 : Int)) then (bif ((ByteArray.toList a.2) == []) then (some ((bs [68]), true)) else (some ((bs []), false))) else (some ((bs []), false))))) else (bif (a.1 == (3 : Int)) then (bif ((ByteArray.toList a.2) == []) then (some ((bs [72]), true)) else (bif (a.1 == (4 : Int)) then (bif ((ByteArray.toList a.2) == []) then (some ((bs [68]), true)) else (some ((bs []), false))) else (some ((bs []), false)))) else (bif (a.1 == (4 : Int)) then (bif ((ByteArray.toList a.2) == []) then (some ((bs [68]), true)) else (some ((bs []), false))) else (some ((bs []), false))))))
theorem bursarref11_Name.ok : ∀ a : Vals bursarref11_Name.As.tys, fnK P bursarref11_Name.H (lp []) 53 bursarref11_Name.As bursarref11_Name.m a some = bursarref11_Name.f a := fun a => by kernel_rfl
noncomputable abbrev bursarref11_Name.row : Row := fnRow 53 bursarref11_Name.As bursarref11_Name.m bursarref11_Name.f
theorem bursarref11_Name.row_ok : RowOK P G0 bursarref11_Name.row := row_told bursarref11_Name.hok (lp_of (l := []) trivial) (fun _ => rfl) bursarref11_Name.ok
abbrev bursarref14_Ref.As : Shs := (.cons (.x .s) .nil)
abbrev bursarref14_Ref.m : Back := [(false, .b)]
noncomputable abbrev bursarref14_Ref.H : HK := hk P G0 E0 J0 [] noLoops 4
theorem bursarref14_Ref.rows : TabOK P G0 (tabF []) := rows_ok (ws := []) trivial
theorem bursarref14_Ref.hok : HKOK P bursarref14_Ref.H := hk_ok e0_ok j0_ok bursarref14_Ref.rows (fun g n => noLoops_ok g n) 4
noncomputable abbrev bursarref14_Ref.sh6 : SSh := ⟨[(0, (.x .s)), (3, (.x (.i .i64)))], []⟩
noncomputable abbrev bursarref14_Ref.os6 : PEnds := [(.ret, ⟨[(2, (.x .b))], []⟩), ((.exit 0), ⟨[], []⟩)]
noncomputable def bursarref14_Ref.t6 (s : (ByteArray × Int)) : Option ((ByteArray × Int) ⊕ (Bool ⊕ Unit)) := (bif (decide ((s.2 < (12 : Int)))) then (bif ((decide (((0 : Int) ≤ s.2))) && (decide ((s.2 < (s.1.size : Int))))) then (bif (decide (((48 : Int) ≤ (bt s.1 (Int.toNat s.2))))) then (bif ((decide (((0 : Int) ≤ s.2))) && (decide ((s.2 < (s.1.size : Int))))) then (bif (!(decide (((bt s.1 (Int.toNat s.2)) ≤ (57 : Int))))) then (bif ((decide (((0 : Int) ≤ s.2))) && (decide ((s.2 < (s.1.size : Int))))) then (bif (decide (((65 : Int) ≤ (bt s.1 (Int.toNat s.2))))) then (bif ((decide (((0 : Int) ≤ s.2))) && (decide ((s.2 < (s.1.size : Int))))) then (bif (!(decide (((bt s.1 (Int.toNat s.2)) ≤ (90 : Int))))) then (some (.inr (.inl false))) else (some (.inl (s.1, (IntKind.wrap .i64 (s.2 + (1 : Int))))))) else none) else (some (.inr (.inl false)))) else none) else (some (.inl (s.1, (IntKind.wrap .i64 (s.2 + (1 : Int))))))) else none) else (bif ((decide (((0 : Int) ≤ s.2))) && (decide ((s.2 < (s.1.size : Int))))) then (bif (decide (((65 : Int) ≤ (bt s.1 (Int.toNat s.2))))) then (bif ((decide (((0 : Int) ≤ s.2))) && (decide ((s.2 < (s.1.size : Int))))) then (bif (!(decide (((bt s.1 (Int.toNat s.2)) ≤ (90 : Int))))) then (some (.inr (.inl false))) else (some (.inl (s.1, (IntKind.wrap .i64 (s.2 + (1 : Int))))))) else none) else (some (.inr (.inl false)))) else none)) else none) else (some (.inr (.inr ()))))
theorem bursarref14_Ref.t6_ok : ∀ s : Vals bursarref14_Ref.sh6.tys, turnK P bursarref14_Ref.H (lp []) (bodyAt (codeOf P 36) 6) 0 bursarref14_Ref.sh6 bursarref14_Ref.os6 s some = bursarref14_Ref.t6 s := fun s => by kernel_rfl
noncomputable def bursarref14_Ref.l6 : (ByteArray × Int) → Option (Bool ⊕ Unit) := rounds bursarref14_Ref.t6
noncomputable def bursarref14_Ref.f (a : ByteArray) : Option Bool := (bif ((a.size : Int) != (12 : Int)) then (some false) else (((bursarref14_Ref.l6 (a, (0 : Int)))).bind fun x1 => (match x1 with | .inl x2 => (some x2) | .inr x2 => (some true))))
theorem bursarref14_Ref.ok : ∀ a : Vals bursarref14_Ref.As.tys, fnK P bursarref14_Ref.H (lp [(6, (NodeT.summ ⟨bursarref14_Ref.sh6, bursarref14_Ref.os6, bursarref14_Ref.l6⟩ 0))]) 36 bursarref14_Ref.As bursarref14_Ref.m a some = bursarref14_Ref.f a := fun a => by kernel_rfl
noncomputable abbrev bursarref14_Ref.row : Row := fnRow 36 bursarref14_Ref.As bursarref14_Ref.m bursarref14_Ref.f
theorem bursarref14_Ref.row_ok : RowOK P G0 bursarref14_Ref.row := row_told bursarref14_Ref.hok (lp_of (l := [(6, (NodeT.summ ⟨bursarref14_Ref.sh6, bursarref14_Ref.os6, bursarref14_Ref.l6⟩ 0))]) ⟨(loop_sum bursarref14_Ref.hok (by kernel_rfl) (by kernel_rfl) (l := []) trivial bursarref14_Ref.sh6 bursarref14_Ref.os6 (by kernel_rfl) bursarref14_Ref.t6 bursarref14_Ref.t6_ok), trivial⟩) (fun _ => rfl) bursarref14_Ref.ok
end Go.Proofs.YtpoiijkodpnobaaGreatDoor
end
section
set_option linter.unusedVariables false
set_option linter.unusedSimpArgs false
namespace Go.Proofs.YtpoiijkodpnobaaGreatDoor
open Go Go.Fw
def refC (s : ByteArray) (i : Nat) : Bool := (decide (48 ≤ bt s i) && decide (bt s i ≤ 57)) || (decide (65 ≤ bt s i) && decide (bt s i ≤ 90))
def refB (s : ByteArray) : Bool := s.size == 12 && (List.range s.size).all (refC s)
theorem hold_Ref_is (s : ByteArray) (hs : s.size ≤ 4611686018427387904) : hold_Ref.f s = some (refB s) := by
  have h := rounds_all (t := hold_Ref.t3) (fun i => (s, ((s.size : Int), (i : Int)))) (refC s) (.inl false) (.inr s) s.size (fun i hi => by
    have := bt_bound s i
    have := wrap_up (n := i) (by omega)
    grind [hold_Ref.t3, refC]) (by simp [hold_Ref.t3])
  unfold hold_Ref.f hold_Ref.l3
  rw [show ((0 : Int)) = ((0 : Nat) : Int) from rfl, h]
  unfold refB
  have e : ((s.size : Int) == 12) = (s.size == 12) := by rw [Bool.eq_iff_iff]; simp only [beq_iff_eq]; omega
  cases (List.range s.size).all (refC s) <;> simp [e]
theorem ref_Ref_is (s : ByteArray) : bursarref14_Ref.f s = some (refB s) := by
  unfold bursarref14_Ref.f refB
  by_cases hz : s.size = 12
  · have h := rounds_all (t := bursarref14_Ref.t6) (fun i => (s, (i : Int))) (refC s) (.inl false) (.inr ()) s.size (fun i hi => by
      have := bt_bound s i
      have := wrap_up (n := i) (by omega)
      grind [bursarref14_Ref.t6, refC]) (by simp [bursarref14_Ref.t6, hz])
    have e : ((s.size : Int) != 12) = false := by simp; omega
    have e2 : (s.size == 12) = true := by simp [hz]
    rw [e, e2]
    unfold bursarref14_Ref.l6
    rw [show ((0 : Int)) = ((0 : Nat) : Int) from rfl, h]
    cases (List.range s.size).all (refC s) <;> rfl
  · have e : ((s.size : Int) != 12) = true := by simp; omega
    have e2 : (s.size == 12) = false := by simp [hz]
    rw [e, e2]; rfl
def soundB (s : ByteArray) : Bool := decide (2 ≤ s.size) && (digitsB s && (luhn s % 10 == 0))
def cardB (s : ByteArray) : Bool := s.size == 16 && soundB s
def acqB (s : ByteArray) : Bool := s.size == 6 && digitsB s
theorem size_is {s : ByteArray} (n : Nat) : ((s.size : Int) == (n : Int)) = (s.size == n) := by rw [Bool.eq_iff_iff]; simp only [beq_iff_eq]; omega
theorem card_is (s : ByteArray) : chart_May.f (1, s) = some (cardB s) := by
  have e := size_is (s := s) 16
  unfold chart_May.f cardB
  by_cases h : s.size = 16
  · have := digit_Sound_is s (by omega)
    rw [show ((s.size : Int) == 16) = true from by simp; omega, show (s.size == 16) = true from by simp [h]]
    simp only [this, beq_self_eq_true, cond_true, Option.bind_some, Bool.true_and]
    rfl
  · rw [show ((s.size : Int) == 16) = false from by simp; omega, show (s.size == 16) = false from by simp [h]]
    rfl
theorem acq_is (s : ByteArray) : chart_May.f (2, s) = some (acqB s) := by
  unfold chart_May.f acqB
  by_cases h : s.size = 6
  · have := digit_All_is s (by omega)
    rw [show ((s.size : Int) == 6) = true from by simp; omega, show (s.size == 6) = true from by simp [h]]
    simp [this]
  · rw [show ((s.size : Int) == 6) = false from by simp; omega, show (s.size == 6) = false from by simp [h]]
    rfl
theorem ref_card_is (s : ByteArray) : ∃ t, bursarref11_Name.f (1, s) = some (t, cardB s) := by
  unfold bursarref11_Name.f cardB
  by_cases h : s.size = 16
  · have := ref_Sound_is s (by omega)
    have e : bursarref02_Sound.f s = some (soundB s) := this
    have b1 : Nat.ble (1 + s.size) 9223372036854775807 = true := by rw [h]; rfl
    rw [e, b1, show ((s.size : Int) == 16) = true from by simp; omega, show (s.size == 16) = true from by simp [h]]
    cases soundB s
    · exact ⟨_, rfl⟩
    · exact ⟨_, rfl⟩
  · rw [show ((s.size : Int) == 16) = false from by simp; omega, show (s.size == 16) = false from by simp [h]]
    simp
theorem ref_acq_is (s : ByteArray) : ∃ t, bursarref11_Name.f (2, s) = some (t, acqB s) := by
  unfold bursarref11_Name.f acqB
  by_cases h : s.size = 6
  · have := ref_All_is s (by omega)
    have b1 : Nat.ble (1 + s.size) 9223372036854775807 = true := by rw [h]; rfl
    rw [this, b1, show ((s.size : Int) == 6) = true from by simp; omega, show (s.size == 6) = true from by simp [h]]
    cases digitsB s
    · exact ⟨_, rfl⟩
    · exact ⟨_, rfl⟩
  · rw [show ((s.size : Int) == 6) = false from by simp; omega, show (s.size == 6) = false from by simp [h]]
    simp
end Go.Proofs.YtpoiijkodpnobaaGreatDoor
end
section
set_option linter.unusedVariables false
set_option maxRecDepth 100000
namespace Go.Proofs.YtpoiijkodpnobaaGreatDoor
open Go Go.Fw
abbrev money_Sum.As : Shs := (.cons (.x (.l (.i .i64))) .nil)
abbrev money_Sum.m : Back := [(false, (.i .i64)), (false, (.i .i64))]
noncomputable abbrev money_Sum.H : HK := hk P G0 E0 J0 [] noLoops 4
theorem money_Sum.rows : TabOK P G0 (tabF []) := rows_ok (ws := []) trivial
theorem money_Sum.hok : HKOK P money_Sum.H := hk_ok e0_ok j0_ok money_Sum.rows (fun g n => noLoops_ok g n) 4
noncomputable abbrev money_Sum.sh4 : SSh := ⟨[(4, (.x (.i .i64))), (5, (.x (.i .u64))), (10, (.x (.l (.i .i64)))), (11, (.x (.i .i64))), (12, (.x (.i .i64)))], []⟩
noncomputable abbrev money_Sum.os4 : PEnds := [((.exit 0), ⟨[(4, (.x (.i .i64))), (5, (.x (.i .u64)))], []⟩)]
noncomputable def money_Sum.t4 (s : (Int × (Int × ((List Int) × (Int × Int))))) : Option ((Int × (Int × ((List Int) × (Int × Int)))) ⊕ ((Int × Int))) := (bif (decide ((s.2.2.2.2 < s.2.2.2.1))) then (bif ((decide (((0 : Int) ≤ s.2.2.2.2))) && (decide ((s.2.2.2.2 < ((List.length s.2.2.1) : Int))))) then (bif ((((decide (((0 : Int) ≤ s.2.1))) && (decide (((0 : Int) ≤ (IntKind.wrap .u64 (List.getD s.2.2.1 (Int.toNat s.2.2.2.2) (0 : Int))))))) && true) && true) then (some (.inl ((IntKind.wrap .i64 (s.1 + (IntKind.wrap .i64 ((Int.fdiv (List.getD s.2.2.1 (Int.toNat s.2.2.2.2) (0 : Int)) (9223372036854775808 : Int)) + (IntKind.wrap .i64 (HDiv.hDiv ((s.2.1 + (IntKind.wrap .u64 (List.getD s.2.2.1 (Int.toNat s.2.2.2.2) (0 : Int)))) + (0 : Int)) (18446744073709551616 : Int))))))), ((HMod.hMod ((s.2.1 + (IntKind.wrap .u64 (List.getD s.2.2.1 (Int.toNat s.2.2.2.2) (0 : Int)))) + (0 : Int)) (18446744073709551616 : Int)), (s.2.2.1, (s.2.2.2.1, (IntKind.wrap .i64 (s.2.2.2.2 + (1 : Int))))))))) else none) else none) else (some (.inr (s.1, s.2.1))))
theorem money_Sum.t4_ok : ∀ s : Vals money_Sum.sh4.tys, turnK P money_Sum.H (lp []) (bodyAt (codeOf P 94) 4) 0 money_Sum.sh4 money_Sum.os4 s some = money_Sum.t4 s := fun s => by kernel_rfl
noncomputable def money_Sum.l4 : (Int × (Int × ((List Int) × (Int × Int)))) → Option ((Int × Int)) := rounds money_Sum.t4
noncomputable def money_Sum.f (a : (List Int)) : Option (Int × Int) := (((money_Sum.l4 ((0 : Int), ((0 : Int), (a, (((List.length a) : Int), (0 : Int))))))).bind fun x1 => (bif (x1.1 != (Int.fdiv (IntKind.wrap .i64 x1.2) (9223372036854775808 : Int))) then (some ((0 : Int), (2 : Int))) else (some ((IntKind.wrap .i64 x1.2), (0 : Int)))))
theorem money_Sum.ok : ∀ a : Vals money_Sum.As.tys, fnK P money_Sum.H (lp [(4, (NodeT.summ ⟨money_Sum.sh4, money_Sum.os4, money_Sum.l4⟩ 0))]) 94 money_Sum.As money_Sum.m a some = money_Sum.f a := fun a => by kernel_rfl
noncomputable abbrev money_Sum.row : Row := fnRow 94 money_Sum.As money_Sum.m money_Sum.f
theorem money_Sum.row_ok : RowOK P G0 money_Sum.row := row_told money_Sum.hok (lp_of (l := [(4, (NodeT.summ ⟨money_Sum.sh4, money_Sum.os4, money_Sum.l4⟩ 0))]) ⟨(loop_sum money_Sum.hok (by kernel_rfl) (by kernel_rfl) (l := []) trivial money_Sum.sh4 money_Sum.os4 (by kernel_rfl) money_Sum.t4 money_Sum.t4_ok), trivial⟩) (fun _ => rfl) money_Sum.ok
abbrev bursarref01_Sum.As : Shs := (.cons (.x (.l (.i .i64))) .nil)
abbrev bursarref01_Sum.m : Back := [(false, (.i .i64)), (false, .b)]
noncomputable abbrev bursarref01_Sum.H : HK := hk P G0 E0 J0 [] noLoops 4
theorem bursarref01_Sum.rows : TabOK P G0 (tabF []) := rows_ok (ws := []) trivial
theorem bursarref01_Sum.hok : HKOK P bursarref01_Sum.H := hk_ok e0_ok j0_ok bursarref01_Sum.rows (fun g n => noLoops_ok g n) 4
noncomputable abbrev bursarref01_Sum.sh4 : SSh := ⟨[(0, (.x (.l (.i .i64)))), (4, (.own 0 1)), (5, (.own 1 1)), (6, (.x (.i .i64)))], [.arrN (.i .i64), .arrN (.i .i64)]⟩
noncomputable abbrev bursarref01_Sum.os4 : PEnds := [((.exit 0), ⟨[(4, (.x (.l (.i .i64)))), (5, (.x (.l (.i .i64))))], []⟩)]
noncomputable def bursarref01_Sum.t4 (s : ((List Int) × (Int × ((List Int) × (List Int))))) : Option (((List Int) × (Int × ((List Int) × (List Int)))) ⊕ (((List Int) × (List Int)))) := (bif (decide ((s.2.1 < ((List.length s.1) : Int)))) then (bif ((decide (((0 : Int) ≤ s.2.1))) && (decide ((s.2.1 < ((List.length s.1) : Int))))) then (bif (decide (((List.getD s.1 (Int.toNat s.2.1) (0 : Int)) ≥ (0 : Int)))) then (bif ((decide (((0 : Int) ≤ s.2.1))) && (decide ((s.2.1 < ((List.length s.1) : Int))))) then (bif ((true && (Nat.ble (((List.length s.2.2.1) + (List.length ((List.getD s.1 (Int.toNat s.2.1) (0 : Int)) :: []))) * 8) 140737488355328)) && (Nat.ble ((List.length s.2.2.1) + (List.length ((List.getD s.1 (Int.toNat s.2.1) (0 : Int)) :: []))) 140737488355328)) then (some (.inl (s.1, ((IntKind.wrap .i64 (s.2.1 + (1 : Int))), ((s.2.2.1 ++ ((List.getD s.1 (Int.toNat s.2.1) (0 : Int)) :: [])), s.2.2.2))))) else none) else none) else (bif ((decide (((0 : Int) ≤ s.2.1))) && (decide ((s.2.1 < ((List.length s.1) : Int))))) then (bif ((true && (Nat.ble (((List.length s.2.2.2) + (List.length ((List.getD s.1 (Int.toNat s.2.1) (0 : Int)) :: []))) * 8) 140737488355328)) && (Nat.ble ((List.length s.2.2.2) + (List.length ((List.getD s.1 (Int.toNat s.2.1) (0 : Int)) :: []))) 140737488355328)) then (some (.inl (s.1, ((IntKind.wrap .i64 (s.2.1 + (1 : Int))), (s.2.2.1, (s.2.2.2 ++ ((List.getD s.1 (Int.toNat s.2.1) (0 : Int)) :: []))))))) else none) else none)) else none) else (some (.inr s.2.2)))
theorem bursarref01_Sum.t4_ok : ∀ s : Vals bursarref01_Sum.sh4.tys, turnK P bursarref01_Sum.H (lp []) (bodyAt (codeOf P 54) 4) 0 bursarref01_Sum.sh4 bursarref01_Sum.os4 s some = bursarref01_Sum.t4 s := by rintro ⟨s0, s1, s2, s3⟩; cases s2 <;> cases s3 <;> kernel_rfl
noncomputable def bursarref01_Sum.l4 : ((List Int) × (Int × ((List Int) × (List Int)))) → Option (((List Int) × (List Int))) := rounds bursarref01_Sum.t4
noncomputable abbrev bursarref01_Sum.sh8 : SSh := ⟨[(4, (.x (.l (.i .i64)))), (5, (.x (.l (.i .i64)))), (7, (.x (.i .i64))), (8, (.x (.i .i64))), (9, (.x (.i .i64)))], []⟩
noncomputable abbrev bursarref01_Sum.sh8_0 : SSh := ⟨[(4, (.x (.l (.i .i64)))), (5, (.x (.l (.i .i64)))), (7, (.x (.i .i64))), (8, (.x (.i .i64))), (9, (.x (.i .i64)))], []⟩
noncomputable abbrev bursarref01_Sum.os8_0 : PEnds := [(.n, ⟨[(4, (.x (.l (.i .i64)))), (5, (.x (.l (.i .i64)))), (7, (.x (.i .i64))), (8, (.x (.i .i64))), (9, (.x (.i .i64))), (45, (.x .b))], []⟩)]
noncomputable def bursarref01_Sum.l8_0 (s : ((List Int) × ((List Int) × (Int × (Int × Int))))) : Option (((List Int) × ((List Int) × (Int × (Int × (Int × Bool)))))) := (bif (decide ((s.2.2.2.1 < ((List.length s.1) : Int)))) then (some (s.1, (s.2.1, (s.2.2.1, (s.2.2.2.1, (s.2.2.2.2, true)))))) else (some (s.1, (s.2.1, (s.2.2.1, (s.2.2.2.1, (s.2.2.2.2, (decide ((s.2.2.2.2 < ((List.length s.2.1) : Int)))))))))))
theorem bursarref01_Sum.l8_0_ok : ∀ s : Vals bursarref01_Sum.sh8_0.tys, nodeK P bursarref01_Sum.H (lp []) (placeAt (bodyAt (codeOf P 54) 8) 0) 0 bursarref01_Sum.sh8_0 bursarref01_Sum.os8_0 s some = bursarref01_Sum.l8_0 s := fun s => by kernel_rfl
noncomputable abbrev bursarref01_Sum.sh8_4 : SSh := ⟨[(4, (.x (.l (.i .i64)))), (5, (.x (.l (.i .i64)))), (7, (.x (.i .i64))), (8, (.x (.i .i64))), (9, (.x (.i .i64)))], []⟩
noncomputable abbrev bursarref01_Sum.os8_4 : PEnds := [(.n, ⟨[(4, (.x (.l (.i .i64)))), (5, (.x (.l (.i .i64)))), (7, (.x (.i .i64))), (8, (.x (.i .i64))), (9, (.x (.i .i64))), (59, (.x .b))], []⟩)]
noncomputable def bursarref01_Sum.l8_4 (s : ((List Int) × ((List Int) × (Int × (Int × Int))))) : Option (((List Int) × ((List Int) × (Int × (Int × (Int × Bool)))))) := (bif (decide ((s.2.2.2.2 ≥ ((List.length s.2.1) : Int)))) then (some (s.1, (s.2.1, (s.2.2.1, (s.2.2.2.1, (s.2.2.2.2, true)))))) else (bif (decide ((s.2.2.2.1 < ((List.length s.1) : Int)))) then (some (s.1, (s.2.1, (s.2.2.1, (s.2.2.2.1, (s.2.2.2.2, (decide ((s.2.2.1 < (0 : Int)))))))))) else (some (s.1, (s.2.1, (s.2.2.1, (s.2.2.2.1, (s.2.2.2.2, false))))))))
theorem bursarref01_Sum.l8_4_ok : ∀ s : Vals bursarref01_Sum.sh8_4.tys, nodeK P bursarref01_Sum.H (lp []) (placeAt (bodyAt (codeOf P 54) 8) 4) 0 bursarref01_Sum.sh8_4 bursarref01_Sum.os8_4 s some = bursarref01_Sum.l8_4 s := fun s => by kernel_rfl
noncomputable abbrev bursarref01_Sum.sh8_5 : SSh := ⟨[(4, (.x (.l (.i .i64)))), (5, (.x (.l (.i .i64)))), (7, (.x (.i .i64))), (8, (.x (.i .i64))), (9, (.x (.i .i64))), (59, (.x .b))], []⟩
noncomputable abbrev bursarref01_Sum.os8_5 : PEnds := [(.n, ⟨[(4, (.x (.l (.i .i64)))), (5, (.x (.l (.i .i64)))), (7, (.x (.i .i64))), (8, (.x (.i .i64))), (9, (.x (.i .i64))), (10, (.x (.i .i64)))], []⟩)]
noncomputable def bursarref01_Sum.l8_5 (s : ((List Int) × ((List Int) × (Int × (Int × (Int × Bool)))))) : Option (((List Int) × ((List Int) × (Int × (Int × (Int × Int)))))) := (bif s.2.2.2.2.2 then (bif ((decide (((0 : Int) ≤ s.2.2.2.1))) && (decide ((s.2.2.2.1 < ((List.length s.1) : Int))))) then (some (s.1, (s.2.1, (s.2.2.1, ((IntKind.wrap .i64 (s.2.2.2.1 + (1 : Int))), (s.2.2.2.2.1, (List.getD s.1 (Int.toNat s.2.2.2.1) (0 : Int)))))))) else none) else (bif ((decide (((0 : Int) ≤ s.2.2.2.2.1))) && (decide ((s.2.2.2.2.1 < ((List.length s.2.1) : Int))))) then (some (s.1, (s.2.1, (s.2.2.1, (s.2.2.2.1, ((IntKind.wrap .i64 (s.2.2.2.2.1 + (1 : Int))), (List.getD s.2.1 (Int.toNat s.2.2.2.2.1) (0 : Int)))))))) else none))
theorem bursarref01_Sum.l8_5_ok : ∀ s : Vals bursarref01_Sum.sh8_5.tys, nodeK P bursarref01_Sum.H (lp []) (placeAt (bodyAt (codeOf P 54) 8) 5) 0 bursarref01_Sum.sh8_5 bursarref01_Sum.os8_5 s some = bursarref01_Sum.l8_5 s := fun s => by kernel_rfl
noncomputable abbrev bursarref01_Sum.sh8_10 : SSh := ⟨[(4, (.x (.l (.i .i64)))), (5, (.x (.l (.i .i64)))), (7, (.x (.i .i64))), (8, (.x (.i .i64))), (9, (.x (.i .i64))), (10, (.x (.i .i64)))], []⟩
noncomputable abbrev bursarref01_Sum.os8_10 : PEnds := [(.n, ⟨[(4, (.x (.l (.i .i64)))), (5, (.x (.l (.i .i64)))), (7, (.x (.i .i64))), (8, (.x (.i .i64))), (9, (.x (.i .i64))), (10, (.x (.i .i64))), (89, (.x .b))], []⟩)]
noncomputable def bursarref01_Sum.l8_10 (s : ((List Int) × ((List Int) × (Int × (Int × (Int × Int)))))) : Option (((List Int) × ((List Int) × (Int × (Int × (Int × (Int × Bool))))))) := (bif (decide ((s.2.2.2.2.2 > (0 : Int)))) then (bif (decide ((s.2.2.1 > (IntKind.wrap .i64 ((9223372036854775807 : Int) - s.2.2.2.2.2))))) then (some (s.1, (s.2.1, (s.2.2.1, (s.2.2.2.1, (s.2.2.2.2.1, (s.2.2.2.2.2, true))))))) else (bif (decide ((s.2.2.2.2.2 < (0 : Int)))) then (some (s.1, (s.2.1, (s.2.2.1, (s.2.2.2.1, (s.2.2.2.2.1, (s.2.2.2.2.2, (decide ((s.2.2.1 < (IntKind.wrap .i64 ((-9223372036854775808 : Int) - s.2.2.2.2.2)))))))))))) else (some (s.1, (s.2.1, (s.2.2.1, (s.2.2.2.1, (s.2.2.2.2.1, (s.2.2.2.2.2, false))))))))) else (bif (decide ((s.2.2.2.2.2 < (0 : Int)))) then (some (s.1, (s.2.1, (s.2.2.1, (s.2.2.2.1, (s.2.2.2.2.1, (s.2.2.2.2.2, (decide ((s.2.2.1 < (IntKind.wrap .i64 ((-9223372036854775808 : Int) - s.2.2.2.2.2)))))))))))) else (some (s.1, (s.2.1, (s.2.2.1, (s.2.2.2.1, (s.2.2.2.2.1, (s.2.2.2.2.2, false)))))))))
theorem bursarref01_Sum.l8_10_ok : ∀ s : Vals bursarref01_Sum.sh8_10.tys, nodeK P bursarref01_Sum.H (lp []) (placeAt (bodyAt (codeOf P 54) 8) 10) 0 bursarref01_Sum.sh8_10 bursarref01_Sum.os8_10 s some = bursarref01_Sum.l8_10 s := fun s => by kernel_rfl
noncomputable abbrev bursarref01_Sum.os8 : PEnds := [(.ret, ⟨[(2, (.x (.i .i64))), (3, (.x .b))], []⟩), ((.exit 2), ⟨[(7, (.x (.i .i64)))], []⟩)]
noncomputable def bursarref01_Sum.t8 (s : ((List Int) × ((List Int) × (Int × (Int × Int))))) : Option (((List Int) × ((List Int) × (Int × (Int × Int)))) ⊕ ((Int × Bool) ⊕ Int)) := (((bursarref01_Sum.l8_0 s)).bind fun x5 => (bif x5.2.2.2.2.2 then (((bursarref01_Sum.l8_4 (x5.1, (x5.2.1, (x5.2.2.1, (x5.2.2.2.1, x5.2.2.2.2.1)))))).bind fun x6 => (((bursarref01_Sum.l8_5 x6)).bind fun x7 => (((bursarref01_Sum.l8_10 x7)).bind fun x8 => (bif x8.2.2.2.2.2.2 then (some (.inr (.inl ((0 : Int), false)))) else (some (.inl (x8.1, (x8.2.1, ((IntKind.wrap .i64 (x8.2.2.1 + x8.2.2.2.2.2.1)), (x8.2.2.2.1, x8.2.2.2.2.1)))))))))) else (some (.inr (.inr x5.2.2.1)))))
theorem bursarref01_Sum.t8_ok : ∀ s : Vals bursarref01_Sum.sh8.tys, turnK P bursarref01_Sum.H (lp [(0, (NodeT.summ ⟨bursarref01_Sum.sh8_0, bursarref01_Sum.os8_0, bursarref01_Sum.l8_0⟩ 0)), (4, (NodeT.summ ⟨bursarref01_Sum.sh8_4, bursarref01_Sum.os8_4, bursarref01_Sum.l8_4⟩ 0)), (5, (NodeT.summ ⟨bursarref01_Sum.sh8_5, bursarref01_Sum.os8_5, bursarref01_Sum.l8_5⟩ 0)), (10, (NodeT.summ ⟨bursarref01_Sum.sh8_10, bursarref01_Sum.os8_10, bursarref01_Sum.l8_10⟩ 0))]) (bodyAt (codeOf P 54) 8) 0 bursarref01_Sum.sh8 bursarref01_Sum.os8 s some = bursarref01_Sum.t8 s := fun s => by kernel_rfl
noncomputable def bursarref01_Sum.l8 : ((List Int) × ((List Int) × (Int × (Int × Int)))) → Option ((Int × Bool) ⊕ Int) := rounds bursarref01_Sum.t8
noncomputable def bursarref01_Sum.f (a : (List Int)) : Option (Int × Bool) := (((bursarref01_Sum.l4 (a, ((0 : Int), ([], []))))).bind fun x1 => (((bursarref01_Sum.l8 (x1.1, (x1.2, ((0 : Int), ((0 : Int), (0 : Int))))))).bind fun x2 => (match x2 with | .inl x3 => (some x3) | .inr x3 => (some (x3, true)))))
theorem bursarref01_Sum.ok : ∀ a : Vals bursarref01_Sum.As.tys, fnK P bursarref01_Sum.H (lp [(4, (NodeT.summ ⟨bursarref01_Sum.sh4, bursarref01_Sum.os4, bursarref01_Sum.l4⟩ 0)), (8, (NodeT.summ ⟨bursarref01_Sum.sh8, bursarref01_Sum.os8, bursarref01_Sum.l8⟩ 0))]) 54 bursarref01_Sum.As bursarref01_Sum.m a some = bursarref01_Sum.f a := fun a => by kernel_rfl
noncomputable abbrev bursarref01_Sum.row : Row := fnRow 54 bursarref01_Sum.As bursarref01_Sum.m bursarref01_Sum.f
theorem bursarref01_Sum.row_ok : RowOK P G0 bursarref01_Sum.row := row_told bursarref01_Sum.hok (lp_of (l := [(4, (NodeT.summ ⟨bursarref01_Sum.sh4, bursarref01_Sum.os4, bursarref01_Sum.l4⟩ 0)), (8, (NodeT.summ ⟨bursarref01_Sum.sh8, bursarref01_Sum.os8, bursarref01_Sum.l8⟩ 0))]) ⟨(loop_sum bursarref01_Sum.hok (by kernel_rfl) (by kernel_rfl) (l := []) trivial bursarref01_Sum.sh4 bursarref01_Sum.os4 (by kernel_rfl) bursarref01_Sum.t4 bursarref01_Sum.t4_ok), ⟨(loop_sum bursarref01_Sum.hok (by kernel_rfl) (by kernel_rfl) (l := [(0, (NodeT.summ ⟨bursarref01_Sum.sh8_0, bursarref01_Sum.os8_0, bursarref01_Sum.l8_0⟩ 0)), (4, (NodeT.summ ⟨bursarref01_Sum.sh8_4, bursarref01_Sum.os8_4, bursarref01_Sum.l8_4⟩ 0)), (5, (NodeT.summ ⟨bursarref01_Sum.sh8_5, bursarref01_Sum.os8_5, bursarref01_Sum.l8_5⟩ 0)), (10, (NodeT.summ ⟨bursarref01_Sum.sh8_10, bursarref01_Sum.os8_10, bursarref01_Sum.l8_10⟩ 0))]) ⟨(place_sum bursarref01_Sum.hok (by kernel_rfl) (l := []) trivial bursarref01_Sum.sh8_0 bursarref01_Sum.os8_0 bursarref01_Sum.l8_0 bursarref01_Sum.l8_0_ok), ⟨(place_sum bursarref01_Sum.hok (by kernel_rfl) (l := []) trivial bursarref01_Sum.sh8_4 bursarref01_Sum.os8_4 bursarref01_Sum.l8_4 bursarref01_Sum.l8_4_ok), ⟨(place_sum bursarref01_Sum.hok (by kernel_rfl) (l := []) trivial bursarref01_Sum.sh8_5 bursarref01_Sum.os8_5 bursarref01_Sum.l8_5 bursarref01_Sum.l8_5_ok), ⟨(place_sum bursarref01_Sum.hok (by kernel_rfl) (l := []) trivial bursarref01_Sum.sh8_10 bursarref01_Sum.os8_10 bursarref01_Sum.l8_10 bursarref01_Sum.l8_10_ok), trivial⟩⟩⟩⟩ bursarref01_Sum.sh8 bursarref01_Sum.os8 (by kernel_rfl) bursarref01_Sum.t8 bursarref01_Sum.t8_ok), trivial⟩⟩) (fun _ => rfl) bursarref01_Sum.ok
end Go.Proofs.YtpoiijkodpnobaaGreatDoor
end
section
set_option linter.unusedVariables false
set_option linter.unusedSimpArgs false
namespace Go.Proofs.YtpoiijkodpnobaaGreatDoor
open Go Go.Fw
def fits (n : Int) : Bool := decide (-9223372036854775808 ≤ n) && decide (n ≤ 9223372036854775807)
def Amounts (l : List Int) : Prop := ∀ a ∈ l, -9223372036854775808 ≤ a ∧ a ≤ 9223372036854775807
theorem Amounts.at {l : List Int} (h : Amounts l) {i : Nat} (hi : i < l.length) : -9223372036854775808 ≤ l.getD i 0 ∧ l.getD i 0 ≤ 9223372036854775807 := by
  rw [getD_at hi]
  exact h _ (List.getElem_mem hi)
def upTo (l : List Int) (i : Nat) : Int := (l.take i).sum
theorem upTo_succ {l : List Int} {i : Nat} (h : i < l.length) : upTo l (i + 1) = upTo l i + l.getD i 0 := by
  unfold upTo
  rw [take_up 0 h, List.sum_append]
  simp
theorem upTo_bound {l : List Int} (h : Amounts l) : ∀ i : Nat, i ≤ l.length → -9223372036854775808 * (i : Int) ≤ upTo l i ∧ upTo l i ≤ 9223372036854775807 * (i : Int)
  | 0, _ => by simp [upTo]
  | i + 1, hi => by
    have ih := upTo_bound h i (by omega)
    have := h.at (i := i) (by omega)
    rw [upTo_succ (by omega)]
    omega
theorem wrap_back {n : Int} (h0 : 0 ≤ n) (h1 : n < 18446744073709551616) : IntKind.wrap .i64 n = if n ≥ 9223372036854775808 then n - 18446744073709551616 else n := by
  rw [IntKind.wrap_i64]; split <;> omega
def sumS (n : Int) : Int × Int := bif fits n then (n, 0) else (0, 2)
theorem money_Sum_is {l : List Int} (hs : l.length ≤ 4611686018427387904) (ha : Amounts l) : money_Sum.f l = some (sumS l.sum) := by
  have h := rounds_to (t := money_Sum.t4) (fun i => (upTo l i / 18446744073709551616, (upTo l i % 18446744073709551616, (l, ((l.length : Int), (i : Int)))))) l.length (fun i hi => by
    have h2 := wrap_up (n := i) (by omega)
    obtain ⟨hb1, hb2⟩ := upTo_bound ha i (by omega)
    obtain ⟨ha1, ha2⟩ := ha.at (i := i) (by omega)
    simp only [money_Sum.t4, Int.toNat_natCast, h2]
    rw [upTo_succ (by omega)]
    obtain ⟨a, hg⟩ : ∃ a, l.getD i 0 = a := ⟨_, rfl⟩
    obtain ⟨T, hT⟩ : ∃ T, upTo l i = T := ⟨_, rfl⟩
    simp only [hg, hT] at ha1 ha2 hb1 hb2 ⊢
    have d1 : (decide ((i : Int) < (l.length : Int))) = true := decide_eq_true (by omega)
    have d3 : decide ((0 : Int) ≤ (i : Int)) = true := decide_eq_true (by omega)
    have d4 : decide ((0 : Int) ≤ T % 18446744073709551616) = true := decide_eq_true (by omega)
    have d5 : decide ((0 : Int) ≤ IntKind.wrap .u64 a) = true := decide_eq_true (by rw [wrap_u64]; omega)
    have c5 : (T % 18446744073709551616 + IntKind.wrap .u64 a + 0) % 18446744073709551616 = (T + a) % 18446744073709551616 := by rw [wrap_u64]; omega
    have c4 : IntKind.wrap .i64 (T / 18446744073709551616 + IntKind.wrap .i64 (Int.fdiv a 9223372036854775808 + IntKind.wrap .i64 ((T % 18446744073709551616 + IntKind.wrap .u64 a + 0) / 18446744073709551616))) = (T + a) / 18446744073709551616 := by
      rw [wrap_u64, Int.fdiv_eq_ediv_of_nonneg a (by omega)]
      have w1 : IntKind.wrap .i64 ((T % 18446744073709551616 + a % 18446744073709551616 + 0) / 18446744073709551616) = (T % 18446744073709551616 + a % 18446744073709551616 + 0) / 18446744073709551616 := wrap_i64 (by omega) (by omega)
      rw [w1]
      have w2 : IntKind.wrap .i64 (a / 9223372036854775808 + (T % 18446744073709551616 + a % 18446744073709551616 + 0) / 18446744073709551616) = a / 9223372036854775808 + (T % 18446744073709551616 + a % 18446744073709551616 + 0) / 18446744073709551616 := wrap_i64 (by omega) (by omega)
      rw [w2, wrap_i64 (by omega) (by omega)]
      omega
    simp only [d1, d3, d4, d5, c4, c5, Bool.and_self, cond_true])
  have e : upTo l l.length = l.sum := by unfold upTo; rw [List.take_length]
  have hb := upTo_bound ha l.length (Nat.le_refl _)
  unfold money_Sum.f money_Sum.l4
  have h0 : ((0 : Int), ((0 : Int), (l, ((l.length : Int), (0 : Int))))) = (upTo l 0 / 18446744073709551616, (upTo l 0 % 18446744073709551616, (l, ((l.length : Int), ((0 : Nat) : Int))))) := rfl
  rw [h0, h, e, rounds_end (r := (l.sum / 18446744073709551616, l.sum % 18446744073709551616)) (by simp [money_Sum.t4])]
  rw [e] at hb
  simp only [Option.bind_some]
  unfold sumS
  generalize l.sum = s at hb ⊢
  have hw := wrap_back (n := s % 18446744073709551616) (by omega) (by omega)
  rw [hw, Int.fdiv_eq_ediv_of_nonneg _ (by omega)]
  by_cases hf : fits s = true
  · have hf' := hf
    simp only [fits, Bool.and_eq_true, decide_eq_true_eq] at hf'
    rw [hf]
    by_cases hn : s % 18446744073709551616 ≥ 9223372036854775808
    · rw [if_pos hn]
      have e : (s / 18446744073709551616 != (s % 18446744073709551616 - 18446744073709551616) / 9223372036854775808) = false := by simp; omega
      have e2 : s % 18446744073709551616 - 18446744073709551616 = s := by omega
      rw [e, e2]; rfl
    · rw [if_neg hn]
      have e : (s / 18446744073709551616 != s % 18446744073709551616 / 9223372036854775808) = false := by simp; omega
      have e2 : s % 18446744073709551616 = s := by omega
      rw [e, e2]; rfl
  · have hf' := hf
    simp only [fits, Bool.and_eq_true, decide_eq_true_eq] at hf'
    rw [Bool.eq_false_iff.mpr hf]
    by_cases hn : s % 18446744073709551616 ≥ 9223372036854775808
    · rw [if_pos hn]
      have e : (s / 18446744073709551616 != (s % 18446744073709551616 - 18446744073709551616) / 9223372036854775808) = true := by simp; omega
      rw [e]; rfl
    · rw [if_neg hn]
      have e : (s / 18446744073709551616 != s % 18446744073709551616 / 9223372036854775808) = true := by simp; omega
      rw [e]; rfl
def ups (l : List Int) : List Int := l.filter fun a => decide (0 ≤ a)
def downs (l : List Int) : List Int := l.filter fun a => !decide (0 ≤ a)
theorem ups_len (l : List Int) : (ups l).length ≤ l.length := List.length_filter_le _ _
theorem downs_len (l : List Int) : (downs l).length ≤ l.length := List.length_filter_le _ _
theorem ups_sum : ∀ l : List Int, (ups l).sum + (downs l).sum = l.sum
  | [] => rfl
  | a :: l => by
    have ih := ups_sum l
    unfold ups downs at *
    by_cases h : 0 ≤ a
    · simp [h]; omega
    · simp [h]; omega
theorem split_is {l : List Int} (hs : l.length ≤ 17592186044415) : bursarref01_Sum.l4 (l, ((0 : Int), ([], []))) = some (ups l, downs l) := by
  have h := rounds_to (t := bursarref01_Sum.t4) (fun i => (l, ((i : Int), (ups (l.take i), downs (l.take i))))) l.length (fun i hi => by
    have h2 := wrap_up (n := i) (by omega)
    have hu := ups_len (l.take i)
    have hd := downs_len (l.take i)
    rw [List.length_take] at hu hd
    have d1 : (decide ((i : Int) < (l.length : Int))) = true := decide_eq_true (by omega)
    have d3 : decide ((0 : Int) ≤ (i : Int)) = true := decide_eq_true (by omega)
    simp only [bursarref01_Sum.t4, Int.toNat_natCast, h2, d1, d3, Bool.and_self, cond_true]
    rw [take_up 0 hi]
    obtain ⟨a, hg⟩ : ∃ a, l.getD i 0 = a := ⟨_, rfl⟩
    simp only [hg]
    unfold ups at hu ⊢
    unfold downs at hd ⊢
    rw [List.filter_append, List.filter_append]
    have b1 : Nat.ble ((List.length ((l.take i).filter fun a => decide (0 ≤ a)) + List.length [a]) * 8) 140737488355328 = true := Nat.ble_eq_true_of_le (by simp only [List.length_cons, List.length_nil]; omega)
    have b2 : Nat.ble (List.length ((l.take i).filter fun a => decide (0 ≤ a)) + List.length [a]) 140737488355328 = true := Nat.ble_eq_true_of_le (by simp only [List.length_cons, List.length_nil]; omega)
    have b3 : Nat.ble ((List.length ((l.take i).filter fun a => !decide (0 ≤ a)) + List.length [a]) * 8) 140737488355328 = true := Nat.ble_eq_true_of_le (by simp only [List.length_cons, List.length_nil]; omega)
    have b4 : Nat.ble (List.length ((l.take i).filter fun a => !decide (0 ≤ a)) + List.length [a]) 140737488355328 = true := Nat.ble_eq_true_of_le (by simp only [List.length_cons, List.length_nil]; omega)
    rw [b1, b2, b3, b4]
    by_cases h : 0 ≤ a <;> simp [h])
  unfold bursarref01_Sum.l4
  have h0 : (l, ((0 : Int), (([] : List Int), ([] : List Int)))) = (l, (((0 : Nat) : Int), (ups (l.take 0), downs (l.take 0)))) := rfl
  rw [h0, h, List.take_length, rounds_end (r := (ups l, downs l)) (by simp [bursarref01_Sum.t4])]
open bursarref01_Sum in
theorem sum_end {u d : List Int} {s : Int} {i k : Nat} (h1 : u.length ≤ i) (h2 : d.length ≤ k) : t8 (u, (d, (s, ((i : Int), (k : Int))))) = some (.inr (.inr s)) := by
  have d1 : decide ((i : Int) < (u.length : Int)) = false := decide_eq_false (by omega)
  have d2 : decide ((k : Int) < (d.length : Int)) = false := decide_eq_false (by omega)
  simp only [t8, l8_0, d1, d2, cond_false, Option.bind_some]
open bursarref01_Sum in
theorem sum_up {u d : List Int} {s : Int} {i k : Nat} (h1 : i < u.length) (hu : u.length ≤ 4611686018427387904) (h2 : d.length ≤ k ∨ s < 0) (ha : 0 ≤ u.getD i 0 ∧ u.getD i 0 ≤ 9223372036854775807) (hs : -9223372036854775808 ≤ s ∧ s ≤ 9223372036854775807) :
    t8 (u, (d, (s, ((i : Int), (k : Int))))) = some (bif decide (s + u.getD i 0 ≤ 9223372036854775807) then .inl (u, (d, (s + u.getD i 0, (((i + 1 : Nat) : Int), (k : Int))))) else .inr (.inl (0, false))) := by
  have w := wrap_up (n := i) (by omega)
  have d1 : decide ((i : Int) < (u.length : Int)) = true := decide_eq_true (by omega)
  have d2 : decide ((0 : Int) ≤ (i : Int)) = true := decide_eq_true (by omega)
  have e4 : l8_4 (u, (d, (s, ((i : Int), (k : Int))))) = some (u, (d, (s, ((i : Int), ((k : Int), true))))) := by
    unfold l8_4
    rcases h2 with h2 | h2
    · simp only [show decide (((k : Int)) ≥ (d.length : Int)) = true from decide_eq_true (by omega), cond_true]
    · simp only [d1, show decide (s < 0) = true from decide_eq_true h2]
      cases decide (((k : Int)) ≥ (d.length : Int)) <;> rfl
  have e5 : l8_5 (u, (d, (s, ((i : Int), ((k : Int), true))))) = some (u, (d, (s, (((i + 1 : Nat) : Int), ((k : Int), u.getD i 0))))) := by
    simp only [l8_5, Int.toNat_natCast, w, d1, d2, Bool.and_self, cond_true]
  simp only [t8, l8_0, d1, cond_true, Option.bind_some, e4, e5]
  generalize u.getD i 0 = a at ha
  have w1 : IntKind.wrap .i64 (9223372036854775807 - a) = 9223372036854775807 - a := wrap_i64 (by omega) (by omega)
  have nlt : decide (a < 0) = false := decide_eq_false (by omega)
  by_cases hx : s + a ≤ 9223372036854775807
  · have w2 : IntKind.wrap .i64 (s + a) = s + a := wrap_i64 (by omega) (by omega)
    have n2 : decide (s > 9223372036854775807 - a) = false := decide_eq_false (by omega)
    simp only [l8_10, w1, nlt, n2, decide_eq_true hx]
    cases decide (a > 0) <;> simp [w2]
  · have p1 : decide (a > 0) = true := decide_eq_true (by omega)
    have p2 : decide (s > 9223372036854775807 - a) = true := decide_eq_true (by omega)
    simp only [l8_10, w1, nlt, p1, p2, decide_eq_false hx]
    rfl
open bursarref01_Sum in
theorem sum_down {u d : List Int} {s : Int} {i k : Nat} (h1 : k < d.length) (hd : d.length ≤ 4611686018427387904) (h2 : ¬ (i < u.length ∧ s < 0)) (ha : -9223372036854775808 ≤ d.getD k 0 ∧ d.getD k 0 < 0) (hs : -9223372036854775808 ≤ s ∧ s ≤ 9223372036854775807) :
    t8 (u, (d, (s, ((i : Int), (k : Int))))) = some (bif decide (-9223372036854775808 ≤ s + d.getD k 0) then .inl (u, (d, (s + d.getD k 0, ((i : Int), ((k + 1 : Nat) : Int))))) else .inr (.inl (0, false))) := by
  have w := wrap_up (n := k) (by omega)
  have d1 : decide ((k : Int) < (d.length : Int)) = true := decide_eq_true (by omega)
  have d2 : decide ((0 : Int) ≤ (k : Int)) = true := decide_eq_true (by omega)
  have d3 : decide ((k : Int) ≥ (d.length : Int)) = false := decide_eq_false (by omega)
  have e0 : l8_0 (u, (d, (s, ((i : Int), (k : Int))))) = some (u, (d, (s, ((i : Int), ((k : Int), true))))) := by
    simp only [l8_0, d1]
    cases decide ((i : Int) < (u.length : Int)) <;> rfl
  have e4 : l8_4 (u, (d, (s, ((i : Int), (k : Int))))) = some (u, (d, (s, ((i : Int), ((k : Int), false))))) := by
    simp only [l8_4, d3]
    by_cases hi : i < u.length
    · rw [show decide (s < 0) = false from decide_eq_false fun h => h2 ⟨hi, h⟩]
      cases decide ((i : Int) < (u.length : Int)) <;> rfl
    · rw [show decide ((i : Int) < (u.length : Int)) = false from decide_eq_false (by omega)]; rfl
  have e5 : l8_5 (u, (d, (s, ((i : Int), ((k : Int), false))))) = some (u, (d, (s, ((i : Int), (((k + 1 : Nat) : Int), d.getD k 0))))) := by
    simp only [l8_5, Int.toNat_natCast, w, d1, d2, Bool.and_self, cond_true, cond_false]
  simp only [t8, e0, cond_true, Option.bind_some, e4, e5]
  generalize d.getD k 0 = a at ha
  have w1 : IntKind.wrap .i64 (-9223372036854775808 - a) = -9223372036854775808 - a := wrap_i64 (by omega) (by omega)
  have ngt : decide (a > 0) = false := decide_eq_false (by omega)
  have plt : decide (a < 0) = true := decide_eq_true (by omega)
  by_cases hx : -9223372036854775808 ≤ s + a
  · have w2 : IntKind.wrap .i64 (s + a) = s + a := wrap_i64 (by omega) (by omega)
    have n2 : decide (s < -9223372036854775808 - a) = false := decide_eq_false (by omega)
    simp only [l8_10, w1, ngt, plt, n2, decide_eq_true hx, cond_false, cond_true, Option.bind_some, w2]
  · have p2 : decide (s < -9223372036854775808 - a) = true := decide_eq_true (by omega)
    simp only [l8_10, w1, ngt, plt, p2, decide_eq_false hx, cond_false, cond_true, Option.bind_some]
theorem drop_sum {l : List Int} {i : Nat} (h : i < l.length) : (l.drop i).sum = l.getD i 0 + (l.drop (i + 1)).sum := by
  rw [List.drop_eq_getElem_cons h, List.sum_cons, getD_at h]
theorem nonneg_sum : ∀ {l : List Int}, (∀ a ∈ l, 0 ≤ a) → 0 ≤ l.sum
  | [], _ => by simp
  | a :: l, h => by
    have := nonneg_sum (l := l) fun b hb => h b (List.mem_cons_of_mem _ hb)
    have := h a List.mem_cons_self
    rw [List.sum_cons]; omega
theorem neg_sum : ∀ {l : List Int}, (∀ a ∈ l, a < 0) → l.sum ≤ 0
  | [], _ => by simp
  | a :: l, h => by
    have := neg_sum (l := l) fun b hb => h b (List.mem_cons_of_mem _ hb)
    have := h a List.mem_cons_self
    rw [List.sum_cons]; omega
theorem mix_is {u d : List Int} (hu : u.length ≤ 4611686018427387904) (hd : d.length ≤ 4611686018427387904) (hua : ∀ a ∈ u, 0 ≤ a ∧ a ≤ 9223372036854775807) (hda : ∀ a ∈ d, -9223372036854775808 ≤ a ∧ a < 0) (m : Nat) :
    ∀ (i k : Nat) (s : Int), u.length - i + (d.length - k) = m → -9223372036854775808 ≤ s ∧ s ≤ 9223372036854775807 →
      bursarref01_Sum.l8 (u, (d, (s, ((i : Int), (k : Int))))) = some (bif fits (s + (u.drop i).sum + (d.drop k).sum) then .inr (s + (u.drop i).sum + (d.drop k).sum) else .inl (0, false)) := by
  have un : ∀ i, 0 ≤ (u.drop i).sum := fun i => nonneg_sum fun a ha => (hua a (List.mem_of_mem_drop ha)).1
  have dn : ∀ k, (d.drop k).sum ≤ 0 := fun k => neg_sum fun a ha => (hda a (List.mem_of_mem_drop ha)).2
  induction m with
  | zero =>
    intro i k s hm hs
    unfold bursarref01_Sum.l8
    rw [rounds_end (sum_end (by omega) (by omega)), List.drop_eq_nil_of_le (by omega), List.drop_eq_nil_of_le (by omega)]
    simp [fits, hs.1, hs.2]
  | succ m ih =>
    intro i k s hm hs
    unfold bursarref01_Sum.l8 at ih ⊢
    by_cases hc : i < u.length ∧ (d.length ≤ k ∨ s < 0)
    · obtain ⟨h1, h2⟩ := hc
      have ha := hua (u.getD i 0) (by rw [getD_at h1]; exact List.getElem_mem h1)
      have h := sum_up h1 hu h2 ha hs
      rw [drop_sum h1]
      have un' := un (i + 1)
      generalize hg : u.getD i 0 = a at ha h ⊢
      by_cases hx : s + a ≤ 9223372036854775807
      · rw [decide_eq_true hx, cond_true] at h
        rw [rounds_next h, ih (i + 1) k (s + a) (by omega) (by omega)]
        have e : s + a + (u.drop (i + 1)).sum + (d.drop k).sum = s + (a + (u.drop (i + 1)).sum) + (d.drop k).sum := by omega
        rw [e]
      · rw [decide_eq_false hx, cond_false] at h
        have h3 : d.length ≤ k := by rcases h2 with h2 | h2 <;> omega
        have e : (d.drop k).sum = 0 := by rw [List.drop_eq_nil_of_le h3]; rfl
        have nf : fits (s + (a + (u.drop (i + 1)).sum) + (d.drop k).sum) = false := by
          rw [e]
          unfold fits
          rw [decide_eq_false (p := s + (a + (u.drop (i + 1)).sum) + 0 ≤ 9223372036854775807) (by omega), Bool.and_false]
        rw [rounds_end h, nf]; rfl
    · have h1 : k < d.length := by
        by_cases hi : i < u.length
        · by_cases hk : k < d.length
          · exact hk
          · exact absurd ⟨hi, .inl (by omega)⟩ hc
        · omega
      have h2 : ¬ (i < u.length ∧ s < 0) := fun h => hc ⟨h.1, .inr h.2⟩
      have ha := hda (d.getD k 0) (by rw [getD_at h1]; exact List.getElem_mem h1)
      have h := sum_down h1 hd h2 ha hs
      rw [drop_sum h1]
      have dn' := dn (k + 1)
      generalize hg : d.getD k 0 = a at ha h ⊢
      by_cases hx : -9223372036854775808 ≤ s + a
      · rw [decide_eq_true hx, cond_true] at h
        rw [rounds_next h, ih i (k + 1) (s + a) (by omega) (by omega)]
        have e : s + a + (u.drop i).sum + (d.drop (k + 1)).sum = s + (u.drop i).sum + (a + (d.drop (k + 1)).sum) := by omega
        rw [e]
      · rw [decide_eq_false hx, cond_false] at h
        have h3 : u.length ≤ i := by
          by_cases hi : i < u.length
          · have : ¬ s < 0 := fun hs => h2 ⟨hi, hs⟩
            omega
          · omega
        have e : (u.drop i).sum = 0 := by rw [List.drop_eq_nil_of_le h3]; rfl
        have nf : fits (s + (u.drop i).sum + (a + (d.drop (k + 1)).sum)) = false := by
          rw [e]
          unfold fits
          rw [decide_eq_false (p := -9223372036854775808 ≤ s + 0 + (a + (d.drop (k + 1)).sum)) (by omega), Bool.false_and]
        rw [rounds_end h, nf]; rfl
def sumR (n : Int) : Int × Bool := bif fits n then (n, true) else (0, false)
theorem ref_Sum_is {l : List Int} (hs : l.length ≤ 17592186044415) (ha : Amounts l) : bursarref01_Sum.f l = some (sumR l.sum) := by
  have hu := ups_len l
  have hd := downs_len l
  have h := mix_is (u := ups l) (d := downs l) (by omega) (by omega) (fun a h => by
    have h' := List.mem_filter.1 h
    have := ha a h'.1
    have := h'.2
    simp only [decide_eq_true_eq] at this
    omega) (fun a h => by
    have h' := List.mem_filter.1 h
    have := ha a h'.1
    have := h'.2
    simp at this
    omega) _ 0 0 0 rfl (by omega)
  unfold bursarref01_Sum.f
  rw [split_is hs, Option.bind_some]
  rw [show ((0 : Nat) : Int) = 0 from rfl] at h
  rw [h, Option.bind_some, List.drop_zero, List.drop_zero, show 0 + (ups l).sum + (downs l).sum = l.sum by have := ups_sum l; omega]
  unfold sumR
  cases fits l.sum <;> rfl
end Go.Proofs.YtpoiijkodpnobaaGreatDoor
end
section
set_option linter.unusedVariables false
set_option maxRecDepth 100000
namespace Go.Proofs.YtpoiijkodpnobaaGreatDoor
open Go Go.Fw
abbrev money_Sub.As : Shs := (.cons (.x (.i .i64)) (.cons (.x (.i .i64)) .nil))
abbrev money_Sub.m : Back := [(false, (.i .i64)), (false, (.i .i64))]
noncomputable abbrev money_Sub.H : HK := hk P G0 E0 J0 [] noLoops 4
theorem money_Sub.rows : TabOK P G0 (tabF []) := rows_ok (ws := []) trivial
theorem money_Sub.hok : HKOK P money_Sub.H := hk_ok e0_ok j0_ok money_Sub.rows (fun g n => noLoops_ok g n) 4
noncomputable def money_Sub.f (a : (Int × Int)) : Option (Int × Int) := (bif (!((decide ((a.1 < (0 : Int)))) == (decide ((a.2 < (0 : Int)))))) then (bif (!((decide (((IntKind.wrap .i64 (a.1 - a.2)) < (0 : Int)))) == (decide ((a.1 < (0 : Int)))))) then (some ((0 : Int), (2 : Int))) else (some ((IntKind.wrap .i64 (a.1 - a.2)), (0 : Int)))) else (some ((IntKind.wrap .i64 (a.1 - a.2)), (0 : Int))))
theorem money_Sub.ok : ∀ a : Vals money_Sub.As.tys, fnK P money_Sub.H (lp []) 87 money_Sub.As money_Sub.m a some = money_Sub.f a := fun a => by kernel_rfl
noncomputable abbrev money_Sub.row : Row := fnRow 87 money_Sub.As money_Sub.m money_Sub.f
theorem money_Sub.row_ok : RowOK P G0 money_Sub.row := row_told money_Sub.hok (lp_of (l := []) trivial) (fun _ => rfl) money_Sub.ok
end Go.Proofs.YtpoiijkodpnobaaGreatDoor
end
section
set_option linter.unusedVariables false
set_option linter.unusedSimpArgs false
namespace Go.Proofs.YtpoiijkodpnobaaGreatDoor
open Go Go.Fw
theorem fits_iff {n : Int} : fits n = true ↔ Am n := by simp [fits, Am]
theorem fits_of {n : Int} (h : Am n) : fits n = true := fits_iff.2 h
theorem fits_not {n : Int} (h : ¬ Am n) : fits n = false := by
  cases hf : fits n with
  | false => rfl
  | true => exact absurd (fits_iff.1 hf) h
theorem sumS_of {n : Int} (h : Am n) : sumS n = (n, 0) := by simp [sumS, fits_of h]
theorem sumS_not {n : Int} (h : ¬ Am n) : sumS n = (0, 2) := by simp [sumS, fits_not h]
theorem money_Sub_is {a b : Int} (ha : Am a) (hb : Am b) : money_Sub.f (a, b) = some (sumS (a - b)) := by
  obtain ⟨h1, h2⟩ := ha
  obtain ⟨h3, h4⟩ := hb
  unfold money_Sub.f
  simp only [IntKind.wrap_i64]
  by_cases hf : Am (a - b)
  · rw [sumS_of hf]
    obtain ⟨h5, h6⟩ := hf
    have e : (a - b + 9223372036854775808) % 18446744073709551616 - 9223372036854775808 = a - b := by omega
    rw [e]
    by_cases c1 : a < 0 <;> by_cases c2 : b < 0 <;> by_cases c3 : a - b < 0 <;> simp [c1, c2, c3] <;> omega
  · rw [sumS_not hf]
    have hf' : a - b < -9223372036854775808 ∨ 9223372036854775807 < a - b := by unfold Am at hf; omega
    obtain ⟨m, hm⟩ : ∃ m, (a - b + 9223372036854775808) % 18446744073709551616 - 9223372036854775808 = m := ⟨_, rfl⟩
    rw [hm]
    have c1 : (decide (a < 0) == decide (b < 0)) = false := by
      by_cases c1 : a < 0 <;> by_cases c2 : b < 0 <;> simp [c1, c2] <;> omega
    have c2 : (decide (m < 0) == decide (a < 0)) = false := by
      by_cases c1 : a < 0 <;> by_cases c2 : m < 0 <;> simp [c1, c2] <;> omega
    simp [c1, c2]
def Told (r : Int × Bool) (n : Int) : Prop := r.2 = fits n ∧ (fits n = true → r.1 = n)
end Go.Proofs.YtpoiijkodpnobaaGreatDoor
end
section
set_option linter.unusedVariables false
set_option linter.unusedSimpArgs false
namespace Go.Fw
section
variable {S R : Type} {t : S → Option (S ⊕ R)}
theorem range_none {n k : Nat} {ex : Nat → Option R} (hk : k ≤ n) (h : ∀ j, j < k → ex j = none) : (List.range k).findSome? ex = none := by
  rw [List.findSome?_eq_none_iff]
  intro j hj
  exact h j (List.mem_range.1 hj)
theorem range_some {n k : Nat} {ex : Nat → Option R} {r : R} (hk : k < n) (h : ∀ j, j < k → ex j = none) (hr : ex k = some r) : (List.range n).findSome? ex = some r := by
  have e : List.range n = List.range k ++ k :: (List.range (n - k - 1)).map (· + (k + 1)) := by
    have h1 : n = k + (1 + (n - k - 1)) := by omega
    rw [h1, List.range_add, List.range_add]
    simp
    intro a _
    omega
  rw [e, List.findSome?_append, range_none (Nat.le_refl k) h]
  simp [hr]
theorem rounds_first (st : Nat → S) (ex : Nat → Option R) (fin : R) (n : Nat) (h : ∀ i, i < n → (∀ j, j < i → ex j = none) → t (st i) = some (match ex i with | some r => .inr r | none => .inl (st (i + 1))))
    (hf : (∀ j, j < n → ex j = none) → t (st n) = some (.inr fin)) : rounds t (st 0) = some (((List.range n).findSome? ex).getD fin) := by
  have go : ∀ k, k ≤ n → (∀ j, j < k → ex j = none) → rounds t (st 0) = rounds t (st k) := by
    intro k
    induction k with
    | zero => intro _ _; rfl
    | succ k ih =>
      intro hk hj
      rw [ih (by omega) fun j h => hj j (by omega)]
      have h1 := h k (by omega) fun j h => hj j (by omega)
      rw [hj k (by omega)] at h1
      exact rounds_next h1
  by_cases ha : ∀ j, j < n → ex j = none
  · rw [go n (Nat.le_refl _) ha, rounds_end (hf ha), range_none (Nat.le_refl n) ha]
    rfl
  · have hex : ∃ k, k < n ∧ (∀ j, j < k → ex j = none) ∧ ∃ r, ex k = some r := by
      clear h hf go
      induction n with
      | zero => exact absurd (fun j hj => by omega) ha
      | succ n ih =>
        by_cases h' : ∀ j, j < n → ex j = none
        · cases hn : ex n with
          | none => exact absurd (fun j hj => by
              by_cases e : j = n
              · rw [e]; exact hn
              · exact h' j (by omega)) ha
          | some r => exact ⟨n, by omega, h', r, hn⟩
        · obtain ⟨k, h1, h2⟩ := ih h'
          exact ⟨k, by omega, h2⟩
    obtain ⟨k, hk, hj, r, hr⟩ := hex
    have h1 := h k hk hj
    rw [hr] at h1
    rw [go k (by omega) hj, rounds_end h1, range_some hk hj hr]
    rfl
theorem rounds_map {α β : Type} (l : List α) (d : α) (g : α → β) (st : List β → Nat → S) (out : List β → R) (h : ∀ i, i < l.length → t (st ((l.take i).map g) i) = some (.inl (st ((l.take i).map g ++ [g (l.getD i d)]) (i + 1))))
    (hf : ∀ acc, acc = l.map g → t (st acc l.length) = some (.inr (out acc))) : rounds t (st [] 0) = some (out (l.map g)) := by
  have := rounds_to (t := t) (fun i => st ((l.take i).map g) i) l.length (fun i hi => by
    rw [h i hi, take_up d hi, List.map_append]; rfl)
  simp only [List.take_zero, List.map_nil, List.take_length] at this
  rw [this]
  exact rounds_end (hf _ rfl)
end
theorem ge0' (i : Nat) : decide ((0 : Int) ≤ (i : Int)) = true := decide_eq_true (by omega)
theorem inb {i n : Nat} (h : i < n) : decide (((i : Nat) : Int) < ((n : Nat) : Int)) = true := decide_eq_true (by omega)
theorem outb (n : Nat) : decide (((n : Nat) : Int) < ((n : Nat) : Int)) = false := decide_eq_false (by omega)
theorem find_not {β : Type} {n : Nat} {p : Nat → Bool} {g : Nat → β} : (∃ i, i < n ∧ (List.range n).findSome? (fun i => bif p i then none else some (g i)) = some (g i) ∧ (List.range n).all p = false) ∨ ((List.range n).findSome? (fun i => bif p i then none else some (g i)) = none ∧ (List.range n).all p = true) := by
  cases hq : (List.range n).findSome? (fun i => bif p i then none else some (g i)) with
  | none =>
    right
    refine ⟨rfl, ?_⟩
    rw [List.all_eq_true]
    intro i hi
    have := (List.findSome?_eq_none_iff.1 hq) i hi
    cases hb : p i
    · rw [hb] at this; cases this
    · rfl
  | some r =>
    left
    obtain ⟨i, hi, hr⟩ := List.exists_of_findSome?_eq_some hq
    cases hb : p i <;> rw [hb] at hr
    · injection hr with hr
      refine ⟨i, List.mem_range.1 hi, by rw [hr], ?_⟩
      rw [← Bool.not_eq_true, List.all_eq_true]
      intro h
      rw [h i hi] at hb
      cases hb
    · cases hr
end Go.Fw
end
section
set_option linter.unusedVariables false
set_option linter.unusedSimpArgs false
namespace Go.Fw
open Go
theorem eq_bs (s : ByteArray) : s = bs s.data.toList := by cases s; simp [bs]
theorem bs_list (l : List UInt8) : (bs l).data.toList = l := by simp [bs]
theorem bs_toList (l : List UInt8) : (bs l).toList = l := by rw [ByteArray.toList_eq, bs_list]
theorem bs_size (l : List UInt8) : (bs l).size = l.length := by show (bs l).data.size = _; simp [bs]
theorem bs_append (l r : List UInt8) : bs l ++ bs r = bs (l ++ r) := by
  apply ByteArray.ext
  rw [ByteArray.data_append]
  simp [bs]
theorem bs_extract (l : List UInt8) (i j : Nat) : (bs l).extract i j = bs ((l.take j).drop i) := by
  apply ByteArray.ext
  rw [ByteArray.data_extract]
  apply Array.toList_inj.1
  simp [bs, List.extract_eq_take_drop, List.drop_take]
theorem bt_bs (l : List UInt8) (i : Nat) : bt (bs l) i = ((l.getD i 0).toNat : Int) := by unfold bt; rw [bs_list]
theorem bs_inj {l r : List UInt8} : bs l = bs r ↔ l = r := ⟨fun h => by rw [← bs_list l, h, bs_list], fun h => by rw [h]⟩
theorem texts_eq (x y : ByteArray) : (ByteArray.toList x == ByteArray.toList y) = decide (x = y) := by
  rw [ByteArray.toList_eq, ByteArray.toList_eq, Bool.eq_iff_iff, beq_iff_eq, decide_eq_true_iff]
  constructor
  · intro h
    cases x; cases y
    simp only [Array.toList_inj] at h
    rw [h]
  · intro h; rw [h]
theorem texts_list (x : ByteArray) (l : List UInt8) : (ByteArray.toList x == l) = decide (x = bs l) := by
  rw [← texts_eq, bs_toList]
theorem texts_nil (x : ByteArray) : (ByteArray.toList x == []) = decide (x = bs []) := by
  rw [← texts_eq, bs_toList]
abbrev dgt (n : Nat) : UInt8 := UInt8.ofNat (48 + n)
theorem dgt_nat {n : Nat} (h : n < 10) : (dgt n).toNat = 48 + n := by simp [dgt, UInt8.toNat_ofNat']; omega
def decP : Nat → Nat → List UInt8
  | 0, _ => []
  | k + 1, n => if n = 0 then [] else decP k (n / 10) ++ [dgt (n % 10)]
theorem decF_decP : ∀ (k n : Nat), n < 10 ^ (k + 1) → decF (k + 1) n = decP k (n / 10) ++ [dgt (n % 10)]
  | 0, n, h => by
    have h' : n < 10 := by simpa using h
    have hb : Nat.blt n 10 = true := by rw [Nat.blt_eq]; exact h'
    unfold decF decP
    simp only [hb, cond_true, List.nil_append]
    rw [show n % 10 = n by omega]
  | k + 1, n, h => by
    unfold decF decP
    by_cases h' : n < 10
    · have hb : Nat.blt n 10 = true := by rw [Nat.blt_eq]; exact h'
      simp only [hb, cond_true]
      rw [if_pos (by omega), show n % 10 = n by omega]; rfl
    · have hb : Nat.blt n 10 = false := by
        cases hb : Nat.blt n 10
        · rfl
        · rw [Nat.blt_eq] at hb; omega
      simp only [hb, cond_false]
      rw [if_neg (by omega), decF_decP k (n / 10) (by have : 10 ^ (k + 1 + 1) = 10 ^ (k + 1) * 10 := Nat.pow_succ ..; omega)]
end Go.Fw
end
section
set_option linter.unusedVariables false
set_option maxRecDepth 100000
namespace Go.Proofs.YtpoiijkodpnobaaGreatDoor
open Go Go.Fw
abbrev entry_ref.As : Shs := (.cons (.x .s) .nil)
abbrev entry_ref.m : Back := [(false, .b)]
noncomputable abbrev entry_ref.H : HK := hk P G0 E0 J0 [] noLoops 4
theorem entry_ref.rows : TabOK P G0 (tabF []) := rows_ok (ws := []) trivial
theorem entry_ref.hok : HKOK P entry_ref.H := hk_ok e0_ok j0_ok entry_ref.rows (fun g n => noLoops_ok g n) 4
noncomputable abbrev entry_ref.shi0 : SSh := ⟨[(1, (.fn 131 .nil)), (2, (.x .b)), (10, (.pt 0 0))], [.it]⟩
noncomputable abbrev entry_ref.osi0 : PEnds := [(.ret, ⟨[(6, (.x (.i .i64)))], []⟩), ((.exit 0), ⟨[], []⟩)]
noncomputable def entry_ref.ti0 (s : (Bool × (ByteArray × Int))) : Option ((Bool × (ByteArray × Int)) ⊕ (Int ⊕ Unit)) := (bif (Nat.blt (Int.toNat s.2.2) s.2.1.size) then (bif (decide ((((runeD s.2.1 (Int.toNat s.2.2)).1 : Int) < (33 : Int)))) then (bif (true == s.1) then (some (.inr (.inl ((Int.toNat s.2.2) : Int)))) else (some (.inl (s.1, (s.2.1, (((Int.toNat s.2.2) + (runeD s.2.1 (Int.toNat s.2.2)).2) : Int)))))) else (bif ((decide ((((runeD s.2.1 (Int.toNat s.2.2)).1 : Int) > (126 : Int)))) == s.1) then (some (.inr (.inl ((Int.toNat s.2.2) : Int)))) else (some (.inl (s.1, (s.2.1, (((Int.toNat s.2.2) + (runeD s.2.1 (Int.toNat s.2.2)).2) : Int))))))) else (some (.inr (.inr ()))))
theorem entry_ref.ti0_ok : ∀ s : Vals entry_ref.shi0.tys, turnK P entry_ref.H (lp []) (bodyAt (codeOf P 184) 3) 0 entry_ref.shi0 entry_ref.osi0 s some = entry_ref.ti0 s := fun s => by kernel_rfl
noncomputable def entry_ref.li0 : (Bool × (ByteArray × Int)) → Option (Int ⊕ Unit) := rounds entry_ref.ti0
noncomputable abbrev entry_ref.L1 : ILp := [(184, 0, [(3, (NodeT.summ ⟨entry_ref.shi0, entry_ref.osi0, entry_ref.li0⟩ 0))])]
theorem entry_ref.L1ok : ILpOK P G0 entry_ref.L1 := ⟨⟨(loop_sum entry_ref.hok (by kernel_rfl) (by kernel_rfl) (l := []) trivial entry_ref.shi0 entry_ref.osi0 (by kernel_rfl) entry_ref.ti0 entry_ref.ti0_ok), trivial⟩, trivial⟩
noncomputable abbrev entry_ref.H1 : HK := hk P G0 E0 J0 [] (ilp entry_ref.L1) 4
theorem entry_ref.hok1 : HKOK P entry_ref.H1 := hk_ok e0_ok j0_ok entry_ref.rows (fun g n => ilp_ok entry_ref.L1ok g n) 4
noncomputable def entry_ref.f (a : ByteArray) : Option Bool := (bif (decide (((a.size : Int) ≤ (20 : Int)))) then (((entry_ref.li0 (true, (a, (0 : Int))))).bind fun x1 => (match x1 with | .inl x2 => (some (!(decide ((x2 ≥ (0 : Int)))))) | .inr x2 => (some true))) else (some false))
theorem entry_ref.ok : ∀ a : Vals entry_ref.As.tys, fnK P entry_ref.H1 (lp []) 96 entry_ref.As entry_ref.m a some = entry_ref.f a := fun a => by kernel_rfl
noncomputable abbrev entry_ref.row : Row := fnRow 96 entry_ref.As entry_ref.m entry_ref.f
theorem entry_ref.row_ok : RowOK P G0 entry_ref.row := row_told entry_ref.hok1 (lp_of (l := []) trivial) (fun _ => rfl) entry_ref.ok
abbrev entry_Check.As : Shs := (.cons (.x T_api_Entry) .nil)
abbrev entry_Check.m : Back := [(false, (.i .i64))]
noncomputable abbrev entry_Check.H : HK := hk P G0 E0 J0 [money_Sum.row, entry_ref.row, chart_May.row] noLoops 4
theorem entry_Check.rows : TabOK P G0 (tabF [money_Sum.row, entry_ref.row, chart_May.row]) := rows_ok (ws := [money_Sum.row, entry_ref.row, chart_May.row]) ⟨money_Sum.row_ok, ⟨entry_ref.row_ok, ⟨chart_May.row_ok, trivial⟩⟩⟩
theorem entry_Check.hok : HKOK P entry_Check.H := hk_ok e0_ok j0_ok entry_Check.rows (fun g n => noLoops_ok g n) 4
noncomputable abbrev entry_Check.shi0 : SSh := ⟨[(0, (.x (.l (.g (.p (.g (.p (.i .i64) .s)) (.i .i64)))))), (1, (.fn 95 (.cons (.pt 2 0) .nil))), (7, (.x (.i .i64))), (8, (.x (.i .i64)))], [.box (.cons (.x (.i .i64)) (.cons (.x .s) (.cons (.x (.l (.g (.p (.g (.p (.i .i64) .s)) (.i .i64))))) .nil))), .mp T_api_Account .b, .box (.cons (.mp 1) .nil)]⟩
noncomputable abbrev entry_Check.osi0 : PEnds := [(.ret, ⟨[(4, (.x (.i .i64)))], [.box (.cons (.x (.i .i64)) (.cons (.x .s) (.cons (.x (.l (.g (.p (.g (.p (.i .i64) .s)) (.i .i64))))) .nil))), .mp T_api_Account .b, .box (.cons (.mp 1) .nil)]⟩), ((.exit 0), ⟨[], [.box (.cons (.x (.i .i64)) (.cons (.x .s) (.cons (.x (.l (.g (.p (.g (.p (.i .i64) .s)) (.i .i64))))) .nil))), .mp T_api_Account .b, .box (.cons (.mp 1) .nil)]⟩)]
noncomputable def entry_Check.ti0 (s : ((List ((Int × ByteArray) × Int)) × (Int × (Int × (Int × (ByteArray × ((List ((Int × ByteArray) × Int)) × (List ((Int × ByteArray) × Bool))))))))) : Option (((List ((Int × ByteArray) × Int)) × (Int × (Int × (Int × (ByteArray × ((List ((Int × ByteArray) × Int)) × (List ((Int × ByteArray) × Bool)))))))) ⊕ ((Int × (Int × (ByteArray × ((List ((Int × ByteArray) × Int)) × (List ((Int × ByteArray) × Bool)))))) ⊕ (Int × (ByteArray × ((List ((Int × ByteArray) × Int)) × (List ((Int × ByteArray) × Bool))))))) := (bif (decide ((s.2.2.1 < s.2.1))) then (bif ((decide (((0 : Int) ≤ s.2.2.1))) && (decide ((s.2.2.1 < ((List.length s.1) : Int))))) then (bif (Ty.keyFit T_api_Account (List.getD s.1 (Int.toNat s.2.2.1) (Ty.dflt T_api_Line)).1) then (bif (Ty.keyFit T_api_Account (List.getD s.1 (Int.toNat s.2.2.1) (Ty.dflt T_api_Line)).1) then (bif (mgetD T_api_Account .b s.2.2.2.2.2.2 (List.getD s.1 (Int.toNat s.2.2.1) (Ty.dflt T_api_Line)).1 false) then (some (.inr (.inl (s.2.2.1, (s.2.2.2.1, (s.2.2.2.2.1, (s.2.2.2.2.2.1, (mput T_api_Account .b s.2.2.2.2.2.2 (List.getD s.1 (Int.toNat s.2.2.1) (Ty.dflt T_api_Line)).1 true)))))))) else (bif ((List.getD s.1 (Int.toNat s.2.2.1) (Ty.dflt T_api_Line)).2 == (0 : Int)) then (some (.inr (.inl (s.2.2.1, (s.2.2.2.1, (s.2.2.2.2.1, (s.2.2.2.2.2.1, (mput T_api_Account .b s.2.2.2.2.2.2 (List.getD s.1 (Int.toNat s.2.2.1) (Ty.dflt T_api_Line)).1 true)))))))) else (((chart_May.f (List.getD s.1 (Int.toNat s.2.2.1) (Ty.dflt T_api_Line)).1)).bind fun x7 => (bif (!x7) then (some (.inr (.inl (s.2.2.1, (s.2.2.2.1, (s.2.2.2.2.1, (s.2.2.2.2.2.1, (mput T_api_Account .b s.2.2.2.2.2.2 (List.getD s.1 (Int.toNat s.2.2.1) (Ty.dflt T_api_Line)).1 true)))))))) else (some (.inl (s.1, (s.2.1, ((IntKind.wrap .i64 (s.2.2.1 + (1 : Int))), (s.2.2.2.1, (s.2.2.2.2.1, (s.2.2.2.2.2.1, (mput T_api_Account .b s.2.2.2.2.2.2 (List.getD s.1 (Int.toNat s.2.2.1) (Ty.dflt T_api_Line)).1 true))))))))))))) else none) else none) else none) else (some (.inr (.inr s.2.2.2))))
theorem entry_Check.ti0_ok : ∀ s : Vals entry_Check.shi0.tys, turnK P entry_Check.H (lp []) (bodyAt (codeOf P 132) 3) 3 entry_Check.shi0 entry_Check.osi0 s some = entry_Check.ti0 s := fun s => by kernel_rfl
noncomputable def entry_Check.li0 : ((List ((Int × ByteArray) × Int)) × (Int × (Int × (Int × (ByteArray × ((List ((Int × ByteArray) × Int)) × (List ((Int × ByteArray) × Bool)))))))) → Option ((Int × (Int × (ByteArray × ((List ((Int × ByteArray) × Int)) × (List ((Int × ByteArray) × Bool)))))) ⊕ (Int × (ByteArray × ((List ((Int × ByteArray) × Int)) × (List ((Int × ByteArray) × Bool)))))) := rounds entry_Check.ti0
noncomputable abbrev entry_Check.shi1 : SSh := ⟨[(0, (.yd 5 [5] (.cons (.pt 3 0) .nil) [46] (rfA P 57 0) (rfB P 57 0))), (5, (.x (.l (.g (.p (.g (.p (.i .i64) .s)) (.i .i64)))))), (6, (.x (.i .i64))), (7, (.x (.i .i64)))], [.box (.cons (.x (.i .i64)) (.cons (.x .s) (.cons (.x (.l (.g (.p (.g (.p (.i .i64) .s)) (.i .i64))))) .nil))), .mp T_api_Account .b, .box (.cons (.mp 1) .nil), .box (.cons (.own 6 1) .nil), .box (.cons (.x (.l (.g (.p (.g (.p (.i .i64) .s)) (.i .i64))))) .nil), .lp false, .arrN (.i .i64)]⟩
noncomputable abbrev entry_Check.L1 : ILp := [(132, 3, [(3, (NodeT.summ ⟨entry_Check.shi0, entry_Check.osi0, entry_Check.li0⟩ 3))])]
theorem entry_Check.L1ok : ILpOK P G0 entry_Check.L1 := ⟨⟨(loop_sum entry_Check.hok (by kernel_rfl) (by kernel_rfl) (l := []) trivial entry_Check.shi0 entry_Check.osi0 (by kernel_rfl) entry_Check.ti0 entry_Check.ti0_ok), trivial⟩, trivial⟩
noncomputable abbrev entry_Check.H1 : HK := hk P G0 E0 J0 [money_Sum.row, entry_ref.row, chart_May.row] (ilp entry_Check.L1) 4
theorem entry_Check.hok1 : HKOK P entry_Check.H1 := hk_ok e0_ok j0_ok entry_Check.rows (fun g n => ilp_ok entry_Check.L1ok g n) 4
noncomputable abbrev entry_Check.osi1 : PEnds := [((.exit 0), ⟨[], [.box (.cons (.x (.i .i64)) (.cons (.x .s) (.cons (.x (.l (.g (.p (.g (.p (.i .i64) .s)) (.i .i64))))) .nil))), .mp T_api_Account .b, .box (.cons (.mp 1) .nil), .box (.cons (.own 6 1) .nil), .box (.cons (.x (.l (.g (.p (.g (.p (.i .i64) .s)) (.i .i64))))) .nil), .lp false, .arrN (.i .i64)]⟩)]
noncomputable def entry_Check.ti1 (s : ((List ((Int × ByteArray) × Int)) × (Int × (Int × (Int × (ByteArray × ((List ((Int × ByteArray) × Int)) × ((List ((Int × ByteArray) × Bool)) × ((List ((Int × ByteArray) × Int)) × (List Int)))))))))) : Option (((List ((Int × ByteArray) × Int)) × (Int × (Int × (Int × (ByteArray × ((List ((Int × ByteArray) × Int)) × ((List ((Int × ByteArray) × Bool)) × ((List ((Int × ByteArray) × Int)) × (List Int))))))))) ⊕ ((Int × (ByteArray × ((List ((Int × ByteArray) × Int)) × ((List ((Int × ByteArray) × Bool)) × ((List ((Int × ByteArray) × Int)) × (List Int)))))))) := (bif (decide ((s.2.2.1 < s.2.1))) then (bif ((decide (((0 : Int) ≤ s.2.2.1))) && (decide ((s.2.2.1 < ((List.length s.1) : Int))))) then (bif ((true && (Nat.ble (((List.length s.2.2.2.2.2.2.2.2) + (List.length ((List.getD s.1 (Int.toNat s.2.2.1) (Ty.dflt T_api_Line)).2 :: []))) * 8) 140737488355328)) && (Nat.ble ((List.length s.2.2.2.2.2.2.2.2) + (List.length ((List.getD s.1 (Int.toNat s.2.2.1) (Ty.dflt T_api_Line)).2 :: []))) 140737488355328)) then (some (.inl (s.1, (s.2.1, ((IntKind.wrap .i64 (s.2.2.1 + (1 : Int))), (s.2.2.2.1, (s.2.2.2.2.1, (s.2.2.2.2.2.1, (s.2.2.2.2.2.2.1, (s.2.2.2.2.2.2.2.1, (s.2.2.2.2.2.2.2.2 ++ ((List.getD s.1 (Int.toNat s.2.2.1) (Ty.dflt T_api_Line)).2 :: [])))))))))))) else none) else none) else (some (.inr s.2.2.2)))
theorem entry_Check.ti1_ok : ∀ s : Vals entry_Check.shi1.tys, turnK P entry_Check.H1 (lp []) (bodyAt (codeOf P 133) 2) 6 entry_Check.shi1 entry_Check.osi1 s some = entry_Check.ti1 s := by rintro ⟨s0, s1, s2, s3, s4, s5, s6, s7, s8⟩; cases s8 <;> kernel_rfl
noncomputable def entry_Check.li1 : ((List ((Int × ByteArray) × Int)) × (Int × (Int × (Int × (ByteArray × ((List ((Int × ByteArray) × Int)) × ((List ((Int × ByteArray) × Bool)) × ((List ((Int × ByteArray) × Int)) × (List Int))))))))) → Option ((Int × (ByteArray × ((List ((Int × ByteArray) × Int)) × ((List ((Int × ByteArray) × Bool)) × ((List ((Int × ByteArray) × Int)) × (List Int))))))) := rounds entry_Check.ti1
noncomputable abbrev entry_Check.L2 : ILp := [(132, 3, [(3, (NodeT.summ ⟨entry_Check.shi0, entry_Check.osi0, entry_Check.li0⟩ 3))]), (133, 6, [(2, (NodeT.summ ⟨entry_Check.shi1, entry_Check.osi1, entry_Check.li1⟩ 6))])]
theorem entry_Check.L2ok : ILpOK P G0 entry_Check.L2 := ⟨⟨(loop_sum entry_Check.hok (by kernel_rfl) (by kernel_rfl) (l := []) trivial entry_Check.shi0 entry_Check.osi0 (by kernel_rfl) entry_Check.ti0 entry_Check.ti0_ok), trivial⟩, ⟨⟨(loop_sum entry_Check.hok1 (by kernel_rfl) (by kernel_rfl) (l := []) trivial entry_Check.shi1 entry_Check.osi1 (by kernel_rfl) entry_Check.ti1 entry_Check.ti1_ok), trivial⟩, trivial⟩⟩
noncomputable abbrev entry_Check.H2 : HK := hk P G0 E0 J0 [money_Sum.row, entry_ref.row, chart_May.row] (ilp entry_Check.L2) 4
theorem entry_Check.hok2 : HKOK P entry_Check.H2 := hk_ok e0_ok j0_ok entry_Check.rows (fun g n => ilp_ok entry_Check.L2ok g n) 4
noncomputable def entry_Check.f (a : (Int × (ByteArray × (List ((Int × ByteArray) × Int))))) : Option Int := (bif (decide ((a.1 < (0 : Int)))) then (some (1 : Int)) else (bif (decide ((a.1 > (2147483647 : Int)))) then (some (1 : Int)) else (((entry_ref.f a.2.1)).bind fun x1 => (bif (!x1) then (some (1 : Int)) else (bif (decide ((((List.length a.2.2) : Int) < (2 : Int)))) then (some (1 : Int)) else (bif (decide ((((List.length a.2.2) : Int) > (8 : Int)))) then (some (1 : Int)) else (((entry_Check.li0 (a.2.2, (((List.length a.2.2) : Int), ((0 : Int), (a.1, (a.2.1, (a.2.2, [])))))))).bind fun x2 => (match x2 with | .inl x3 => (bif (decide ((x3.1 ≥ (0 : Int)))) then (some (1 : Int)) else (((entry_Check.li1 (x3.2.2.2.1, (((List.length x3.2.2.2.1) : Int), ((0 : Int), (x3.2.1, (x3.2.2.1, (x3.2.2.2.1, (x3.2.2.2.2, (x3.2.2.2.1, [])))))))))).bind fun x4 => (match x4.2.2.2.2.2 with | [] => (((money_Sum.f [])).bind fun x5 => (bif (x5.2 != (0 : Int)) then (some x5.2) else (bif (x5.1 != (0 : Int)) then (some (12 : Int)) else (some (0 : Int))))) | x5 :: x6 => (((money_Sum.f (x5 :: x6))).bind fun x7 => (bif (x7.2 != (0 : Int)) then (some x7.2) else (bif (x7.1 != (0 : Int)) then (some (12 : Int)) else (some (0 : Int)))))))) | .inr x3 => (((entry_Check.li1 (x3.2.2.1, (((List.length x3.2.2.1) : Int), ((0 : Int), (x3.1, (x3.2.1, (x3.2.2.1, (x3.2.2.2, (x3.2.2.1, [])))))))))).bind fun x4 => (match x4.2.2.2.2.2 with | [] => (((money_Sum.f [])).bind fun x5 => (bif (x5.2 != (0 : Int)) then (some x5.2) else (bif (x5.1 != (0 : Int)) then (some (12 : Int)) else (some (0 : Int))))) | x5 :: x6 => (((money_Sum.f (x5 :: x6))).bind fun x7 => (bif (x7.2 != (0 : Int)) then (some x7.2) else (bif (x7.1 != (0 : Int)) then (some (12 : Int)) else (some (0 : Int)))))))))))))))
theorem entry_Check.ok : ∀ a : Vals entry_Check.As.tys, fnK P entry_Check.H2 (lp []) 57 entry_Check.As entry_Check.m a some = entry_Check.f a := fun a => by kernel_rfl
noncomputable abbrev entry_Check.row : Row := fnRow 57 entry_Check.As entry_Check.m entry_Check.f
theorem entry_Check.row_ok : RowOK P G0 entry_Check.row := row_told entry_Check.hok2 (lp_of (l := []) trivial) (fun _ => rfl) entry_Check.ok
abbrev bursarref12_Check.As : Shs := (.cons (.x T_api_Entry) .nil)
abbrev bursarref12_Check.m : Back := [(false, (.i .i64))]
noncomputable abbrev bursarref12_Check.H : HK := hk P G0 E0 J0 [bursarref11_Name.row, bursarref01_Sum.row] noLoops 4
theorem bursarref12_Check.rows : TabOK P G0 (tabF [bursarref11_Name.row, bursarref01_Sum.row]) := rows_ok (ws := [bursarref11_Name.row, bursarref01_Sum.row]) ⟨bursarref11_Name.row_ok, ⟨bursarref01_Sum.row_ok, trivial⟩⟩
theorem bursarref12_Check.hok : HKOK P bursarref12_Check.H := hk_ok e0_ok j0_ok bursarref12_Check.rows (fun g n => noLoops_ok g n) 4
noncomputable abbrev bursarref12_Check.sh6 : SSh := ⟨[(1, (.pt 0 0)), (3, (.x (.i .i64)))], [.box (.cons (.x (.i .i64)) (.cons (.x .s) (.cons (.x (.l (.g (.p (.g (.p (.i .i64) .s)) (.i .i64))))) .nil)))]⟩
noncomputable abbrev bursarref12_Check.os6 : PEnds := [(.ret, ⟨[(2, (.x (.i .i64)))], []⟩), ((.exit 0), ⟨[(1, (.pt 0 0))], [.box (.cons (.x (.i .i64)) (.cons (.x .s) (.cons (.x (.l (.g (.p (.g (.p (.i .i64) .s)) (.i .i64))))) .nil)))]⟩)]
noncomputable def bursarref12_Check.t6 (s : (Int × (Int × (ByteArray × (List ((Int × ByteArray) × Int)))))) : Option ((Int × (Int × (ByteArray × (List ((Int × ByteArray) × Int))))) ⊕ (Int ⊕ (Int × (ByteArray × (List ((Int × ByteArray) × Int)))))) := (bif (decide ((s.1 < (s.2.2.1.size : Int)))) then (bif ((decide (((0 : Int) ≤ s.1))) && (decide ((s.1 < (s.2.2.1.size : Int))))) then (bif (decide (((bt s.2.2.1 (Int.toNat s.1)) < (33 : Int)))) then (some (.inr (.inl (1 : Int)))) else (bif ((decide (((0 : Int) ≤ s.1))) && (decide ((s.1 < (s.2.2.1.size : Int))))) then (bif (decide (((bt s.2.2.1 (Int.toNat s.1)) > (126 : Int)))) then (some (.inr (.inl (1 : Int)))) else (some (.inl ((IntKind.wrap .i64 (s.1 + (1 : Int))), s.2)))) else none)) else none) else (some (.inr (.inr s.2))))
theorem bursarref12_Check.t6_ok : ∀ s : Vals bursarref12_Check.sh6.tys, turnK P bursarref12_Check.H (lp []) (bodyAt (codeOf P 23) 6) 0 bursarref12_Check.sh6 bursarref12_Check.os6 s some = bursarref12_Check.t6 s := fun s => by kernel_rfl
noncomputable def bursarref12_Check.l6 : (Int × (Int × (ByteArray × (List ((Int × ByteArray) × Int))))) → Option (Int ⊕ (Int × (ByteArray × (List ((Int × ByteArray) × Int))))) := rounds bursarref12_Check.t6
noncomputable abbrev bursarref12_Check.sh10 : SSh := ⟨[(1, (.pt 0 0)), (4, (.own 1 1)), (5, (.x (.i .i64)))], [.box (.cons (.x (.i .i64)) (.cons (.x .s) (.cons (.x (.l (.g (.p (.g (.p (.i .i64) .s)) (.i .i64))))) .nil))), .arrN (.i .i64)]⟩
noncomputable abbrev bursarref12_Check.sh10_9 : SSh := ⟨[(1, (.pt 0 0)), (4, (.own 1 1)), (5, (.x (.i .i64))), (8, (.x (.i .i64)))], [.box (.cons (.x (.i .i64)) (.cons (.x .s) (.cons (.x (.l (.g (.p (.g (.p (.i .i64) .s)) (.i .i64))))) .nil))), .arrN (.i .i64)]⟩
noncomputable abbrev bursarref12_Check.os10_9 : PEnds := [(.ret, ⟨[(2, (.x (.i .i64)))], []⟩), ((.exit 4), ⟨[(1, (.pt 0 0)), (4, (.own 1 1)), (5, (.x (.i .i64)))], [.box (.cons (.x (.i .i64)) (.cons (.x .s) (.cons (.x (.l (.g (.p (.g (.p (.i .i64) .s)) (.i .i64))))) .nil))), .arrN (.i .i64)]⟩)]
noncomputable def bursarref12_Check.t10_9 (s : (Int × (Int × (Int × (ByteArray × ((List ((Int × ByteArray) × Int)) × (List Int))))))) : Option ((Int × (Int × (Int × (ByteArray × ((List ((Int × ByteArray) × Int)) × (List Int)))))) ⊕ (Int ⊕ (Int × (Int × (ByteArray × ((List ((Int × ByteArray) × Int)) × (List Int))))))) := (bif (decide ((s.2.1 < s.1))) then (bif ((decide (((0 : Int) ≤ s.2.1))) && (decide ((s.2.1 < ((List.length s.2.2.2.2.1) : Int))))) then (bif ((decide (((0 : Int) ≤ s.1))) && (decide ((s.1 < ((List.length s.2.2.2.2.1) : Int))))) then (bif (((List.getD s.2.2.2.2.1 (Int.toNat s.2.1) (Ty.dflt T_api_Line)).1.1 == (List.getD s.2.2.2.2.1 (Int.toNat s.1) (Ty.dflt T_api_Line)).1.1) && (((ByteArray.toList (List.getD s.2.2.2.2.1 (Int.toNat s.2.1) (Ty.dflt T_api_Line)).1.2) == (ByteArray.toList (List.getD s.2.2.2.2.1 (Int.toNat s.1) (Ty.dflt T_api_Line)).1.2)) && true)) then (some (.inr (.inl (1 : Int)))) else (some (.inl (s.1, ((IntKind.wrap .i64 (s.2.1 + (1 : Int))), s.2.2))))) else none) else none) else (some (.inr (.inr (s.1, s.2.2)))))
theorem bursarref12_Check.t10_9_ok : ∀ s : Vals bursarref12_Check.sh10_9.tys, turnK P bursarref12_Check.H (lp []) (bodyAt (bodyAt (codeOf P 23) 10) 9) 0 bursarref12_Check.sh10_9 bursarref12_Check.os10_9 s some = bursarref12_Check.t10_9 s := by rintro ⟨s0, s1, s2, s3, s4, s5⟩; cases s5 <;> kernel_rfl
noncomputable def bursarref12_Check.l10_9 : (Int × (Int × (Int × (ByteArray × ((List ((Int × ByteArray) × Int)) × (List Int)))))) → Option (Int ⊕ (Int × (Int × (ByteArray × ((List ((Int × ByteArray) × Int)) × (List Int)))))) := rounds bursarref12_Check.t10_9
noncomputable abbrev bursarref12_Check.os10 : PEnds := [(.ret, ⟨[(2, (.x (.i .i64)))], []⟩), ((.exit 2), ⟨[(4, (.x (.l (.i .i64))))], []⟩)]
noncomputable def bursarref12_Check.t10 (s : (Int × (Int × (ByteArray × ((List ((Int × ByteArray) × Int)) × (List Int)))))) : Option ((Int × (Int × (ByteArray × ((List ((Int × ByteArray) × Int)) × (List Int))))) ⊕ (Int ⊕ (List Int))) := (bif (decide ((s.1 < ((List.length s.2.2.2.1) : Int)))) then (bif ((decide (((0 : Int) ≤ s.1))) && (decide ((s.1 < ((List.length s.2.2.2.1) : Int))))) then (((bursarref11_Name.f (List.getD s.2.2.2.1 (Int.toNat s.1) (Ty.dflt T_api_Line)).1)).bind fun x6 => (bif (!x6.2) then (some (.inr (.inl (1 : Int)))) else (bif ((decide (((0 : Int) ≤ s.1))) && (decide ((s.1 < ((List.length s.2.2.2.1) : Int))))) then (bif ((List.getD s.2.2.2.1 (Int.toNat s.1) (Ty.dflt T_api_Line)).2 == (0 : Int)) then (some (.inr (.inl (1 : Int)))) else (((bursarref12_Check.l10_9 (s.1, ((0 : Int), s.2)))).bind fun x7 => (match x7 with | .inl x8 => (some (.inr (.inl x8))) | .inr x8 => (match x8.2.2.2.2 with | [] => (bif ((decide (((0 : Int) ≤ x8.1))) && (decide ((x8.1 < ((List.length x8.2.2.2.1) : Int))))) then (some (.inl ((IntKind.wrap .i64 (x8.1 + (1 : Int))), (x8.2.1, (x8.2.2.1, (x8.2.2.2.1, ((List.getD x8.2.2.2.1 (Int.toNat x8.1) (Ty.dflt T_api_Line)).2 :: []))))))) else none) | x9 :: x10 => (bif ((decide (((0 : Int) ≤ x8.1))) && (decide ((x8.1 < ((List.length x8.2.2.2.1) : Int))))) then (bif ((true && (Nat.ble (((List.length (x9 :: x10)) + (List.length ((List.getD x8.2.2.2.1 (Int.toNat x8.1) (Ty.dflt T_api_Line)).2 :: []))) * 8) 140737488355328)) && (Nat.ble ((List.length (x9 :: x10)) + (List.length ((List.getD x8.2.2.2.1 (Int.toNat x8.1) (Ty.dflt T_api_Line)).2 :: []))) 140737488355328)) then (some (.inl ((IntKind.wrap .i64 (x8.1 + (1 : Int))), (x8.2.1, (x8.2.2.1, (x8.2.2.2.1, ((x9 :: x10) ++ ((List.getD x8.2.2.2.1 (Int.toNat x8.1) (Ty.dflt T_api_Line)).2 :: [])))))))) else none) else none))))) else none))) else none) else (some (.inr (.inr s.2.2.2.2))))
theorem bursarref12_Check.t10_ok : ∀ s : Vals bursarref12_Check.sh10.tys, turnK P bursarref12_Check.H (lp [(9, (NodeT.summ ⟨bursarref12_Check.sh10_9, bursarref12_Check.os10_9, bursarref12_Check.l10_9⟩ 0))]) (bodyAt (codeOf P 23) 10) 0 bursarref12_Check.sh10 bursarref12_Check.os10 s some = bursarref12_Check.t10 s := by rintro ⟨s0, s1, s2, s3, s4⟩; cases s4 <;> kernel_rfl
noncomputable def bursarref12_Check.l10 : (Int × (Int × (ByteArray × ((List ((Int × ByteArray) × Int)) × (List Int))))) → Option (Int ⊕ (List Int)) := rounds bursarref12_Check.t10
noncomputable def bursarref12_Check.f (a : (Int × (ByteArray × (List ((Int × ByteArray) × Int))))) : Option Int := (bif (decide ((a.1 < (0 : Int)))) then (some (1 : Int)) else (bif (decide ((a.1 > (2147483647 : Int)))) then (some (1 : Int)) else (bif (decide (((a.2.1.size : Int) > (20 : Int)))) then (some (1 : Int)) else (bif (decide ((((List.length a.2.2) : Int) < (2 : Int)))) then (some (1 : Int)) else (bif (decide ((((List.length a.2.2) : Int) > (8 : Int)))) then (some (1 : Int)) else (((bursarref12_Check.l6 ((0 : Int), a))).bind fun x1 => (match x1 with | .inl x2 => (some x2) | .inr x2 => (((bursarref12_Check.l10 ((0 : Int), (x2.1, (x2.2.1, (x2.2.2, [])))))).bind fun x3 => (match x3 with | .inl x4 => (some x4) | .inr x4 => (((bursarref01_Sum.f x4)).bind fun x5 => (bif (!x5.2) then (some (2 : Int)) else (bif (x5.1 != (0 : Int)) then (some (12 : Int)) else (some (0 : Int))))))))))))))
theorem bursarref12_Check.ok : ∀ a : Vals bursarref12_Check.As.tys, fnK P bursarref12_Check.H (lp [(6, (NodeT.summ ⟨bursarref12_Check.sh6, bursarref12_Check.os6, bursarref12_Check.l6⟩ 0)), (10, (NodeT.summ ⟨bursarref12_Check.sh10, bursarref12_Check.os10, bursarref12_Check.l10⟩ 0))]) 23 bursarref12_Check.As bursarref12_Check.m a some = bursarref12_Check.f a := fun a => by kernel_rfl
noncomputable abbrev bursarref12_Check.row : Row := fnRow 23 bursarref12_Check.As bursarref12_Check.m bursarref12_Check.f
theorem bursarref12_Check.row_ok : RowOK P G0 bursarref12_Check.row := row_told bursarref12_Check.hok (lp_of (l := [(6, (NodeT.summ ⟨bursarref12_Check.sh6, bursarref12_Check.os6, bursarref12_Check.l6⟩ 0)), (10, (NodeT.summ ⟨bursarref12_Check.sh10, bursarref12_Check.os10, bursarref12_Check.l10⟩ 0))]) ⟨(loop_sum bursarref12_Check.hok (by kernel_rfl) (by kernel_rfl) (l := []) trivial bursarref12_Check.sh6 bursarref12_Check.os6 (by kernel_rfl) bursarref12_Check.t6 bursarref12_Check.t6_ok), ⟨(loop_sum bursarref12_Check.hok (by kernel_rfl) (by kernel_rfl) (l := [(9, (NodeT.summ ⟨bursarref12_Check.sh10_9, bursarref12_Check.os10_9, bursarref12_Check.l10_9⟩ 0))]) ⟨(loop_sum bursarref12_Check.hok (by kernel_rfl) (by kernel_rfl) (l := []) trivial bursarref12_Check.sh10_9 bursarref12_Check.os10_9 (by kernel_rfl) bursarref12_Check.t10_9 bursarref12_Check.t10_9_ok), trivial⟩ bursarref12_Check.sh10 bursarref12_Check.os10 (by kernel_rfl) bursarref12_Check.t10 bursarref12_Check.t10_ok), trivial⟩⟩) (fun _ => rfl) bursarref12_Check.ok
end Go.Proofs.YtpoiijkodpnobaaGreatDoor
end
section
set_option linter.unusedVariables false
set_option linter.unusedSimpArgs false
namespace Go.Proofs.YtpoiijkodpnobaaGreatDoor
open Go Go.Fw
abbrev Acc := Int × ByteArray
abbrev Lin := Acc × Int
abbrev Ent := Int × ByteArray × List Lin
def maySB (a : Acc) : Bool := bif a.1 == 1 then cardB a.2 else bif a.1 == 2 then acqB a.2 else (a.1 == 3 || a.1 == 4) && decide (a.2 = bs [])
theorem chartMay_is (a : Acc) : chart_May.f a = some (maySB a) := by
  obtain ⟨k, s⟩ := a
  unfold maySB
  by_cases h1 : k = 1
  · subst h1; exact card_is s
  by_cases h2 : k = 2
  · subst h2; exact acq_is s
  have e1 : (k == 1) = false := by simpa using h1
  have e2 : (k == 2) = false := by simpa using h2
  unfold chart_May.f
  simp only [e1, e2, cond_false, texts_nil]
  cases (k == 3) <;> cases (k == 4) <;> simp
def letterOf (k : Int) : UInt8 := bif k == 1 then 67 else bif k == 2 then 65 else bif k == 3 then 72 else 68
def nameT (a : Acc) : ByteArray := bif maySB a then bs (letterOf a.1 :: a.2.data.toList) else bs []
theorem bs_cons (c : UInt8) (s : ByteArray) : bs [c] ++ s = bs (c :: s.data.toList) := by
  conv => lhs; rw [eq_bs s]
  rw [bs_append]; rfl
theorem refName_is (a : Acc) : bursarref11_Name.f a = some (nameT a, maySB a) := by
  obtain ⟨k, s⟩ := a
  unfold nameT maySB
  by_cases h1 : k = 1
  · subst h1
    obtain ⟨t, ht⟩ := ref_card_is s
    unfold bursarref11_Name.f at ht ⊢
    simp only [beq_self_eq_true, cond_true] at ht ⊢
    by_cases hz : s.size = 16
    · have e : (((s.size : Nat) : Int) == 16) = true := by simp; omega
      simp only [e, cond_true] at ht ⊢
      cases hs : bursarref02_Sound.f s with
      | none => rw [hs] at ht; cases ht
      | some b =>
        rw [hs] at ht
        simp only [Option.bind_some] at ht ⊢
        cases b
        · simp only [cond_false, show ((1 : Int) == 2) = false from rfl, show ((1 : Int) == 3) = false from rfl, show ((1 : Int) == 4) = false from rfl, Option.some.injEq, Prod.mk.injEq] at ht ⊢
          rw [← ht.2]
          exact ⟨rfl, rfl⟩
        · simp only [cond_true, hz, show Nat.ble (1 + 16) 9223372036854775807 = true from rfl, Option.some.injEq, Prod.mk.injEq] at ht ⊢
          rw [← ht.2]
          refine ⟨?_, rfl⟩
          rw [cond_true, bs_cons]; rfl
    · have e : (((s.size : Nat) : Int) == 16) = false := by simp; omega
      have hc : cardB s = false := by unfold cardB; simp [hz]
      simp only [e, cond_false, show ((1 : Int) == 2) = false from rfl, show ((1 : Int) == 3) = false from rfl, show ((1 : Int) == 4) = false from rfl, hc]
  by_cases h2 : k = 2
  · subst h2
    obtain ⟨t, ht⟩ := ref_acq_is s
    unfold bursarref11_Name.f at ht ⊢
    simp only [beq_self_eq_true, cond_true, show ((2 : Int) == 1) = false from rfl, cond_false] at ht ⊢
    by_cases hz : s.size = 6
    · have e : (((s.size : Nat) : Int) == 6) = true := by simp; omega
      simp only [e, cond_true] at ht ⊢
      cases hs : bursarref02_All.f s with
      | none => rw [hs] at ht; cases ht
      | some b =>
        rw [hs] at ht
        simp only [Option.bind_some] at ht ⊢
        cases b
        · simp only [cond_false, show ((2 : Int) == 3) = false from rfl, show ((2 : Int) == 4) = false from rfl, Option.some.injEq, Prod.mk.injEq] at ht ⊢
          rw [← ht.2]
          exact ⟨rfl, rfl⟩
        · simp only [cond_true, hz, show Nat.ble (1 + 6) 9223372036854775807 = true from rfl, Option.some.injEq, Prod.mk.injEq] at ht ⊢
          rw [← ht.2]
          refine ⟨?_, rfl⟩
          rw [cond_true, bs_cons]; rfl
    · have e : (((s.size : Nat) : Int) == 6) = false := by simp; omega
      have hc : acqB s = false := by unfold acqB; simp [hz]
      simp only [e, cond_false, show ((2 : Int) == 3) = false from rfl, show ((2 : Int) == 4) = false from rfl, hc]
  have e1 : (k == 1) = false := by simpa using h1
  have e2 : (k == 2) = false := by simpa using h2
  unfold bursarref11_Name.f letterOf
  simp only [e1, e2, cond_false, texts_nil]
  by_cases hs : s = bs []
  · subst hs
    rw [decide_eq_true rfl]
    cases h3 : (k == 3) <;> cases h4 : (k == 4) <;> rfl
  · rw [decide_eq_false hs]
    cases h3 : (k == 3) <;> cases h4 : (k == 4) <;> rfl
def okRef (s : ByteArray) : Bool := decide (s.size ≤ 20) && s.data.toList.all fun c => decide (33 ≤ c.toNat) && decide (c.toNat ≤ 126)
theorem rune_low {s : ByteArray} {i : Nat} (hi : i < s.size) (h : (s.data.toList.getD i 0).toNat < 128) : runeD s i = ((s.data.toList.getD i 0).toNat, 1) := by
  have e : s.data.toList.getD i 0 = s[i]'hi := by
    rw [List.getD_eq_getElem?_getD, Array.getElem?_toList, Array.getElem?_eq_getElem (by simpa using hi)]
    rfl
  rw [e] at h ⊢
  exact Go.decode_ascii s i hi h
theorem rune_high {s : ByteArray} {i : Nat} (hi : i < s.size) (h : 128 ≤ (s.data.toList.getD i 0).toNat) : 127 < (runeD s i).1 := by
  have e : s.data.toList.getD i 0 = s.get! (i + 0) := by
    rw [List.getD_eq_getElem?_getD, Array.getElem?_toList]
    show _ = s.data.get!Internal (i + 0)
    simp [Array.get!Internal, Array.getD]
    rw [dif_pos (by simpa using hi), Array.getElem?_eq_getElem (by simpa using hi)]
    rfl
  rw [e] at h
  unfold runeD Utf8.decode
  simp only
  rw [if_neg (by omega)]
  split
  · split
    · omega
    · decide
  · split
    · split
      · rename_i h'
        simp only [Bool.and_eq_true, decide_eq_true_eq] at h'
        omega
      · decide
    · split
      · split
        · rename_i h'
          simp only [Bool.and_eq_true, decide_eq_true_eq] at h'
          omega
        · decide
      · decide
def okB33 (c : UInt8) : Bool := decide (33 ≤ c.toNat) && decide (c.toNat ≤ 126)
theorem ref_step {s : ByteArray} {i : Nat} (hi : i < s.size) : entry_ref.ti0 (true, s, ((i : Nat) : Int)) = some (bif okB33 (s.data.toList.getD i 0) then .inl (true, s, ((i + 1 : Nat) : Int)) else .inr (.inl ((i : Nat) : Int))) := by
  have hb : Nat.blt (Int.toNat ((i : Nat) : Int)) s.size = true := by rw [Int.toNat_natCast, Nat.blt_eq]; exact hi
  unfold entry_ref.ti0
  obtain ⟨x, hx⟩ : ∃ x, runeD s i = x := ⟨_, rfl⟩
  have hx' : runeD s (Int.toNat ((i : Nat) : Int)) = x := by rw [Int.toNat_natCast]; exact hx
  obtain ⟨c, hc⟩ : ∃ c, s.data.toList.getD i 0 = c := ⟨_, rfl⟩
  have main : ∀ (x1 x2 : Nat), x = (x1, x2) → (c.toNat < 128 → x1 = c.toNat ∧ x2 = 1) → (128 ≤ c.toNat → 127 < x1) → (bif decide (((x1 : Nat) : Int) < (33 : Int)) then (bif (true == true) then some (Sum.inr (α := Bool × ByteArray × Int) (Sum.inl (β := Unit) ((i : Nat) : Int))) else some (.inl (true, s, ((i + x2 : Nat) : Int)))) else (bif decide (((x1 : Nat) : Int) > (126 : Int)) == true then some (.inr (.inl ((i : Nat) : Int))) else some (.inl (true, s, ((i + x2 : Nat) : Int))))) = some (bif okB33 c then .inl (true, s, ((i + 1 : Nat) : Int)) else .inr (.inl ((i : Nat) : Int))) := by
    intro x1 x2 _ h1 h2
    by_cases c0 : c.toNat < 128
    · obtain ⟨rfl, rfl⟩ := h1 c0
      by_cases c1 : c.toNat < 33
      · have e : okB33 c = false := by unfold okB33; rw [decide_eq_false (show ¬ 33 ≤ c.toNat by omega)]; rfl
        rw [decide_eq_true (show ((c.toNat : Nat) : Int) < 33 by omega), e]
        rfl
      · by_cases c2 : c.toNat ≤ 126
        · have e : okB33 c = true := by unfold okB33; rw [decide_eq_true (show 33 ≤ c.toNat by omega), decide_eq_true c2]; rfl
          rw [decide_eq_false (show ¬ ((c.toNat : Nat) : Int) < 33 by omega), decide_eq_false (show ¬ ((c.toNat : Nat) : Int) > 126 by omega), e]
          rfl
        · have e : okB33 c = false := by unfold okB33; rw [decide_eq_false c2, Bool.and_false]
          rw [decide_eq_false (show ¬ ((c.toNat : Nat) : Int) < 33 by omega), decide_eq_true (show ((c.toNat : Nat) : Int) > 126 by omega), e]
          rfl
    · have h2 := h2 (by omega)
      have e : okB33 c = false := by unfold okB33; rw [decide_eq_false (show ¬ c.toNat ≤ 126 by omega), Bool.and_false]
      rw [decide_eq_false (show ¬ ((x1 : Nat) : Int) < 33 by omega), decide_eq_true (show ((x1 : Nat) : Int) > 126 by omega), e]
      rfl
  have h3 := main x.1 x.2 rfl (fun h => by
      have := rune_low hi (by rw [hc]; exact h)
      rw [hx, hc] at this
      rw [this]; exact ⟨rfl, rfl⟩) (fun h => by
      have := rune_high hi (by rw [hc]; exact h)
      rwa [hx] at this)
  rw [hc, ← h3]
  show (bif Nat.blt (Int.toNat ((i : Nat) : Int)) s.size then _ else _) = _
  rw [hb, cond_true, hx', Int.toNat_natCast]
  rfl
theorem ref_end (s : ByteArray) : entry_ref.ti0 (true, s, ((s.size : Nat) : Int)) = some (.inr (.inr ())) := by
  have hb : Nat.blt s.size s.size = false := by rw [← Bool.not_eq_true, Nat.blt_eq]; omega
  simp only [entry_ref.ti0, Int.toNat_natCast, hb, cond_false]
theorem ref_is (s : ByteArray) : entry_ref.f s = some (okRef s) := by
  unfold entry_ref.f okRef
  by_cases hs : s.size ≤ 20
  · rw [decide_eq_true (show (s.size : Int) ≤ 20 by omega), cond_true, decide_eq_true hs, Bool.true_and]
    have hl : s.data.toList.length = s.size := by simp
    have hf := rounds_first (t := entry_ref.ti0) (fun i => (true, s, ((i : Nat) : Int))) (fun i => bif okB33 (s.data.toList.getD i 0) then none else some (.inl ((i : Nat) : Int))) (.inr ()) s.size (fun i hi _ => (ref_step hi).trans (by cases okB33 (s.data.toList.getD i 0) <;> rfl)) (fun _ => ref_end s)
    have hf' : entry_ref.li0 (true, s, 0) = some (((List.range s.size).findSome? (fun i => bif okB33 (s.data.toList.getD i 0) then none else some (Sum.inl (β := Unit) ((i : Nat) : Int)))).getD (.inr ())) := hf
    have ha := range_all okB33 0 s.data.toList
    rw [hl] at ha
    have hall : (s.data.toList.all fun c => decide (33 ≤ c.toNat) && decide (c.toNat ≤ 126)) = s.data.toList.all okB33 := rfl
    rw [hall, ← ha, hf']
    rcases find_not (n := s.size) (p := fun i => okB33 (s.data.toList.getD i 0)) (g := fun i => Sum.inl (β := Unit) ((i : Nat) : Int)) with ⟨i, _, h1, h2⟩ | ⟨h1, h2⟩
    · rw [h1, h2]
      simp only [Option.getD_some, Option.bind_some, decide_eq_true (show ((i : Nat) : Int) ≥ 0 by omega), Bool.not_true]
    · rw [h1, h2]
      rfl
  · rw [decide_eq_false (show ¬ (s.size : Int) ≤ 20 by omega), decide_eq_false hs]; rfl
theorem accEq (a b : Acc) : Ty.eqb T_api_Account a b = decide (a = b) := by
  obtain ⟨k, s⟩ := a
  obtain ⟨k', s'⟩ := b
  show (k == k' && (ByteArray.toList s == ByteArray.toList s')) = _
  rw [texts_eq, Bool.eq_iff_iff]
  simp
theorem mget_mput (k k' : Acc) (v : Bool) : ∀ l : List (Acc × Bool), mget T_api_Account .b (mput T_api_Account .b l k v) k' = if k' = k then some v else mget T_api_Account .b l k'
  | [] => by
    simp only [mput, mget, accEq]
    by_cases h : k' = k
    · rw [if_pos h, decide_eq_true h]; rfl
    · rw [if_neg h, decide_eq_false h]; rfl
  | e :: l => by
    have ih := mget_mput k k' v l
    simp only [mput, accEq]
    by_cases h1 : k = e.1
    · rw [decide_eq_true h1]
      simp only [cond_true, mget, accEq]
      by_cases h : k' = k
      · rw [if_pos h, decide_eq_true h]; rfl
      · rw [if_neg h, decide_eq_false h, decide_eq_false (fun h2 => h (h2.trans h1.symm))]; rfl
    · rw [decide_eq_false h1]
      simp only [cond_false, mget, accEq, ih]
      by_cases h : k' = e.1
      · have hne : ¬ k' = k := fun h2 => h1 (h2.symm.trans h)
        rw [if_neg hne, if_neg hne]
      · rw [decide_eq_false h]; rfl
def zL : Lin := ((0, bs []), 0)
def metL (l : List Lin) : Nat → List (Acc × Bool)
  | 0 => []
  | i + 1 => mput T_api_Account .b (metL l i) (l.getD i zL).1 true
theorem met_is (l : List Lin) (k : Acc) : ∀ i, mgetD T_api_Account .b (metL l i) k false = (List.range i).any fun j => decide ((l.getD j zL).1 = k)
  | 0 => rfl
  | i + 1 => by
    have ih := met_is l k i
    unfold mgetD at ih ⊢
    rw [metL, mget_mput, List.range_succ, List.any_append, ← ih]
    by_cases h : k = (l.getD i zL).1
    · rw [if_pos h]; simp [h]
    · rw [if_neg h]
      have : decide ((l.getD i zL).1 = k) = false := decide_eq_false fun h2 => h h2.symm
      rw [List.any_cons, List.any_nil, this, Bool.or_false, Bool.or_false]
def okLine (l : List Lin) (i : Nat) : Bool := !((List.range i).any fun j => decide ((l.getD j zL).1 = (l.getD i zL).1)) && (!((l.getD i zL).2 == 0) && maySB (l.getD i zL).1)
def okLines (l : List Lin) : Bool := (List.range l.length).all (okLine l)
def goodL (l : List Lin) : Prop := ∀ y ∈ l, (Lit.int .i64 y.1.1).wf = true ∧ y.1.2.size ≤ maxLen ∧ Am y.2
theorem goodL.at {l : List Lin} (h : goodL l) {i : Nat} (hi : i < l.length) : Ty.keyFit T_api_Account (l.getD i zL).1 = true := by
  obtain ⟨h1, h2, _⟩ := h (l.getD i zL) (by rw [getD_at hi]; exact List.getElem_mem hi)
  show ((Lit.int .i64 (l.getD i zL).1.1).wf && Nat.ble (l.getD i zL).1.2.size maxLen) = true
  rw [h1, Nat.ble_eq_true_of_le h2]; rfl
theorem dflt_line : (Ty.dflt T_api_Line : (Int × ByteArray) × Int) = zL := rfl
theorem lines_rounds {l : List Lin} (hg : goodL l) (hlen : l.length ≤ 1000) (b : Int) (r : ByteArray) :
    ∃ x, entry_Check.li0 (l, (l.length : Int), 0, b, r, l, []) = some x ∧ (match x with | .inl y => 0 ≤ y.1 ∧ okLines l = false | .inr y => okLines l = true ∧ y.1 = b ∧ y.2.1 = r ∧ y.2.2.1 = l) := by
  have hf := rounds_first (t := entry_Check.ti0) (fun i => (l, (l.length : Int), ((i : Nat) : Int), b, r, l, metL l i)) (fun i => bif okLine l i then none else some (.inl (((i : Nat) : Int), b, r, l, metL l (i + 1)))) (.inr (b, r, l, metL l l.length)) l.length (fun i hi _ => by
    simp only [entry_Check.ti0, inb hi, cond_true, ge0' i, Bool.and_self, Int.toNat_natCast, dflt_line, hg.at hi, met_is, chartMay_is, Option.bind_some, wrap_up (show i < 9223372036854775807 by omega)]
    unfold okLine
    cases (List.range i).any fun j => decide ((l.getD j zL).1 = (l.getD i zL).1)
    · cases ((l.getD i zL).2 == 0)
      · cases maySB (l.getD i zL).1 <;> rfl
      · rfl
    · rfl) (fun _ => by simp only [entry_Check.ti0, outb, cond_false])
  rcases find_not (n := l.length) (p := okLine l) (g := fun i => Sum.inl (β := Int × ByteArray × List Lin × List (Acc × Bool)) (((i : Nat) : Int), b, r, l, metL l (i + 1))) with ⟨i, _, h1, h2⟩ | ⟨h1, h2⟩
  · refine ⟨_, hf, ?_⟩
    rw [h1]
    exact ⟨by simp only; omega, h2⟩
  · refine ⟨_, hf, ?_⟩
    rw [h1]
    exact ⟨h2, rfl, rfl, rfl⟩
theorem amounts_rounds {l : List Lin} (hlen : l.length ≤ 1000) (b : Int) (r : ByteArray) (m : List (Acc × Bool)) : entry_Check.li1 (l, (l.length : Int), 0, b, r, l, m, l, []) = some (b, r, l, m, l, l.map (·.2)) := by
  have := rounds_map (t := entry_Check.ti1) l zL (fun y => y.2) (fun acc i => (l, (l.length : Int), ((i : Nat) : Int), b, r, l, m, l, acc)) (fun acc => (b, r, l, m, l, acc)) (fun i hi => by
    have hl : ((l.take i).map (fun y : Lin => y.2)).length ≤ 1000 := by simp; omega
    simp only [entry_Check.ti1, inb hi, cond_true, ge0' i, Bool.and_self, Int.toNat_natCast, dflt_line, List.length_cons, List.length_nil, Nat.zero_add, Bool.true_and,
      Nat.ble_eq_true_of_le (show (((l.take i).map (fun y : Lin => y.2)).length + 1) * 8 ≤ 140737488355328 by omega), Nat.ble_eq_true_of_le (show ((l.take i).map (fun y : Lin => y.2)).length + 1 ≤ 140737488355328 by omega), wrap_up (show i < 9223372036854775807 by omega)]) (fun acc _ => by simp only [entry_Check.ti1, outb, cond_false])
  exact this
def checkE (x : Ent) : Int := bif decide (x.1 < 0) || (decide (x.1 > 2147483647) || (!okRef x.2.1 || (decide (x.2.2.length < 2) || (decide (x.2.2.length > 8) || !okLines x.2.2)))) then 1 else
  bif fits (x.2.2.map (·.2)).sum then (bif (x.2.2.map (·.2)).sum == 0 then 0 else 12) else 2
theorem goodL.amounts {l : List Lin} (h : goodL l) : Amounts (l.map (·.2)) := by
  intro a ha
  obtain ⟨y, hy, rfl⟩ := List.mem_map.1 ha
  exact (h y hy).2.2
theorem check_is {x : Ent} (hg : goodL x.2.2) : entry_Check.f x = some (checkE x) := by
  obtain ⟨b, r, l⟩ := x
  have hg : goodL l := hg
  unfold entry_Check.f checkE
  simp only [ref_is, Option.bind_some]
  cases decide (b < 0)
  · cases decide (b > 2147483647)
    · cases okRef r
      · rfl
      · simp only [Bool.not_true, cond_false, Bool.false_or]
        by_cases h2 : l.length < 2
        · rw [decide_eq_true (show (l.length : Int) < 2 by omega), decide_eq_true h2]; rfl
        by_cases h8 : l.length > 8
        · rw [decide_eq_false (show ¬ (l.length : Int) < 2 by omega), decide_eq_true (show (l.length : Int) > 8 by omega), decide_eq_false h2, decide_eq_true h8]; rfl
        rw [decide_eq_false (show ¬ (l.length : Int) < 2 by omega), decide_eq_false (show ¬ (l.length : Int) > 8 by omega), decide_eq_false h2, decide_eq_false h8]
        obtain ⟨y, hy, hy2⟩ := lines_rounds hg (by omega) b r
        have hsum := money_Sum_is (l := l.map (·.2)) (by simp; omega) hg.amounts
        simp only [cond_false, hy, Option.bind_some, Bool.false_or]
        cases y with
        | inl y =>
          obtain ⟨h1, h2⟩ := hy2
          rw [h2]
          simp only [decide_eq_true (show y.1 ≥ 0 by omega), cond_true, Bool.not_false]
        | inr y =>
          obtain ⟨b', r', l', m⟩ := y
          obtain ⟨h1, rfl, rfl, rfl⟩ := hy2
          have h1 : okLines l' = true := h1
          have hl8 : l'.length ≤ 8 := by have : ¬ l'.length > 8 := h8; omega
          have har := amounts_rounds (l := l') (by omega) b' r' m
          simp only at har ⊢
          simp only [har, h1, Option.bind_some, Bool.not_true, cond_false]
          have fin : ((money_Sum.f (l'.map (·.2))).bind fun (x5 : Int × Int) => bif x5.2 != 0 then some x5.2 else bif x5.1 != 0 then some 12 else some (0 : Int)) = some (bif fits (l'.map (·.2)).sum then (bif (l'.map (·.2)).sum == 0 then 0 else 12) else 2) := by
            rw [hsum, Option.bind_some]
            unfold sumS
            cases fits (l'.map (·.2)).sum
            · rfl
            · simp only [cond_true, bne_self_eq_false, cond_false, bne]
              cases ((l'.map (·.2)).sum == 0) <;> rfl
          rw [← fin]
          cases l'.map (·.2) <;> rfl
    · rfl
  · rfl
end Go.Proofs.YtpoiijkodpnobaaGreatDoor
end
section
set_option linter.unusedVariables false
set_option maxRecDepth 100000
namespace Go.Proofs.YtpoiijkodpnobaaGreatDoor
open Go Go.Fw
abbrev bursarref12_Same.As : Shs := (.cons (.x T_api_Entry) (.cons (.x T_api_Entry) .nil))
abbrev bursarref12_Same.m : Back := [(false, .b)]
noncomputable abbrev bursarref12_Same.H : HK := hk P G0 E0 J0 [] noLoops 4
theorem bursarref12_Same.rows : TabOK P G0 (tabF []) := rows_ok (ws := []) trivial
theorem bursarref12_Same.hok : HKOK P bursarref12_Same.H := hk_ok e0_ok j0_ok bursarref12_Same.rows (fun g n => noLoops_ok g n) 4
noncomputable abbrev bursarref12_Same.sh6 : SSh := ⟨[(2, (.pt 0 0)), (3, (.pt 1 0)), (5, (.x (.i .i64)))], [.box (.cons (.x (.i .i64)) (.cons (.x .s) (.cons (.x (.l (.g (.p (.g (.p (.i .i64) .s)) (.i .i64))))) .nil))), .box (.cons (.x (.i .i64)) (.cons (.x .s) (.cons (.x (.l (.g (.p (.g (.p (.i .i64) .s)) (.i .i64))))) .nil)))]⟩
noncomputable abbrev bursarref12_Same.os6 : PEnds := [(.ret, ⟨[(4, (.x .b))], []⟩), ((.exit 0), ⟨[], []⟩)]
noncomputable def bursarref12_Same.t6 (s : (Int × (Int × (ByteArray × ((List ((Int × ByteArray) × Int)) × (Int × (ByteArray × (List ((Int × ByteArray) × Int))))))))) : Option ((Int × (Int × (ByteArray × ((List ((Int × ByteArray) × Int)) × (Int × (ByteArray × (List ((Int × ByteArray) × Int)))))))) ⊕ (Bool ⊕ Unit)) := (bif (decide ((s.1 < ((List.length s.2.2.2.1) : Int)))) then (bif ((decide (((0 : Int) ≤ s.1))) && (decide ((s.1 < ((List.length s.2.2.2.1) : Int))))) then (bif ((decide (((0 : Int) ≤ s.1))) && (decide ((s.1 < ((List.length s.2.2.2.2.2.2) : Int))))) then (bif (!((((List.getD s.2.2.2.1 (Int.toNat s.1) (Ty.dflt T_api_Line)).1.1 == (List.getD s.2.2.2.2.2.2 (Int.toNat s.1) (Ty.dflt T_api_Line)).1.1) && (((ByteArray.toList (List.getD s.2.2.2.1 (Int.toNat s.1) (Ty.dflt T_api_Line)).1.2) == (ByteArray.toList (List.getD s.2.2.2.2.2.2 (Int.toNat s.1) (Ty.dflt T_api_Line)).1.2)) && true)) && (((List.getD s.2.2.2.1 (Int.toNat s.1) (Ty.dflt T_api_Line)).2 == (List.getD s.2.2.2.2.2.2 (Int.toNat s.1) (Ty.dflt T_api_Line)).2) && true))) then (some (.inr (.inl false))) else (some (.inl ((IntKind.wrap .i64 (s.1 + (1 : Int))), s.2)))) else none) else none) else (some (.inr (.inr ()))))
theorem bursarref12_Same.t6_ok : ∀ s : Vals bursarref12_Same.sh6.tys, turnK P bursarref12_Same.H (lp []) (bodyAt (codeOf P 21) 6) 0 bursarref12_Same.sh6 bursarref12_Same.os6 s some = bursarref12_Same.t6 s := fun s => by kernel_rfl
noncomputable def bursarref12_Same.l6 : (Int × (Int × (ByteArray × ((List ((Int × ByteArray) × Int)) × (Int × (ByteArray × (List ((Int × ByteArray) × Int)))))))) → Option (Bool ⊕ Unit) := rounds bursarref12_Same.t6
noncomputable def bursarref12_Same.f (a : ((Int × (ByteArray × (List ((Int × ByteArray) × Int)))) × (Int × (ByteArray × (List ((Int × ByteArray) × Int)))))) : Option Bool := (bif (a.1.1 != a.2.1) then (some false) else (bif (!((ByteArray.toList a.1.2.1) == (ByteArray.toList a.2.2.1))) then (some false) else (bif (((List.length a.1.2.2) : Int) != ((List.length a.2.2.2) : Int)) then (some false) else (((bursarref12_Same.l6 ((0 : Int), (a.1.1, (a.1.2.1, (a.1.2.2, a.2)))))).bind fun x2 => (match x2 with | .inl x3 => (some x3) | .inr x3 => (some true))))))
theorem bursarref12_Same.ok : ∀ a : Vals bursarref12_Same.As.tys, fnK P bursarref12_Same.H (lp [(6, (NodeT.summ ⟨bursarref12_Same.sh6, bursarref12_Same.os6, bursarref12_Same.l6⟩ 0))]) 21 bursarref12_Same.As bursarref12_Same.m a some = bursarref12_Same.f a := fun a => by kernel_rfl
noncomputable abbrev bursarref12_Same.row : Row := fnRow 21 bursarref12_Same.As bursarref12_Same.m bursarref12_Same.f
theorem bursarref12_Same.row_ok : RowOK P G0 bursarref12_Same.row := row_told bursarref12_Same.hok (lp_of (l := [(6, (NodeT.summ ⟨bursarref12_Same.sh6, bursarref12_Same.os6, bursarref12_Same.l6⟩ 0))]) ⟨(loop_sum bursarref12_Same.hok (by kernel_rfl) (by kernel_rfl) (l := []) trivial bursarref12_Same.sh6 bursarref12_Same.os6 (by kernel_rfl) bursarref12_Same.t6 bursarref12_Same.t6_ok), trivial⟩) (fun _ => rfl) bursarref12_Same.ok
abbrev entry_made.As : Shs := (.cons (.x T_api_Entry) .nil)
abbrev entry_made.m : Back := [(false, T_api_Entry), (false, (.i .i64))]
noncomputable abbrev entry_made.H : HK := hk P G0 E0 J0 [entry_Check.row] noLoops 4
theorem entry_made.rows : TabOK P G0 (tabF [entry_Check.row]) := rows_ok (ws := [entry_Check.row]) ⟨entry_Check.row_ok, trivial⟩
theorem entry_made.hok : HKOK P entry_made.H := hk_ok e0_ok j0_ok entry_made.rows (fun g n => noLoops_ok g n) 4
noncomputable def entry_made.f (a : (Int × (ByteArray × (List ((Int × ByteArray) × Int))))) : Option ((Int × (ByteArray × (List ((Int × ByteArray) × Int)))) × Int) := (((entry_Check.f a)).bind fun x1 => (bif (x1 != (0 : Int)) then (some (((0 : Int), ((bs []), [])), x1)) else (some (a, (0 : Int)))))
theorem entry_made.ok : ∀ a : Vals entry_made.As.tys, fnK P entry_made.H (lp []) 88 entry_made.As entry_made.m a some = entry_made.f a := fun a => by kernel_rfl
noncomputable abbrev entry_made.row : Row := fnRow 88 entry_made.As entry_made.m entry_made.f
theorem entry_made.row_ok : RowOK P G0 entry_made.row := row_told entry_made.hok (lp_of (l := []) trivial) (fun _ => rfl) entry_made.ok
abbrev entry_Move.As : Shs := (.cons (.x (.i .i64)) (.cons (.x .s) (.cons (.x T_api_Account) (.cons (.x T_api_Account) (.cons (.x (.i .i64)) .nil)))))
abbrev entry_Move.m : Back := [(false, T_api_Entry), (false, (.i .i64))]
noncomputable abbrev entry_Move.H : HK := hk P G0 E0 J0 [money_Sub.row, entry_made.row] noLoops 4
theorem entry_Move.rows : TabOK P G0 (tabF [money_Sub.row, entry_made.row]) := rows_ok (ws := [money_Sub.row, entry_made.row]) ⟨money_Sub.row_ok, ⟨entry_made.row_ok, trivial⟩⟩
theorem entry_Move.hok : HKOK P entry_Move.H := hk_ok e0_ok j0_ok entry_Move.rows (fun g n => noLoops_ok g n) 4
noncomputable def entry_Move.f (a : (Int × (ByteArray × ((Int × ByteArray) × ((Int × ByteArray) × Int))))) : Option ((Int × (ByteArray × (List ((Int × ByteArray) × Int)))) × Int) := (((money_Sub.f ((0 : Int), a.2.2.2.2))).bind fun x5 => (bif (x5.2 != (0 : Int)) then (some (((0 : Int), ((bs []), [])), x5.2)) else (((entry_made.f (a.1, (a.2.1, ((a.2.2.1, x5.1) :: (a.2.2.2 :: [])))))).bind fun x6 => (some x6))))
theorem entry_Move.ok : ∀ a : Vals entry_Move.As.tys, fnK P entry_Move.H (lp []) 50 entry_Move.As entry_Move.m a some = entry_Move.f a := fun a => by kernel_rfl
noncomputable abbrev entry_Move.row : Row := fnRow 50 entry_Move.As entry_Move.m entry_Move.f
theorem entry_Move.row_ok : RowOK P G0 entry_Move.row := row_told entry_Move.hok (lp_of (l := []) trivial) (fun _ => rfl) entry_Move.ok
end Go.Proofs.YtpoiijkodpnobaaGreatDoor
end
section
set_option linter.unusedVariables false
set_option linter.unusedSimpArgs false
namespace Go.Proofs.YtpoiijkodpnobaaGreatDoor
open Go Go.Fw
theorem refRef_rounds (b : Int) (r : ByteArray) (l : List Lin) (hr : r.size ≤ 20) : bursarref12_Check.l6 (0, b, r, l) = some (bif r.data.toList.all okB33 then .inr (b, r, l) else .inl 1) := by
  have hl : r.data.toList.length = r.size := by simp
  have hf := rounds_first (t := bursarref12_Check.t6) (fun i => (((i : Nat) : Int), b, r, l)) (fun i => bif okB33 (r.data.toList.getD i 0) then none else some (.inl (1 : Int))) (.inr (b, r, l)) r.size (fun i hi _ => by
    obtain ⟨c, hc⟩ : ∃ c, r.data.toList.getD i 0 = c := ⟨_, rfl⟩
    have hbt : bt r i = ((c.toNat : Nat) : Int) := by unfold bt; rw [hc]
    simp only [bursarref12_Check.t6, inb hi, cond_true, ge0' i, Bool.and_self, Int.toNat_natCast, hbt, wrap_up (show i < 9223372036854775807 by omega), hc]
    by_cases c1 : c.toNat < 33
    · have e : okB33 c = false := by unfold okB33; rw [decide_eq_false (show ¬ 33 ≤ c.toNat by omega)]; rfl
      rw [decide_eq_true (show ((c.toNat : Nat) : Int) < 33 by omega), e]
      rfl
    · by_cases c2 : c.toNat ≤ 126
      · have e : okB33 c = true := by unfold okB33; rw [decide_eq_true (show 33 ≤ c.toNat by omega), decide_eq_true c2]; rfl
        rw [decide_eq_false (show ¬ ((c.toNat : Nat) : Int) < 33 by omega), decide_eq_false (show ¬ ((c.toNat : Nat) : Int) > 126 by omega), e]
        rfl
      · have e : okB33 c = false := by unfold okB33; rw [decide_eq_false c2, Bool.and_false]
        rw [decide_eq_false (show ¬ ((c.toNat : Nat) : Int) < 33 by omega), decide_eq_true (show ((c.toNat : Nat) : Int) > 126 by omega), e]
        rfl) (fun _ => by simp only [bursarref12_Check.t6, outb, cond_false])
  have hf' : bursarref12_Check.l6 (0, b, r, l) = some (((List.range r.size).findSome? (fun i => bif okB33 (r.data.toList.getD i 0) then none else some (Sum.inl (β := Int × ByteArray × List Lin) (1 : Int)))).getD (.inr (b, r, l))) := hf
  have ha := range_all okB33 0 r.data.toList
  rw [hl] at ha
  rw [hf', ← ha]
  rcases find_not (n := r.size) (p := fun i => okB33 (r.data.toList.getD i 0)) (g := fun i => Sum.inl (β := Int × ByteArray × List Lin) (1 : Int)) with ⟨i, _, h1, h2⟩ | ⟨h1, h2⟩ <;> rw [h1, h2] <;> rfl
theorem acc_beq (a b : Acc) : ((a.1 == b.1) && ((ByteArray.toList a.2 == ByteArray.toList b.2) && true)) = decide (a = b) := by
  obtain ⟨k, s⟩ := a
  obtain ⟨k', s'⟩ := b
  rw [texts_eq, Bool.and_true, Bool.eq_iff_iff]
  simp
theorem inner_rounds12 {l : List Lin} {i : Nat} (hi : i < l.length) (hl : l.length ≤ 1000) (b : Int) (r : ByteArray) (acc : List Int) :
    bursarref12_Check.l10_9 (((i : Nat) : Int), 0, b, r, l, acc) = some (bif (List.range i).any (fun j => decide ((l.getD j zL).1 = (l.getD i zL).1)) then .inl 1 else .inr (((i : Nat) : Int), b, r, l, acc)) := by
  have hf := rounds_first (t := bursarref12_Check.t10_9) (fun k => (((i : Nat) : Int), ((k : Nat) : Int), b, r, l, acc)) (fun k => bif !decide ((l.getD k zL).1 = (l.getD i zL).1) then none else some (.inl (1 : Int))) (.inr (((i : Nat) : Int), b, r, l, acc)) i (fun k hk _ => by
    simp only [bursarref12_Check.t10_9, inb hk, cond_true, ge0' k, ge0' i, inb (show k < l.length by omega), inb hi, Bool.and_self, Int.toNat_natCast, dflt_line, acc_beq, wrap_up (show k < 9223372036854775807 by omega)]
    cases decide ((l.getD k zL).1 = (l.getD i zL).1) <;> rfl) (fun _ => by simp only [bursarref12_Check.t10_9, outb, cond_false])
  have hf' : bursarref12_Check.l10_9 (((i : Nat) : Int), 0, b, r, l, acc) = _ := hf
  rw [hf']
  have hn : (List.range i).any (fun j => decide ((l.getD j zL).1 = (l.getD i zL).1)) = !((List.range i).all fun j => !decide ((l.getD j zL).1 = (l.getD i zL).1)) := by
    rw [List.all_eq_not_any_not, Bool.not_not]
    simp only [Bool.not_not]
  rw [hn]
  rcases find_not (n := i) (p := fun k => !decide ((l.getD k zL).1 = (l.getD i zL).1)) (g := fun k => Sum.inl (β := Int × Int × ByteArray × List Lin × List Int) (1 : Int)) with ⟨k, _, h1, h2⟩ | ⟨h1, h2⟩ <;> rw [h1, h2] <;> rfl
theorem lines12_rounds {l : List Lin} (hl : l.length ≤ 1000) (b : Int) (r : ByteArray) : bursarref12_Check.l10 (0, b, r, l, []) = some (bif okLines l then .inr (l.map (·.2)) else .inl 1) := by
  have hf := rounds_first (t := bursarref12_Check.t10) (fun i => (((i : Nat) : Int), b, r, l, (l.take i).map (·.2))) (fun i => bif okLine l i then none else some (.inl (1 : Int))) (.inr (l.map (·.2))) l.length (fun i hi _ => by
    have hm : ((l.take i).map (fun y : Lin => y.2)).length ≤ 1000 := by simp; omega
    have hup : (l.take (i + 1)).map (fun y : Lin => y.2) = (l.take i).map (fun y : Lin => y.2) ++ [(l.getD i zL).2] := by rw [take_up zL hi, List.map_append]; rfl
    simp only [bursarref12_Check.t10, inb hi, cond_true, ge0' i, Bool.and_self, Int.toNat_natCast, dflt_line, refName_is, Option.bind_some, inner_rounds12 hi hl]
    rw [hup]
    unfold okLine
    cases maySB (l.getD i zL).1
    · simp only [Bool.not_false, cond_true, Bool.and_false, cond_false]
    · simp only [Bool.not_true, cond_false, Bool.and_true]
      cases ((l.getD i zL).2 == 0)
      · simp only [cond_false, Bool.not_false, Bool.and_true]
        cases (List.range i).any (fun j => decide ((l.getD j zL).1 = (l.getD i zL).1))
        · simp only [cond_false, Bool.not_false, cond_true, ge0' i, inb hi, Bool.and_self, Int.toNat_natCast, wrap_up (show i < 9223372036854775807 by omega)]
          obtain ⟨acc, ha⟩ : ∃ acc, (l.take i).map (fun y : Lin => y.2) = acc := ⟨_, rfl⟩
          rw [ha] at hm ⊢
          cases acc with
          | nil => rfl
          | cons x y =>
            simp only [List.length_cons] at hm
            simp only [List.length_cons, List.length_nil, Nat.ble_eq_true_of_le (show (y.length + 1 + (0 + 1)) * 8 ≤ 140737488355328 by omega), Nat.ble_eq_true_of_le (show y.length + 1 + (0 + 1) ≤ 140737488355328 by omega), Bool.and_self, cond_true]
        · rfl
      · simp only [cond_true, Bool.not_true, Bool.and_false, cond_false]) (fun _ => by
    simp only [bursarref12_Check.t10, outb, cond_false, List.take_length])
  have hf' : bursarref12_Check.l10 (0, b, r, l, []) = _ := hf
  rw [hf']
  unfold okLines
  rcases find_not (n := l.length) (p := okLine l) (g := fun i => Sum.inl (β := List Int) (1 : Int)) with ⟨i, _, h1, h2⟩ | ⟨h1, h2⟩ <;> rw [h1, h2] <;> rfl
theorem refCheck_is {x : Ent} (hg : goodL x.2.2) : bursarref12_Check.f x = some (checkE x) := by
  obtain ⟨b, r, l⟩ := x
  have hg : goodL l := hg
  unfold bursarref12_Check.f checkE
  simp only
  cases decide (b < 0)
  · cases decide (b > 2147483647)
    · simp only [cond_false, Bool.false_or]
      by_cases hr : r.size ≤ 20
      · rw [decide_eq_false (show ¬ (r.size : Int) > 20 by omega)]
        have hok : okRef r = r.data.toList.all okB33 := by unfold okRef; rw [decide_eq_true hr, Bool.true_and]; rfl
        simp only [cond_false, hok]
        by_cases h2 : l.length < 2
        · rw [decide_eq_true (show (l.length : Int) < 2 by omega), decide_eq_true h2]
          simp
        by_cases h8 : l.length > 8
        · rw [decide_eq_false (show ¬ (l.length : Int) < 2 by omega), decide_eq_true (show (l.length : Int) > 8 by omega), decide_eq_false h2, decide_eq_true h8]
          simp
        rw [decide_eq_false (show ¬ (l.length : Int) < 2 by omega), decide_eq_false (show ¬ (l.length : Int) > 8 by omega), decide_eq_false h2, decide_eq_false h8]
        simp only [cond_false, Bool.false_or, refRef_rounds b r l hr, Option.bind_some]
        cases r.data.toList.all okB33
        · rfl
        · simp only [cond_true, Bool.not_true, Bool.false_or, lines12_rounds (show l.length ≤ 1000 by omega), Option.bind_some]
          cases okLines l
          · rfl
          · have hsum := ref_Sum_is (l := l.map (·.2)) (by simp; omega) hg.amounts
            simp only [cond_true, Bool.not_true, cond_false, hsum, Option.bind_some]
            unfold sumR
            cases fits (l.map (·.2)).sum
            · rfl
            · simp only [cond_true, Bool.not_true, cond_false, bne]
              cases ((l.map (·.2)).sum == 0) <;> rfl
      · rw [decide_eq_true (show (r.size : Int) > 20 by omega)]
        have hok : okRef r = false := by unfold okRef; rw [decide_eq_false hr]; rfl
        rw [hok]
        rfl
    · rfl
  · rfl
theorem lin_beq (y z : Lin) : (((y.1.1 == z.1.1) && ((ByteArray.toList y.1.2 == ByteArray.toList z.1.2) && true)) && ((y.2 == z.2) && true)) = decide (y = z) := by
  rw [acc_beq]
  obtain ⟨a, n⟩ := y
  obtain ⟨a', n'⟩ := z
  rw [Bool.and_true, Bool.eq_iff_iff]
  simp
theorem same12_is (x y : Ent) (hl : x.2.2.length ≤ 1000) : bursarref12_Same.f (x, y) = some (decide (x = y)) := by
  obtain ⟨b, r, l⟩ := x
  obtain ⟨b', r', l'⟩ := y
  have hl : l.length ≤ 1000 := hl
  unfold bursarref12_Same.f
  simp only [texts_eq]
  by_cases hb : b = b'
  · subst hb
    simp only [bne_self_eq_false, cond_false]
    by_cases hr : r = r'
    · subst hr
      simp only [decide_true, Bool.not_true, cond_false]
      by_cases he : l.length = l'.length
      · have e : (((l.length : Nat) : Int) != ((l'.length : Nat) : Int)) = false := by rw [he]; simp
        have hf := rounds_first (t := bursarref12_Same.t6) (fun i => (((i : Nat) : Int), b, r, l, b, r, l')) (fun i => bif decide (l.getD i zL = l'.getD i zL) then none else some (.inl false)) (.inr ()) l.length (fun i hi _ => by
          simp only [bursarref12_Same.t6, inb hi, inb (show i < l'.length by omega), cond_true, ge0' i, Bool.and_self, Int.toNat_natCast, dflt_line, lin_beq, wrap_up (show i < 9223372036854775807 by omega)]
          cases decide (l.getD i zL = l'.getD i zL) <;> rfl) (fun _ => by simp only [bursarref12_Same.t6, outb, cond_false])
        have hf' : bursarref12_Same.l6 (0, b, r, l, b, r, l') = _ := hf
        simp only [e, cond_false, hf', Option.bind_some]
        have ha : (List.range l.length).all (fun i => decide (l.getD i zL = l'.getD i zL)) = decide (l = l') := by
          rw [Bool.eq_iff_iff, List.all_eq_true, decide_eq_true_eq]
          constructor
          · intro h
            refine List.ext_getElem he fun i h1 h2 => ?_
            have := of_decide_eq_true (h i (List.mem_range.2 h1))
            rwa [getD_at h1, getD_at h2] at this
          · rintro rfl i _; exact decide_eq_true rfl
        rcases find_not (n := l.length) (p := fun i => decide (l.getD i zL = l'.getD i zL)) (g := fun i => Sum.inl (β := Unit) false) with ⟨i, _, h1, h2⟩ | ⟨h1, h2⟩
        · rw [h1]
          rw [ha] at h2
          rw [decide_eq_false (fun h => (of_decide_eq_false h2) (by injection h with _ h; injection h))]
          rfl
        · rw [h1]
          rw [ha] at h2
          rw [of_decide_eq_true h2, decide_eq_true rfl]
          rfl
      · have e : (((l.length : Nat) : Int) != ((l'.length : Nat) : Int)) = true := by simp only [bne_iff_ne, ne_eq]; omega
        rw [e, decide_eq_false (fun h => he (by injection h with _ h; injection h with _ h; rw [h]))]
        rfl
    · rw [decide_eq_false hr, decide_eq_false (fun h => hr (by injection h with _ h; injection h))]
      rfl
  · have e : (b != b') = true := by simpa using hb
    have hne : ¬ ((b, r, l) = (b', r', l')) := fun h => hb (congrArg Prod.fst h)
    rw [e, decide_eq_false hne]
    rfl
theorem made_is {x : Ent} (hg : goodL x.2.2) : entry_made.f x = some (bif checkE x == 0 then (x, 0) else ((0, bs [], []), checkE x)) := by
  unfold entry_made.f
  rw [check_is hg, Option.bind_some, bne]
  cases (checkE x == 0) <;> rfl
theorem goodL_two {k1 k2 : Int} {s1 s2 : ByteArray} {m n : Int} (hk1 : (Lit.int .i64 k1).wf = true) (hk2 : (Lit.int .i64 k2).wf = true) (hs1 : s1.size ≤ 20) (hs2 : s2.size ≤ 20) (hm : Am m) (hn : Am n) :
    goodL [((k1, s1), m), ((k2, s2), n)] := by
  intro y hy
  have hmax : (20 : Nat) ≤ maxLen := by decide
  rcases List.mem_cons.1 hy with rfl | hy
  · exact ⟨hk1, Nat.le_trans hs1 hmax, hm⟩
  · rcases List.mem_cons.1 hy with rfl | hy
    · exact ⟨hk2, Nat.le_trans hs2 hmax, hn⟩
    · cases hy
theorem cut_small {s : ByteArray} {n : Nat} : (s.extract 0 n).size ≤ n := by rw [ByteArray.size_extract]; omega
end Go.Proofs.YtpoiijkodpnobaaGreatDoor
end
section
namespace Go.Proofs
open Go.Shelf
def Tryz.lays283_ren : Go.Shelf.Ren := ⟨fun | 283 => 157 | n => n, fun | 3 => 3 | 9 => 9 | 4 => 4 | n => n, fun | n => n⟩
theorem Tryz.lays283 : Go.Proofs.Lays.n283 Tryz.prog Tryz.lays283_ren := {
  mixed := by kernel_rfl
  f283 := Tryz.func157.trans (congrArg some (by kernel_rfl))
  t3 := Tryz.underlying3
  a3 := Tryz.isAgg3
  z3 := Tryz.sizeOf3
  v3 := Tryz.zeroValue3
  t4 := Tryz.underlying4
  a4 := Tryz.isAgg4
  z4 := Tryz.sizeOf4
  v4 := Tryz.zeroValue4
  t9 := Tryz.underlying9
  a9 := Tryz.isAgg9
  z9 := Tryz.sizeOf9
  v9 := Tryz.zeroValue9 }
def Tryz.laysM284_ren : Go.Shelf.Ren := ⟨fun | 284 => 158 | 129 => 180 | 317 => 179 | 318 => 181 | n => n, fun | 53 => 95 | 3 => 3 | 212 => 237 | 0 => 0 | 4 => 4 | 46 => 163 | 5 => 5 | 9 => 9 | n => n, fun | 17 => 4 | n => n⟩
theorem Tryz.laysM284 : Go.Proofs.LaysM.n284 Tryz.prog Tryz.laysM284_ren := {
  mixed := by kernel_rfl
  f129 := Tryz.func180.trans (congrArg some (by kernel_rfl))
  f284 := Tryz.func158.trans (congrArg some (by kernel_rfl))
  f317 := Tryz.func179.trans (congrArg some (by kernel_rfl))
  f318 := Tryz.func181.trans (congrArg some (by kernel_rfl))
  t0 := Tryz.underlying0
  a0 := Tryz.isAgg0
  z0 := Tryz.sizeOf0
  v0 := Tryz.zeroValue0
  t3 := Tryz.underlying3
  a3 := Tryz.isAgg3
  z3 := Tryz.sizeOf3
  v3 := Tryz.zeroValue3
  t4 := Tryz.underlying4
  a4 := Tryz.isAgg4
  z4 := Tryz.sizeOf4
  v4 := Tryz.zeroValue4
  t5 := Tryz.underlying5
  a5 := Tryz.isAgg5
  z5 := Tryz.sizeOf5
  v5 := Tryz.zeroValue5
  t9 := Tryz.underlying9
  a9 := Tryz.isAgg9
  z9 := Tryz.sizeOf9
  v9 := Tryz.zeroValue9
  t46 := Tryz.underlying163
  a46 := Tryz.isAgg163
  z46 := Tryz.sizeOf163
  v46 := Tryz.zeroValue163
  t53 := Tryz.underlying95
  a53 := Tryz.isAgg95
  z53 := Tryz.sizeOf95
  v53 := Tryz.zeroValue95
  t212 := Tryz.underlying237
  a212 := Tryz.isAgg237
  z212 := Tryz.sizeOf237
  v212 := Tryz.zeroValue237
  g17 := by kernel_rfl
  i0 := by kernel_rfl
  i3 := by kernel_rfl
  i4 := by kernel_rfl
  i5 := by kernel_rfl
  i9 := by kernel_rfl
  i46 := by kernel_rfl
  i53 := by kernel_rfl
  i212 := by kernel_rfl
  m17 := by kernel_rfl }
def Tryz.lays285_ren : Go.Shelf.Ren := ⟨fun | 285 => 159 | n => n, fun | 37 => 132 | 53 => 95 | 3 => 3 | 4 => 4 | 51 => 200 | 9 => 9 | 5 => 5 | 0 => 0 | n => n, fun | n => n⟩
theorem Tryz.lays285 : Go.Proofs.Lays.n285 Tryz.prog Tryz.lays285_ren := {
  mixed := by kernel_rfl
  f285 := Tryz.func159.trans (congrArg some (by kernel_rfl))
  t0 := Tryz.underlying0
  a0 := Tryz.isAgg0
  z0 := Tryz.sizeOf0
  v0 := Tryz.zeroValue0
  t3 := Tryz.underlying3
  a3 := Tryz.isAgg3
  z3 := Tryz.sizeOf3
  v3 := Tryz.zeroValue3
  t4 := Tryz.underlying4
  a4 := Tryz.isAgg4
  z4 := Tryz.sizeOf4
  v4 := Tryz.zeroValue4
  t5 := Tryz.underlying5
  a5 := Tryz.isAgg5
  z5 := Tryz.sizeOf5
  v5 := Tryz.zeroValue5
  t9 := Tryz.underlying9
  a9 := Tryz.isAgg9
  z9 := Tryz.sizeOf9
  v9 := Tryz.zeroValue9
  t37 := Tryz.underlying132
  a37 := Tryz.isAgg132
  z37 := Tryz.sizeOf132
  v37 := Tryz.zeroValue132
  t51 := Tryz.underlying200
  a51 := Tryz.isAgg200
  z51 := Tryz.sizeOf200
  v51 := Tryz.zeroValue200
  t53 := Tryz.underlying95
  a53 := Tryz.isAgg95
  z53 := Tryz.sizeOf95
  v53 := Tryz.zeroValue95 }
end Go.Proofs
end
section
set_option linter.unusedVariables false
namespace Go.Proofs
open Go.Shelf Go.RowKit Go.Sort Go.Lib
theorem Tryz.holds_zero0 (w : World) (T : TypeId) (nd : Nat) (hs : nd ≤ 24) : Holds (fun (b : UInt8) => Value.int .u8 (b.toNat : Int)) (w.alloc (.cells zeros24 T)) w.heap.size 0 (Array.replicate nd (0 : UInt8)) := fun j hj => by
  have hj' : j < nd := by simpa using hj
  refine ⟨?_, World.frozen?_alloc_new _ _ _ _⟩
  rw [World.cell?_alloc_new, zeros24_at _ (by omega), getElem!_pos _ j hj]
  simp
theorem Tryz.fin0 (w : World) (o : Obj) (dk : Array UInt8) (k : Nat) : ∃ os, (putRow (fun (b : UInt8) => Value.int .u8 (b.toNat : Int)) (w.alloc o) w.heap.size 0 dk).drewN k = grow (w.drewN k) os := by
  rw [alloc_eq_grow]
  obtain ⟨os', _, e⟩ := putRow_grow_new (fun (b : UInt8) => Value.int .u8 (b.toNat : Int)) w #[o] w.heap.size 0 dk (Nat.le_refl _)
  exact ⟨os', by rw [e]; rfl⟩
set_option maxHeartbeats 6400000 in
set_option maxRecDepth 100000 in
theorem Tryz.fmtUint_in (u : Nat) (hu64 : u < 18446744073709551616) (w : World) (htab : Lib.TabIs Tryz.prog w "internal/strconv.uint64pow10" .u64 Lib.pow10Tab) :
    Calls Tryz.prog 123 #[.int .u64 u, .int .i64 10] w fun e w' => e = .returned (.string ⟨(Lib.decDigits u).toArray⟩) ∧ ∃ k os, w' = grow (w.drewN k) os := by
  by_cases hs : u < 100
  · go_enter Tryz.func123, Tryz.ntmps123
    go_wp2_with (go_at_call 157; refine (Any.internal_strconv_small Tryz.lays283 u hs _).mono ?_; rintro e w' ⟨rfl, rfl⟩)
    go_ret
    exact ⟨rfl, 0, #[], by simp [World.drewN_zero]⟩
  · have hu1 : 1 ≤ u := by omega
    have hnd20 : Lib.nDigits u ≤ 20 := by have := Lib.numDigits_eq u hu1 hu64; split at this <;> omega
    have hb3 : Lib.nDigits u ≤ 24 := by omega
    have hal : Tryz.prog.arrayLen 211 = 24 := by kernel_rfl
    have hsl1 : ∀ W, (Instr.sliceAt 211 (.pointer (some ⟨w.heap.size, 0, none⟩)) none (some (.int .i64 (Lib.nDigits u : Int))) none).run Tryz.prog W = .ok (.slice (some ⟨w.heap.size, 0, none⟩) (Lib.nDigits u) 24) W := fun W => by
      rw [run_sliceAt_array_h W 211 ⟨w.heap.size, 0, none⟩ (by simp [Program.arrayLen, Program.elem, Tryz.underlying211]) .i64 (Lib.nDigits u : Int) (by omega) (by rw [hal]; omega)]
      go_simp
    have hH0 := Tryz.holds_zero0 w 211 (Lib.nDigits u) (by omega)
    have hfmt := Any.internal_strconv_formatBase10 Tryz.lays285 w.heap.size 0 24 u (Array.replicate (Lib.nDigits u) 0) (w.alloc (.cells Lib.zeros24 211)) hH0 (by rw [Array.size_replicate]; exact Lib.lt_pow_nDigits u) hu64 (by rw [Array.size_replicate]; omega)
    rw [Array.size_replicate] at hfmt
    have HH0 := Lib.hid hH0
    clear hH0 hal
    go_enter Tryz.func123, Tryz.ntmps123
    go_wp2_with (first
      | (go_at_call 158; refine (Any.internal_strconv_numDigits Tryz.laysM284 u hu1 hu64 _ (Lib.tabIs_alloc htab _)).mono ?_; rintro e w' ⟨rfl, rfl⟩))
    go_at_call 159
    refine hfmt.mono ?_
    rintro e w' ⟨rfl, k, v', dk, rfl, hF⟩
    have hcv : (convert 132 9 (.slice (some ⟨w.heap.size, 0, none⟩) (Lib.nDigits u) 24)).run Tryz.prog ((putRow (fun (b : UInt8) => Value.int .u8 (b.toNat : Int)) (w.alloc (.cells Lib.zeros24 211)) w.heap.size 0 dk).drewN k) = .ok (.string ⟨(Lib.decDigits u).toArray⟩) ((putRow (fun (b : UInt8) => Value.int .u8 (b.toNat : Int)) (w.alloc (.cells Lib.zeros24 211)) w.heap.size 0 dk).drewN k) := by
      have h := run_convert_bytes_back (P := Tryz.prog) ((putRow (fun (b : UInt8) => Value.int .u8 (b.toNat : Int)) (w.alloc (.cells Lib.zeros24 211)) w.heap.size 0 dk).drewN k) 132 9 5 ⟨w.heap.size, 0, none⟩ 24 (Lib.decDigits u) Tryz.underlying132 Tryz.underlying5 Tryz.underlying9 (fun j hj => by
        rw [Lib.row_is_numeral hF j hj, Lib.add_plain, World.cell?_drewN]
        exact cell?_putRow (fun (b : UInt8) => Value.int .u8 (b.toNat : Int)) _ w.heap.size 0 _ dk HH0.out (by rw [hF.size, Array.size_replicate]) j (by rw [hF.size]; rw [Lib.decDigits_length] at hj; exact hj))
      rw [Lib.decDigits_length] at h
      exact h
    go_wp2
    go_ret
    obtain ⟨os, eo⟩ := Tryz.fin0 w (.cells Lib.zeros24 211) dk k
    exact ⟨rfl, k, os, eo⟩
set_option maxRecDepth 100000 in
theorem Tryz.fmtUint (u : Nat) (hu64 : u < 18446744073709551616) (w : World) (htab : Lib.TabIs Tryz.prog w "internal/strconv.uint64pow10" .u64 Lib.pow10Tab) :
    Calls Tryz.prog 89 #[.int .u64 u, .int .i64 10] w fun e w' => e = .returned (.string ⟨(Lib.decDigits u).toArray⟩) ∧ ∃ k os, w' = grow (w.drewN k) os := by
  go_enter Tryz.func89, Tryz.ntmps89
  go_wp2_with (go_at_call 123; refine (Tryz.fmtUint_in u hu64 _ htab).mono ?_; rintro e w' ⟨rfl, k, os, rfl⟩)
  go_ret
  exact ⟨rfl, k, os, rfl⟩
end Go.Proofs
end
section
set_option linter.unusedVariables false
namespace Go.Proofs.YtpoiijkodpnobaaGreatDoor
open Go Go.Fw Go.RowKit
theorem grow_below (w : World) (k : Nat) (os : Array Obj) : Below w.heap.size w (Sort.grow (w.drewN k) os) := by
  have h : Below w.heap.size w (w.drewN k) := by
    induction k with
    | zero => rw [World.drewN_zero]; exact .refl _ _
    | succ k ih => exact ⟨rfl, rfl, rfl, Nat.le_refl _, fun _ _ => rfl⟩
  exact h.trans ⟨rfl, rfl, rfl, by simp [Sort.grow], fun i hi => by
    show ((w.drewN k).heap ++ os)[i]? = _
    rw [Array.getElem?_append, if_pos (Nat.lt_of_lt_of_le hi h.size)]⟩
theorem ent_of {g : FuncId} {fn : Func} (h : P.funcs[g]? = some fn) (hn : (fn.name == "runtime.NumGoroutine") = false) (hb : fn.body.isNone = false) : Fw.Enters P g := ⟨fn, h, hn, hb⟩
theorem pcall_belowI {G : Nat → Option (List D)} {g : FuncId} {ds : List D} {r : D}
    (h : ∀ (w : World) (I K : Mem) (vs : Array Value), Glob ⟨w, I, K, fun _ => 0, fun _ => 0, G⟩ → (∀ b, I b → b < w.heap.size) → (∀ b, K b → b < w.heap.size) → vs.size = ds.length → (∀ (j : Nat) (d : D), ds[j]? = some d → RelD w I d (vs.getD j undef)) →
      Calls P g vs w fun e w' => ∃ v, e = .returned v ∧ Below w.heap.size w w' ∧ RelX w' I K r v) : PCall P G g ds r := by
  intro w I K vs hg hI hK hd hsz hargs
  refine (h w I K vs hg hI hK hsz hargs).mono ?_
  rintro e w' ⟨v, rfl, hb, hx⟩
  refine ⟨v, I, rfl, hb.size, fun b hb' => ⟨hb', hb.block b (hI b hb')⟩, fun b hb' => hb.block b (hK b hb'), fun b hb' => ⟨Nat.lt_of_lt_of_le (hI b hb') hb.size, hd b hb'⟩, fun b cs e fz hc => ⟨cs, ?_, rfl⟩, hb.os, hb.tape, hb.output, hx⟩
  rw [hb.block b (Array.getElem?_eq_some_iff.1 hc).1]
  exact hc
theorem alloc_below (w : World) (o : Obj) : Below w.heap.size w (w.alloc o) := ⟨rfl, rfl, rfl, by show w.heap.size ≤ (w.heap.push _).size; simp, fun i hi => by
  show (w.heap.push o)[i]? = _
  rw [Array.getElem?_push, if_neg (by omega)]⟩
theorem frOK_alloc {w : World} {I K : Mem} {xs : List D} {vs : List Value} {t : TypeId} (hI : ∀ b, I b → b < w.heap.size) (hK : ∀ b, K b → b < w.heap.size) (hl : xs.length = vs.length) (hw : ∀ x ∈ xs, x.cells = [x]) (h1 : ∀ v ∈ vs, v.oneCell' = true)
    (h : ∀ (j : Nat) (d : D), xs[j]? = some d → RelD (w.alloc (.cells vs.toArray t)) I d (vs.toArray.getD j undef)) : FrOK (w.alloc (.cells vs.toArray t)) I K 1 xs (.slice (some ⟨w.heap.size, 0, none⟩) xs.length xs.length) := by
  have hh : (w.alloc (.cells vs.toArray t)).heap[w.heap.size]? = some (.cells vs.toArray t) := by
    show (w.heap.push _)[w.heap.size]? = _
    rw [Array.getElem?_push, if_pos rfl]
  refine ⟨_, _, rfl, Nat.le_refl _, rfl, .inl rfl, fun hb => Nat.lt_irrefl _ (hI _ hb), fun hb => Nat.lt_irrefl _ (hK _ hb), ⟨rfl, vs.toArray, t, _, hh, fun o _ ho => by omega, fun x hx => by simp [D.width, hw x hx], by omega, by simp [hl], fun j hj => ?_, fun j k x d hx hd => ?_⟩, _, _, _, hh, by simp [hl], by simp⟩
  · have hj' : j < vs.length := by omega
    rw [Array.getD_eq_getD_getElem?]
    simp only [List.getElem?_toArray, List.getElem?_eq_getElem hj', Option.getD_some]
    exact h1 _ (List.getElem_mem hj')
  · have hm : x ∈ xs := List.mem_of_getElem? hx
    rw [hw x hm] at hd
    cases k with
    | zero =>
      simp only [List.getElem?_cons_zero, Option.some.injEq] at hd
      subst hd
      have := h j x hx
      rw [show j * 1 + 0 = j by omega]
      exact this
    | succ k => simp at hd
end Go.Proofs.YtpoiijkodpnobaaGreatDoor
end
section
set_option linter.unusedVariables false
namespace Go.Proofs.YtpoiijkodpnobaaGreatDoor
open Go Go.Fw Go.RowKit
abbrev strconv_FormatUint.As : Shs := .cons (.x (.i .u64)) (.cons (.x (.i .i64)) .nil)
abbrev strconv_FormatUint.m : Back := [(false, .s)]
abbrev strconv_FormatUint.f (a : (Int × Int)) : Option ByteArray := fmtU a
noncomputable abbrev strconv_FormatUint.row : Row := fnRow 89 strconv_FormatUint.As strconv_FormatUint.m strconv_FormatUint.f
theorem strconv_FormatUint.row_ok : RowOK P G0 strconv_FormatUint.row := by
  have key : ∀ (ds : List D) (a : Int × Int) (q : ByteArray), decArgs strconv_FormatUint.As ds = some a → strconv_FormatUint.f a = some q → Fw.Enters P 89 ∧ PCall P G0 89 ds (.s q) := by
    intro ds a q ha hq
    refine ⟨ent_of Tryz.func89 (by kernel_rfl) (by kernel_rfl), ?_⟩
    have hds := (decArgs_argD ha).symm
    refine PCall.coe (ds' := argD strconv_FormatUint.As a) ?_ (by rw [← hds]; exact coeA_len) fun w I f hf => by rw [← hds]; exact coeA_rel hf
    refine pcall_below fun w I K vs hg hsz hr => ?_
    have h0 := hr 0 (.i .u64 a.1) rfl
    have h1 := hr 1 (.i .i64 a.2) rfl
    have hvs : vs = #[.int .u64 a.1, .int .i64 a.2] := by
      have hs : vs.size = 2 := hsz
      rw [Array.getD_eq_getD_getElem?, Array.getElem?_eq_getElem (by omega)] at h0 h1
      simp only [Option.getD_some] at h0 h1
      refine Array.ext (by simpa using hs) fun i hi hi' => ?_
      match i, hi with
      | 0, _ => cases h : vs[0] <;> rw [h] at h0 <;> cases h0; rfl
      | 1, _ => cases h : vs[1] <;> rw [h] at h1 <;> cases h1; rfl
      | i + 2, hi => omega
    subst hvs
    unfold strconv_FormatUint.f fmtU at hq
    obtain ⟨hb, hq⟩ := cond_some hq
    simp only [Bool.and_eq_true, decide_eq_true_eq] at hb
    obtain ⟨⟨h2, h3⟩, h4⟩ := hb
    injection hq with hq
    subst hq
    obtain ⟨u, hu⟩ : ∃ u : Nat, a.1 = u := ⟨a.1.toNat, by omega⟩
    rw [hu, h4]
    refine (Tryz.fmtUint u (by omega) w (tab_of_glob hg (g := 4) (by kernel_rfl) rfl)).mono ?_
    rintro e w' ⟨rfl, k, os, rfl⟩
    refine ⟨_, rfl, grow_below w k os, ?_⟩
    rw [decF_is 19 _ (by omega)]
    exact RelD.s _
  exact fun ds a q => key ds a q
end Go.Proofs.YtpoiijkodpnobaaGreatDoor
end
section
namespace Go.Proofs
open Go.Shelf
def Tryz.laysPu14_ren : Go.Shelf.Ren := ⟨fun | 14 => 86 | 16 => 121 | 17 => 122 | 19 => 151 | 20 => 152 | 21 => 153 | 22 => 154 | 23 => 155 | 24 => 156 | 25 => 177 | 27 => 52 | 26 => 178 | 28 => 90 | 29 => 124 | 30 => 157 | 31 => 158 | 32 => 159 | 33 => 160 | 35 => 180 | 34 => 179 | 36 => 181 | 37 => 182 | 38 => 183 | 39 => 189 | 40 => 190 | n => n, fun | 9 => 9 | 3 => 3 | 22 => 95 | 24 => 141 | 25 => 142 | 4 => 4 | 34 => 206 | 5 => 5 | 36 => 163 | 37 => 132 | 0 => 0 | 39 => 208 | 21 => 21 | 44 => 234 | 47 => 204 | 50 => 247 | 48 => 245 | 2 => 2 | 52 => 211 | 55 => 214 | 59 => 237 | 60 => 200 | 20 => 20 | 61 => 238 | 65 => 257 | 66 => 258 | 67 => 173 | n => n, fun | 0 => 2 | 1 => 3 | 2 => 4 | 3 => 6 | 4 => 7 | n => n⟩
theorem Tryz.laysPu14 : Go.Proofs.LaysPu.n14 Tryz.prog Tryz.laysPu14_ren := {
  mixed := by kernel_rfl
  f14 := Tryz.func86.trans (congrArg some (by kernel_rfl))
  f16 := Tryz.func121.trans (congrArg some (by kernel_rfl))
  f17 := Tryz.func122.trans (congrArg some (by kernel_rfl))
  f19 := Tryz.func151.trans (congrArg some (by kernel_rfl))
  f20 := Tryz.func152.trans (congrArg some (by kernel_rfl))
  f21 := Tryz.func153.trans (congrArg some (by kernel_rfl))
  f22 := Tryz.func154.trans (congrArg some (by kernel_rfl))
  f23 := Tryz.func155.trans (congrArg some (by kernel_rfl))
  f24 := Tryz.func156.trans (congrArg some (by kernel_rfl))
  f25 := Tryz.func177.trans (congrArg some (by kernel_rfl))
  f26 := Tryz.func178.trans (congrArg some (by kernel_rfl))
  f27 := Tryz.func52.trans (congrArg some (by kernel_rfl))
  f28 := Tryz.func90.trans (congrArg some (by kernel_rfl))
  f29 := Tryz.func124.trans (congrArg some (by kernel_rfl))
  f30 := Tryz.func157.trans (congrArg some (by kernel_rfl))
  f31 := Tryz.func158.trans (congrArg some (by kernel_rfl))
  f32 := Tryz.func159.trans (congrArg some (by kernel_rfl))
  f33 := Tryz.func160.trans (congrArg some (by kernel_rfl))
  f34 := Tryz.func179.trans (congrArg some (by kernel_rfl))
  f35 := Tryz.func180.trans (congrArg some (by kernel_rfl))
  f36 := Tryz.func181.trans (congrArg some (by kernel_rfl))
  f37 := Tryz.func182.trans (congrArg some (by kernel_rfl))
  f38 := Tryz.func183.trans (congrArg some (by kernel_rfl))
  f39 := Tryz.func189.trans (congrArg some (by kernel_rfl))
  f40 := Tryz.func190.trans (congrArg some (by kernel_rfl))
  t0 := Tryz.underlying0
  a0 := Tryz.isAgg0
  z0 := Tryz.sizeOf0
  v0 := Tryz.zeroValue0
  i0 := by kernel_rfl
  t2 := Tryz.underlying2
  a2 := Tryz.isAgg2
  z2 := Tryz.sizeOf2
  v2 := Tryz.zeroValue2
  i2 := by kernel_rfl
  t3 := Tryz.underlying3
  a3 := Tryz.isAgg3
  z3 := Tryz.sizeOf3
  v3 := Tryz.zeroValue3
  i3 := by kernel_rfl
  t4 := Tryz.underlying4
  a4 := Tryz.isAgg4
  z4 := Tryz.sizeOf4
  v4 := Tryz.zeroValue4
  i4 := by kernel_rfl
  t5 := Tryz.underlying5
  a5 := Tryz.isAgg5
  z5 := Tryz.sizeOf5
  v5 := Tryz.zeroValue5
  i5 := by kernel_rfl
  t9 := Tryz.underlying9
  a9 := Tryz.isAgg9
  z9 := Tryz.sizeOf9
  v9 := Tryz.zeroValue9
  i9 := by kernel_rfl
  t20 := Tryz.underlying20
  a20 := Tryz.isAgg20
  z20 := Tryz.sizeOf20
  v20 := Tryz.zeroValue20
  i20 := by kernel_rfl
  t21 := Tryz.underlying21
  a21 := Tryz.isAgg21
  z21 := Tryz.sizeOf21
  v21 := Tryz.zeroValue21
  i21 := by kernel_rfl
  t22 := Tryz.underlying95
  a22 := Tryz.isAgg95
  z22 := Tryz.sizeOf95
  v22 := Tryz.zeroValue95
  i22 := by kernel_rfl
  t24 := Tryz.underlying141
  a24 := Tryz.isAgg141
  z24 := Tryz.sizeOf141
  v24 := Tryz.zeroValue141
  i24 := by kernel_rfl
  t25 := Tryz.underlying142
  a25 := Tryz.isAgg142
  z25 := Tryz.sizeOf142
  v25 := Tryz.zeroValue142
  i25 := by kernel_rfl
  t34 := Tryz.underlying206
  a34 := Tryz.isAgg206
  z34 := Tryz.sizeOf206
  v34 := Tryz.zeroValue206
  i34 := by kernel_rfl
  c34 := by kernel_rfl
  t36 := Tryz.underlying163
  a36 := Tryz.isAgg163
  z36 := Tryz.sizeOf163
  v36 := Tryz.zeroValue163
  i36 := by kernel_rfl
  t37 := Tryz.underlying132
  a37 := Tryz.isAgg132
  z37 := Tryz.sizeOf132
  v37 := Tryz.zeroValue132
  i37 := by kernel_rfl
  t39 := Tryz.underlying208
  a39 := Tryz.isAgg208
  z39 := Tryz.sizeOf208
  v39 := Tryz.zeroValue208
  i39 := by kernel_rfl
  t44 := Tryz.underlying234
  a44 := Tryz.isAgg234
  z44 := Tryz.sizeOf234
  v44 := Tryz.zeroValue234
  i44 := by kernel_rfl
  t47 := Tryz.underlying204
  a47 := Tryz.isAgg204
  z47 := Tryz.sizeOf204
  v47 := Tryz.zeroValue204
  i47 := by kernel_rfl
  t48 := Tryz.underlying245
  a48 := Tryz.isAgg245
  z48 := Tryz.sizeOf245
  v48 := Tryz.zeroValue245
  i48 := by kernel_rfl
  t50 := Tryz.underlying247
  a50 := Tryz.isAgg247
  z50 := Tryz.sizeOf247
  v50 := Tryz.zeroValue247
  i50 := by kernel_rfl
  t52 := Tryz.underlying211
  a52 := Tryz.isAgg211
  z52 := Tryz.sizeOf211
  v52 := Tryz.zeroValue211
  i52 := by kernel_rfl
  t55 := Tryz.underlying214
  a55 := Tryz.isAgg214
  z55 := Tryz.sizeOf214
  v55 := Tryz.zeroValue214
  i55 := by kernel_rfl
  t59 := Tryz.underlying237
  a59 := Tryz.isAgg237
  z59 := Tryz.sizeOf237
  v59 := Tryz.zeroValue237
  i59 := by kernel_rfl
  t60 := Tryz.underlying200
  a60 := Tryz.isAgg200
  z60 := Tryz.sizeOf200
  v60 := Tryz.zeroValue200
  i60 := by kernel_rfl
  t61 := Tryz.underlying238
  a61 := Tryz.isAgg238
  z61 := Tryz.sizeOf238
  t65 := Tryz.underlying257
  a65 := Tryz.isAgg257
  z65 := Tryz.sizeOf257
  v65 := Tryz.zeroValue257
  i65 := by kernel_rfl
  t66 := Tryz.underlying258
  a66 := Tryz.isAgg258
  z66 := Tryz.sizeOf258
  v66 := Tryz.zeroValue258
  i66 := by kernel_rfl
  t67 := Tryz.underlying173
  a67 := Tryz.isAgg173
  z67 := Tryz.sizeOf173
  v67 := Tryz.zeroValue173
  i67 := by kernel_rfl
  g0 := by kernel_rfl
  m0 := by kernel_rfl
  g1 := by kernel_rfl
  m1 := by kernel_rfl
  g2 := by kernel_rfl
  m2 := by kernel_rfl
  g3 := by kernel_rfl
  m3 := by kernel_rfl
  g4 := by kernel_rfl
  m4 := by kernel_rfl }
end Go.Proofs
end
section
set_option linter.unusedVariables false
namespace Go.Proofs.YtpoiijkodpnobaaGreatDoor
open Go Go.Fw Go.RowKit Go.Shelf
def parseU (l : List UInt8) : Int × Bool := match Lib.parseUintB 64 l with
  | .ok u => ((u : Int), false)
  | .«syntax» => (0, true)
  | .range => (18446744073709551615, true)
abbrev strconv_ParseUint.As : Shs := .cons (.x .s) (.cons (.x (.i .i64)) (.cons (.x (.i .i64)) .nil))
abbrev strconv_ParseUint.m : Back := [(false, .i .u64), (false, .e)]
abbrev strconv_ParseUint.f (a : (ByteArray × (Int × Int))) : Option (Int × Bool) := bif decide (a.2.1 = 10) && decide (a.2.2 = 64) && decide (a.1.size ≤ 281474976710656) then some (parseU a.1.data.toList) else none
noncomputable abbrev strconv_ParseUint.row : Row := fnRow 86 strconv_ParseUint.As strconv_ParseUint.m strconv_ParseUint.f
theorem bytes_below (w : World) (t : TypeId) (s : ByteArray) : Below w.heap.size w (Lib.bytesWorld w t s) := by
  unfold Lib.bytesWorld World.freeze
  rw [if_neg (by decide)]
  refine ⟨rfl, rfl, rfl, by simp, fun k hk => ?_⟩
  show ((w.heap.push _).modify _ _)[k]? = _
  rw [Array.getElem?_modify, if_neg (by show ¬ w.heap.size = k; omega), Array.getElem?_push, if_neg (by omega)]
theorem strconv_ParseUint.row_ok : RowOK P G1 strconv_ParseUint.row := by
  have key : ∀ (ds : List D) (a : ByteArray × (Int × Int)) (q : Int × Bool), decArgs strconv_ParseUint.As ds = some a → strconv_ParseUint.f a = some q → Fw.Enters P 86 ∧ PCall P G1 86 ds (.tp [.i .u64 q.1, .er q.2]) := by
    intro ds a q ha hq
    refine ⟨ent_of Tryz.func86 (by kernel_rfl) (by kernel_rfl), ?_⟩
    have hds := (decArgs_argD ha).symm
    refine PCall.coe (ds' := argD strconv_ParseUint.As a) ?_ (by rw [← hds]; exact coeA_len) fun w I f hf => by rw [← hds]; exact coeA_rel hf
    refine pcall_below fun w I K vs hg hsz hr => ?_
    have h0 := hr 0 (.s a.1) rfl
    have h1 := hr 1 (.i .i64 a.2.1) rfl
    have h2 := hr 2 (.i .i64 a.2.2) rfl
    have hvs : vs = #[.string a.1, .int .i64 a.2.1, .int .i64 a.2.2] := by
      have hs : vs.size = 3 := hsz
      rw [Array.getD_eq_getD_getElem?, Array.getElem?_eq_getElem (by omega)] at h0 h1 h2
      simp only [Option.getD_some] at h0 h1 h2
      refine Array.ext (by simpa using hs) fun i hi hi' => ?_
      match i, hi with
      | 0, _ => cases h : vs[0] <;> rw [h] at h0 <;> cases h0; rfl
      | 1, _ => cases h : vs[1] <;> rw [h] at h1 <;> cases h1; rfl
      | 2, _ => cases h : vs[2] <;> rw [h] at h2 <;> cases h2; rfl
      | i + 3, hi => omega
    subst hvs
    unfold strconv_ParseUint.f at hq
    obtain ⟨hb, hq⟩ := cond_some hq
    simp only [Bool.and_eq_true, decide_eq_true_eq] at hb
    obtain ⟨⟨h3, h4⟩, h5⟩ := hb
    rw [h3, h4]
    injection hq with hq
    subst hq
    unfold parseU
    have tup : ∀ (w' : World) (n : Int) (b : Bool) (v : Value), RelD w' I (.er b) v → RelX w' I K (.tp [.i .u64 n, .er b]) (.tuple #[.int .u64 n, v]) := fun w' n b v hv => ⟨_, rfl, RelD.i .u64 n, ⟨hv, trivial, fun b h => by cases b <;> cases h⟩, fun b h => by cases h⟩
    cases hp : Lib.parseUintB 64 a.1.data.toList with
    | ok u =>
      refine (Any.strconv_ParseUint_10_at64_ok Tryz.laysPu14 a.1 (by omega) u hp w).mono ?_
      rintro e w' ⟨rfl, hw⟩
      refine ⟨_, rfl, ?_, tup w' u false _ .er0⟩
      rcases hw with rfl | rfl
      · exact .refl _ _
      · exact bytes_below _ _ _
    | «syntax» =>
      obtain ⟨tp, p, hv⟩ := err_of_glob (P := P) hg (g := 2) (name := "strconv.ErrSyntax") (by kernel_rfl) rfl
      refine (Any.strconv_ParseUint_10_at64_syntax_var Tryz.laysPu14 a.1 h5 hp tp p w hv).mono ?_
      rintro e w' ⟨N, rfl, _, _, hb⟩
      exact ⟨_, rfl, hb, tup w' 0 true _ (.er1 _ _)⟩
    | range =>
      obtain ⟨tp, p, hv⟩ := err_of_glob (P := P) hg (g := 3) (name := "strconv.ErrRange") (by kernel_rfl) rfl
      refine (Any.strconv_ParseUint_10_at64_range_var Tryz.laysPu14 a.1 h5 hp tp p w hv).mono ?_
      rintro e w' ⟨N, rfl, _, _, hb⟩
      exact ⟨_, rfl, hb, tup w' 18446744073709551615 true _ (.er1 _ _)⟩
  exact fun ds a q => key ds a q
end Go.Proofs.YtpoiijkodpnobaaGreatDoor
end
section
set_option linter.unusedVariables false
set_option linter.unusedSimpArgs false
namespace Go.Proofs.YtpoiijkodpnobaaGreatDoor
open Go Go.Fw
def body (n : Nat) : List UInt8 := decP 19 (n / 1000) ++ [dgt (n / 100 % 10), 46, dgt (n / 10 % 10), dgt (n % 10)]
theorem fmtU_is {n : Nat} (h : n < 18446744073709551616) : fmtU ((n : Int), 10) = some (bs (decF 20 n)) := by
  unfold fmtU
  have h1 : (decide ((0 : Int) ≤ (n : Int)) && decide ((n : Int) < 18446744073709551616) && decide ((10 : Int) = 10)) = true := by
    have h0 : (n : Int) < 18446744073709551616 := by omega
    simp [h0]
  rw [h1]
  simp [bs]
end Go.Proofs.YtpoiijkodpnobaaGreatDoor
end
section
set_option linter.unusedVariables false
set_option maxRecDepth 100000
namespace Go.Proofs.YtpoiijkodpnobaaGreatDoor
open Go Go.Fw
abbrev trade_pan.As : Shs := (.cons (.x .s) .nil)
abbrev trade_pan.m : Back := [(false, .b)]
noncomputable abbrev trade_pan.H : HK := hk P G0 E0 J0 [chart_May.row] noLoops 4
theorem trade_pan.rows : TabOK P G0 (tabF [chart_May.row]) := rows_ok (ws := [chart_May.row]) ⟨chart_May.row_ok, trivial⟩
theorem trade_pan.hok : HKOK P trade_pan.H := hk_ok e0_ok j0_ok trade_pan.rows (fun g n => noLoops_ok g n) 4
noncomputable def trade_pan.f (a : ByteArray) : Option Bool := (((chart_May.f ((1 : Int), a))).bind fun x1 => (some x1))
theorem trade_pan.ok : ∀ a : Vals trade_pan.As.tys, fnK P trade_pan.H (lp []) 47 trade_pan.As trade_pan.m a some = trade_pan.f a := fun a => by kernel_rfl
noncomputable abbrev trade_pan.row : Row := fnRow 47 trade_pan.As trade_pan.m trade_pan.f
theorem trade_pan.row_ok : RowOK P G0 trade_pan.row := row_told trade_pan.hok (lp_of (l := []) trivial) (fun _ => rfl) trade_pan.ok
abbrev trade_acq.As : Shs := (.cons (.x .s) .nil)
abbrev trade_acq.m : Back := [(false, .b)]
noncomputable abbrev trade_acq.H : HK := hk P G0 E0 J0 [chart_May.row] noLoops 4
theorem trade_acq.rows : TabOK P G0 (tabF [chart_May.row]) := rows_ok (ws := [chart_May.row]) ⟨chart_May.row_ok, trivial⟩
theorem trade_acq.hok : HKOK P trade_acq.H := hk_ok e0_ok j0_ok trade_acq.rows (fun g n => noLoops_ok g n) 4
noncomputable def trade_acq.f (a : ByteArray) : Option Bool := (((chart_May.f ((2 : Int), a))).bind fun x1 => (some x1))
theorem trade_acq.ok : ∀ a : Vals trade_acq.As.tys, fnK P trade_acq.H (lp []) 48 trade_acq.As trade_acq.m a some = trade_acq.f a := fun a => by kernel_rfl
noncomputable abbrev trade_acq.row : Row := fnRow 48 trade_acq.As trade_acq.m trade_acq.f
theorem trade_acq.row_ok : RowOK P G0 trade_acq.row := row_told trade_acq.hok (lp_of (l := []) trivial) (fun _ => rfl) trade_acq.ok
abbrev trade_May.As : Shs := (.cons (.x T_api_Post) .nil)
abbrev trade_May.m : Back := [(false, .b)]
noncomputable abbrev trade_May.H : HK := hk P G0 E0 J0 [trade_pan.row, trade_acq.row, hold_Ref.row] noLoops 4
theorem trade_May.rows : TabOK P G0 (tabF [trade_pan.row, trade_acq.row, hold_Ref.row]) := rows_ok (ws := [trade_pan.row, trade_acq.row, hold_Ref.row]) ⟨trade_pan.row_ok, ⟨trade_acq.row_ok, ⟨hold_Ref.row_ok, trivial⟩⟩⟩
theorem trade_May.hok : HKOK P trade_May.H := hk_ok e0_ok j0_ok trade_May.rows (fun g n => noLoops_ok g n) 4
noncomputable def trade_May.f (a : (Int × (Int × (ByteArray × (ByteArray × (ByteArray × Int)))))) : Option Bool := (bif (decide ((a.2.1 < (0 : Int)))) then (some false) else (bif (decide ((a.2.1 > (2147483647 : Int)))) then (some false) else (bif (decide ((a.2.2.2.2.2 < (1 : Int)))) then (some false) else (bif (decide ((a.2.2.2.2.2 > (9999999999999 : Int)))) then (some false) else (bif (a.1 == (1 : Int)) then (((trade_pan.f a.2.2.1)).bind fun x1 => (bif x1 then (bif ((ByteArray.toList a.2.2.2.1) == []) then (some ((ByteArray.toList a.2.2.2.2.1) == [])) else (some false)) else (some false))) else (bif (a.1 == (2 : Int)) then (bif (a.1 == (2 : Int)) then (((trade_pan.f a.2.2.1)).bind fun x1 => (bif x1 then (((trade_acq.f a.2.2.2.1)).bind fun x2 => (bif x2 then (((hold_Ref.f a.2.2.2.2.1)).bind fun x3 => (some x3)) else (some false))) else (some false))) else (bif (a.1 == (5 : Int)) then (bif (a.1 == (5 : Int)) then (bif ((ByteArray.toList a.2.2.1) == []) then (((trade_acq.f a.2.2.2.1)).bind fun x1 => (bif x1 then (some ((ByteArray.toList a.2.2.2.2.1) == [])) else (some false))) else (some false)) else (some false)) else (bif (a.1 == (6 : Int)) then (bif ((ByteArray.toList a.2.2.1) == []) then (((trade_acq.f a.2.2.2.1)).bind fun x1 => (bif x1 then (some ((ByteArray.toList a.2.2.2.2.1) == [])) else (some false))) else (some false)) else (some false)))) else (bif (a.1 == (3 : Int)) then (bif (a.1 == (3 : Int)) then (((trade_pan.f a.2.2.1)).bind fun x1 => (bif x1 then (((trade_acq.f a.2.2.2.1)).bind fun x2 => (bif x2 then (((hold_Ref.f a.2.2.2.2.1)).bind fun x3 => (some x3)) else (some false))) else (some false))) else (bif (a.1 == (5 : Int)) then (bif (a.1 == (5 : Int)) then (bif ((ByteArray.toList a.2.2.1) == []) then (((trade_acq.f a.2.2.2.1)).bind fun x1 => (bif x1 then (some ((ByteArray.toList a.2.2.2.2.1) == [])) else (some false))) else (some false)) else (some false)) else (bif (a.1 == (6 : Int)) then (bif ((ByteArray.toList a.2.2.1) == []) then (((trade_acq.f a.2.2.2.1)).bind fun x1 => (bif x1 then (some ((ByteArray.toList a.2.2.2.2.1) == [])) else (some false))) else (some false)) else (some false)))) else (bif (a.1 == (4 : Int)) then (((trade_pan.f a.2.2.1)).bind fun x1 => (bif x1 then (((trade_acq.f a.2.2.2.1)).bind fun x2 => (bif x2 then (((hold_Ref.f a.2.2.2.2.1)).bind fun x3 => (some x3)) else (some false))) else (some false))) else (bif (a.1 == (5 : Int)) then (bif (a.1 == (5 : Int)) then (bif ((ByteArray.toList a.2.2.1) == []) then (((trade_acq.f a.2.2.2.1)).bind fun x1 => (bif x1 then (some ((ByteArray.toList a.2.2.2.2.1) == [])) else (some false))) else (some false)) else (some false)) else (bif (a.1 == (6 : Int)) then (bif ((ByteArray.toList a.2.2.1) == []) then (((trade_acq.f a.2.2.2.1)).bind fun x1 => (bif x1 then (some ((ByteArray.toList a.2.2.2.2.1) == [])) else (some false))) else (some false)) else (some false)))))))))))
theorem trade_May.ok : ∀ a : Vals trade_May.As.tys, fnK P trade_May.H (lp []) 17 trade_May.As trade_May.m a some = trade_May.f a := fun a => by kernel_rfl
noncomputable abbrev trade_May.row : Row := fnRow 17 trade_May.As trade_May.m trade_May.f
theorem trade_May.row_ok : RowOK P G0 trade_May.row := row_told trade_May.hok (lp_of (l := []) trivial) (fun _ => rfl) trade_May.ok
abbrev bursarref20_pan.As : Shs := (.cons (.x .s) .nil)
abbrev bursarref20_pan.m : Back := [(false, .b)]
noncomputable abbrev bursarref20_pan.H : HK := hk P G0 E0 J0 [bursarref11_Name.row] noLoops 4
theorem bursarref20_pan.rows : TabOK P G0 (tabF [bursarref11_Name.row]) := rows_ok (ws := [bursarref11_Name.row]) ⟨bursarref11_Name.row_ok, trivial⟩
theorem bursarref20_pan.hok : HKOK P bursarref20_pan.H := hk_ok e0_ok j0_ok bursarref20_pan.rows (fun g n => noLoops_ok g n) 4
noncomputable def bursarref20_pan.f (a : ByteArray) : Option Bool := (((bursarref11_Name.f ((1 : Int), a))).bind fun x1 => (some x1.2))
theorem bursarref20_pan.ok : ∀ a : Vals bursarref20_pan.As.tys, fnK P bursarref20_pan.H (lp []) 34 bursarref20_pan.As bursarref20_pan.m a some = bursarref20_pan.f a := fun a => by kernel_rfl
noncomputable abbrev bursarref20_pan.row : Row := fnRow 34 bursarref20_pan.As bursarref20_pan.m bursarref20_pan.f
theorem bursarref20_pan.row_ok : RowOK P G0 bursarref20_pan.row := row_told bursarref20_pan.hok (lp_of (l := []) trivial) (fun _ => rfl) bursarref20_pan.ok
abbrev bursarref20_acq.As : Shs := (.cons (.x .s) .nil)
abbrev bursarref20_acq.m : Back := [(false, .b)]
noncomputable abbrev bursarref20_acq.H : HK := hk P G0 E0 J0 [bursarref02_All.row] noLoops 4
theorem bursarref20_acq.rows : TabOK P G0 (tabF [bursarref02_All.row]) := rows_ok (ws := [bursarref02_All.row]) ⟨bursarref02_All.row_ok, trivial⟩
theorem bursarref20_acq.hok : HKOK P bursarref20_acq.H := hk_ok e0_ok j0_ok bursarref20_acq.rows (fun g n => noLoops_ok g n) 4
noncomputable def bursarref20_acq.f (a : ByteArray) : Option Bool := (bif ((a.size : Int) == (6 : Int)) then (((bursarref02_All.f a)).bind fun x1 => (some x1)) else (some false))
theorem bursarref20_acq.ok : ∀ a : Vals bursarref20_acq.As.tys, fnK P bursarref20_acq.H (lp []) 35 bursarref20_acq.As bursarref20_acq.m a some = bursarref20_acq.f a := fun a => by kernel_rfl
noncomputable abbrev bursarref20_acq.row : Row := fnRow 35 bursarref20_acq.As bursarref20_acq.m bursarref20_acq.f
theorem bursarref20_acq.row_ok : RowOK P G0 bursarref20_acq.row := row_told bursarref20_acq.hok (lp_of (l := []) trivial) (fun _ => rfl) bursarref20_acq.ok
abbrev bursarref20_May.As : Shs := (.cons (.x T_api_Post) .nil)
abbrev bursarref20_May.m : Back := [(false, .b)]
noncomputable abbrev bursarref20_May.H : HK := hk P G0 E0 J0 [bursarref20_pan.row, bursarref20_acq.row, bursarref14_Ref.row] noLoops 4
theorem bursarref20_May.rows : TabOK P G0 (tabF [bursarref20_pan.row, bursarref20_acq.row, bursarref14_Ref.row]) := rows_ok (ws := [bursarref20_pan.row, bursarref20_acq.row, bursarref14_Ref.row]) ⟨bursarref20_pan.row_ok, ⟨bursarref20_acq.row_ok, ⟨bursarref14_Ref.row_ok, trivial⟩⟩⟩
theorem bursarref20_May.hok : HKOK P bursarref20_May.H := hk_ok e0_ok j0_ok bursarref20_May.rows (fun g n => noLoops_ok g n) 4
noncomputable def bursarref20_May.f (a : (Int × (Int × (ByteArray × (ByteArray × (ByteArray × Int)))))) : Option Bool := (bif (decide ((a.2.1 < (0 : Int)))) then (some false) else (bif (decide ((a.2.1 > (2147483647 : Int)))) then (some false) else (bif (decide ((a.2.2.2.2.2 < (1 : Int)))) then (some false) else (bif (decide ((a.2.2.2.2.2 > (9999999999999 : Int)))) then (some false) else (bif (a.1 == (1 : Int)) then (((bursarref20_pan.f a.2.2.1)).bind fun x1 => (bif x1 then (bif ((ByteArray.toList a.2.2.2.1) == []) then (some ((ByteArray.toList a.2.2.2.2.1) == [])) else (some false)) else (some false))) else (bif (a.1 == (5 : Int)) then (bif ((ByteArray.toList a.2.2.1) == []) then (((bursarref20_acq.f a.2.2.2.1)).bind fun x1 => (bif x1 then (some ((ByteArray.toList a.2.2.2.2.1) == [])) else (some false))) else (some false)) else (bif (a.1 == (6 : Int)) then (bif ((ByteArray.toList a.2.2.1) == []) then (((bursarref20_acq.f a.2.2.2.1)).bind fun x1 => (bif x1 then (some ((ByteArray.toList a.2.2.2.2.1) == [])) else (some false))) else (some false)) else (bif (decide (((2 : Int) ≤ a.1))) then (bif (decide ((a.1 ≤ (4 : Int)))) then (((bursarref20_pan.f a.2.2.1)).bind fun x1 => (bif x1 then (((bursarref20_acq.f a.2.2.2.1)).bind fun x2 => (bif x2 then (((bursarref14_Ref.f a.2.2.2.2.1)).bind fun x3 => (some x3)) else (some false))) else (some false))) else (some false)) else (some false)))))))))
theorem bursarref20_May.ok : ∀ a : Vals bursarref20_May.As.tys, fnK P bursarref20_May.H (lp []) 18 bursarref20_May.As bursarref20_May.m a some = bursarref20_May.f a := fun a => by kernel_rfl
noncomputable abbrev bursarref20_May.row : Row := fnRow 18 bursarref20_May.As bursarref20_May.m bursarref20_May.f
theorem bursarref20_May.row_ok : RowOK P G0 bursarref20_May.row := row_told bursarref20_May.hok (lp_of (l := []) trivial) (fun _ => rfl) bursarref20_May.ok
abbrev trade_Entry.As : Shs := (.cons (.x T_api_Post) .nil)
abbrev trade_Entry.m : Back := [(false, T_api_Entry), (false, (.i .i64))]
noncomputable abbrev trade_Entry.H : HK := hk P G0 E0 J0 [trade_May.row, entry_Move.row] noLoops 4
theorem trade_Entry.rows : TabOK P G0 (tabF [trade_May.row, entry_Move.row]) := rows_ok (ws := [trade_May.row, entry_Move.row]) ⟨trade_May.row_ok, ⟨entry_Move.row_ok, trivial⟩⟩
theorem trade_Entry.hok : HKOK P trade_Entry.H := hk_ok e0_ok j0_ok trade_Entry.rows (fun g n => noLoops_ok g n) 4
noncomputable def trade_Entry.f (a : (Int × (Int × (ByteArray × (ByteArray × (ByteArray × Int)))))) : Option ((Int × (ByteArray × (List ((Int × ByteArray) × Int)))) × Int) := (((trade_May.f a)).bind fun x1 => (bif (!x1) then (some (((0 : Int), ((bs []), [])), (1 : Int))) else (bif (a.1 == (1 : Int)) then (((entry_Move.f (a.2.1, (a.2.2.2.2.1, (((3 : Int), (bs [])), (((1 : Int), a.2.2.1), a.2.2.2.2.2)))))).bind fun x2 => (some x2)) else (bif (a.1 == (3 : Int)) then (((entry_Move.f (a.2.1, (a.2.2.2.2.1, (((2 : Int), a.2.2.2.1), (((1 : Int), a.2.2.1), a.2.2.2.2.2)))))).bind fun x2 => (some x2)) else (bif (a.1 == (5 : Int)) then (((entry_Move.f (a.2.1, (a.2.2.2.2.1, (((2 : Int), a.2.2.2.1), (((3 : Int), (bs [])), a.2.2.2.2.2)))))).bind fun x2 => (some x2)) else (bif (a.1 == (6 : Int)) then (((entry_Move.f (a.2.1, (a.2.2.2.2.1, (((3 : Int), (bs [])), (((2 : Int), a.2.2.2.1), a.2.2.2.2.2)))))).bind fun x2 => (some x2)) else (((entry_Move.f (a.2.1, (a.2.2.2.2.1, (((1 : Int), a.2.2.1), (((2 : Int), a.2.2.2.1), a.2.2.2.2.2)))))).bind fun x2 => (some x2))))))))
theorem trade_Entry.ok : ∀ a : Vals trade_Entry.As.tys, fnK P trade_Entry.H (lp []) 19 trade_Entry.As trade_Entry.m a some = trade_Entry.f a := fun a => by kernel_rfl
noncomputable abbrev trade_Entry.row : Row := fnRow 19 trade_Entry.As trade_Entry.m trade_Entry.f
theorem trade_Entry.row_ok : RowOK P G0 trade_Entry.row := row_told trade_Entry.hok (lp_of (l := []) trivial) (fun _ => rfl) trade_Entry.ok
abbrev bursarref20_Entry.As : Shs := (.cons (.x T_api_Post) .nil)
abbrev bursarref20_Entry.m : Back := [(false, T_api_Entry)]
noncomputable abbrev bursarref20_Entry.H : HK := hk P G0 E0 J0 [] noLoops 4
theorem bursarref20_Entry.rows : TabOK P G0 (tabF []) := rows_ok (ws := []) trivial
theorem bursarref20_Entry.hok : HKOK P bursarref20_Entry.H := hk_ok e0_ok j0_ok bursarref20_Entry.rows (fun g n => noLoops_ok g n) 4
noncomputable def bursarref20_Entry.f (a : (Int × (Int × (ByteArray × (ByteArray × (ByteArray × Int)))))) : Option (Int × (ByteArray × (List ((Int × ByteArray) × Int)))) := (bif (a.1 == (2 : Int)) then (bif (a.1 == (3 : Int)) then (bif (a.1 == (5 : Int)) then (bif (a.1 == (6 : Int)) then (some (a.2.1, (a.2.2.2.2.1, ((((3 : Int), (bs [])), (IntKind.wrap .i64 ((0 : Int) - a.2.2.2.2.2))) :: ((((2 : Int), a.2.2.2.1), a.2.2.2.2.2) :: []))))) else (some (a.2.1, (a.2.2.2.2.1, ((((2 : Int), a.2.2.2.1), (IntKind.wrap .i64 ((0 : Int) - a.2.2.2.2.2))) :: ((((3 : Int), (bs [])), a.2.2.2.2.2) :: [])))))) else (bif (a.1 == (6 : Int)) then (some (a.2.1, (a.2.2.2.2.1, ((((3 : Int), (bs [])), (IntKind.wrap .i64 ((0 : Int) - a.2.2.2.2.2))) :: ((((2 : Int), a.2.2.2.1), a.2.2.2.2.2) :: []))))) else (some (a.2.1, (a.2.2.2.2.1, ((((2 : Int), a.2.2.2.1), (IntKind.wrap .i64 ((0 : Int) - a.2.2.2.2.2))) :: ((((1 : Int), a.2.2.1), a.2.2.2.2.2) :: []))))))) else (bif (a.1 == (5 : Int)) then (bif (a.1 == (6 : Int)) then (some (a.2.1, (a.2.2.2.2.1, ((((3 : Int), (bs [])), (IntKind.wrap .i64 ((0 : Int) - a.2.2.2.2.2))) :: ((((2 : Int), a.2.2.2.1), a.2.2.2.2.2) :: []))))) else (some (a.2.1, (a.2.2.2.2.1, ((((2 : Int), a.2.2.2.1), (IntKind.wrap .i64 ((0 : Int) - a.2.2.2.2.2))) :: ((((3 : Int), (bs [])), a.2.2.2.2.2) :: [])))))) else (bif (a.1 == (6 : Int)) then (some (a.2.1, (a.2.2.2.2.1, ((((3 : Int), (bs [])), (IntKind.wrap .i64 ((0 : Int) - a.2.2.2.2.2))) :: ((((2 : Int), a.2.2.2.1), a.2.2.2.2.2) :: []))))) else (some (a.2.1, (a.2.2.2.2.1, ((((1 : Int), a.2.2.1), (IntKind.wrap .i64 ((0 : Int) - a.2.2.2.2.2))) :: ((((2 : Int), a.2.2.2.1), a.2.2.2.2.2) :: [])))))))) else (bif (a.1 == (4 : Int)) then (bif (a.1 == (3 : Int)) then (bif (a.1 == (5 : Int)) then (bif (a.1 == (6 : Int)) then (some (a.2.1, (a.2.2.2.2.1, ((((3 : Int), (bs [])), (IntKind.wrap .i64 ((0 : Int) - a.2.2.2.2.2))) :: ((((2 : Int), a.2.2.2.1), a.2.2.2.2.2) :: []))))) else (some (a.2.1, (a.2.2.2.2.1, ((((2 : Int), a.2.2.2.1), (IntKind.wrap .i64 ((0 : Int) - a.2.2.2.2.2))) :: ((((3 : Int), (bs [])), a.2.2.2.2.2) :: [])))))) else (bif (a.1 == (6 : Int)) then (some (a.2.1, (a.2.2.2.2.1, ((((3 : Int), (bs [])), (IntKind.wrap .i64 ((0 : Int) - a.2.2.2.2.2))) :: ((((2 : Int), a.2.2.2.1), a.2.2.2.2.2) :: []))))) else (some (a.2.1, (a.2.2.2.2.1, ((((2 : Int), a.2.2.2.1), (IntKind.wrap .i64 ((0 : Int) - a.2.2.2.2.2))) :: ((((1 : Int), a.2.2.1), a.2.2.2.2.2) :: []))))))) else (bif (a.1 == (5 : Int)) then (bif (a.1 == (6 : Int)) then (some (a.2.1, (a.2.2.2.2.1, ((((3 : Int), (bs [])), (IntKind.wrap .i64 ((0 : Int) - a.2.2.2.2.2))) :: ((((2 : Int), a.2.2.2.1), a.2.2.2.2.2) :: []))))) else (some (a.2.1, (a.2.2.2.2.1, ((((2 : Int), a.2.2.2.1), (IntKind.wrap .i64 ((0 : Int) - a.2.2.2.2.2))) :: ((((3 : Int), (bs [])), a.2.2.2.2.2) :: [])))))) else (bif (a.1 == (6 : Int)) then (some (a.2.1, (a.2.2.2.2.1, ((((3 : Int), (bs [])), (IntKind.wrap .i64 ((0 : Int) - a.2.2.2.2.2))) :: ((((2 : Int), a.2.2.2.1), a.2.2.2.2.2) :: []))))) else (some (a.2.1, (a.2.2.2.2.1, ((((1 : Int), a.2.2.1), (IntKind.wrap .i64 ((0 : Int) - a.2.2.2.2.2))) :: ((((2 : Int), a.2.2.2.1), a.2.2.2.2.2) :: [])))))))) else (bif (a.1 == (3 : Int)) then (bif (a.1 == (5 : Int)) then (bif (a.1 == (6 : Int)) then (some (a.2.1, (a.2.2.2.2.1, ((((3 : Int), (bs [])), (IntKind.wrap .i64 ((0 : Int) - a.2.2.2.2.2))) :: ((((2 : Int), a.2.2.2.1), a.2.2.2.2.2) :: []))))) else (some (a.2.1, (a.2.2.2.2.1, ((((2 : Int), a.2.2.2.1), (IntKind.wrap .i64 ((0 : Int) - a.2.2.2.2.2))) :: ((((3 : Int), (bs [])), a.2.2.2.2.2) :: [])))))) else (bif (a.1 == (6 : Int)) then (some (a.2.1, (a.2.2.2.2.1, ((((3 : Int), (bs [])), (IntKind.wrap .i64 ((0 : Int) - a.2.2.2.2.2))) :: ((((2 : Int), a.2.2.2.1), a.2.2.2.2.2) :: []))))) else (some (a.2.1, (a.2.2.2.2.1, ((((2 : Int), a.2.2.2.1), (IntKind.wrap .i64 ((0 : Int) - a.2.2.2.2.2))) :: ((((1 : Int), a.2.2.1), a.2.2.2.2.2) :: []))))))) else (bif (a.1 == (5 : Int)) then (bif (a.1 == (6 : Int)) then (some (a.2.1, (a.2.2.2.2.1, ((((3 : Int), (bs [])), (IntKind.wrap .i64 ((0 : Int) - a.2.2.2.2.2))) :: ((((2 : Int), a.2.2.2.1), a.2.2.2.2.2) :: []))))) else (some (a.2.1, (a.2.2.2.2.1, ((((2 : Int), a.2.2.2.1), (IntKind.wrap .i64 ((0 : Int) - a.2.2.2.2.2))) :: ((((3 : Int), (bs [])), a.2.2.2.2.2) :: [])))))) else (bif (a.1 == (6 : Int)) then (some (a.2.1, (a.2.2.2.2.1, ((((3 : Int), (bs [])), (IntKind.wrap .i64 ((0 : Int) - a.2.2.2.2.2))) :: ((((2 : Int), a.2.2.2.1), a.2.2.2.2.2) :: []))))) else (some (a.2.1, (a.2.2.2.2.1, ((((3 : Int), (bs [])), (IntKind.wrap .i64 ((0 : Int) - a.2.2.2.2.2))) :: ((((1 : Int), a.2.2.1), a.2.2.2.2.2) :: []))))))))))
theorem bursarref20_Entry.ok : ∀ a : Vals bursarref20_Entry.As.tys, fnK P bursarref20_Entry.H (lp []) 22 bursarref20_Entry.As bursarref20_Entry.m a some = bursarref20_Entry.f a := fun a => by kernel_rfl
noncomputable abbrev bursarref20_Entry.row : Row := fnRow 22 bursarref20_Entry.As bursarref20_Entry.m bursarref20_Entry.f
theorem bursarref20_Entry.row_ok : RowOK P G0 bursarref20_Entry.row := row_told bursarref20_Entry.hok (lp_of (l := []) trivial) (fun _ => rfl) bursarref20_Entry.ok
end Go.Proofs.YtpoiijkodpnobaaGreatDoor
end
section
set_option linter.unusedVariables false
set_option linter.unusedSimpArgs false
namespace Go.Proofs.YtpoiijkodpnobaaGreatDoor
open Go Go.Fw
abbrev Po := Int × (Int × (ByteArray × (ByteArray × (ByteArray × Int))))
def okNum (p : Po) : Bool := decide (0 ≤ p.2.1) && (decide (p.2.1 ≤ 2147483647) && (decide (1 ≤ p.2.2.2.2.2) && decide (p.2.2.2.2.2 ≤ 9999999999999)))
def mayK (p : Po) : Bool := bif p.1 == 1 then cardB p.2.2.1 && (decide (p.2.2.2.1 = bs []) && decide (p.2.2.2.2.1 = bs []))
  else bif p.1 == 5 || p.1 == 6 then decide (p.2.2.1 = bs []) && (acqB p.2.2.2.1 && decide (p.2.2.2.2.1 = bs []))
  else bif decide (2 ≤ p.1) && decide (p.1 ≤ 4) then cardB p.2.2.1 && (acqB p.2.2.2.1 && refB p.2.2.2.2.1) else false
def mayP (p : Po) : Bool := okNum p && mayK p
theorem tpan_is (s : ByteArray) : trade_pan.f s = some (cardB s) := by
  unfold trade_pan.f
  rw [card_is, Option.bind_some]
theorem tacq_is (s : ByteArray) : trade_acq.f s = some (acqB s) := by
  unfold trade_acq.f
  rw [acq_is, Option.bind_some]
theorem rpan_is (s : ByteArray) : bursarref20_pan.f s = some (cardB s) := by
  unfold bursarref20_pan.f
  obtain ⟨t, h⟩ := ref_card_is s
  rw [h, Option.bind_some]
theorem racq_is (s : ByteArray) (hs : s.size ≤ 4611686018427387904) : bursarref20_acq.f s = some (acqB s) := by
  unfold bursarref20_acq.f acqB
  have := size_is (s := s) 6
  rw [show ((6 : Nat) : Int) = 6 from rfl] at this
  rw [this, ref_All_is s hs]
  cases s.size == 6 <;> rfl
theorem okNum_no {k b : Int} {x y z : ByteArray} {n : Int} : (b < 0 → okNum (k, b, x, y, z, n) = false) ∧ (b > 2147483647 → okNum (k, b, x, y, z, n) = false) ∧ (n < 1 → okNum (k, b, x, y, z, n) = false) ∧ (n > 9999999999999 → okNum (k, b, x, y, z, n) = false) := by
  unfold okNum
  refine ⟨fun h => ?_, fun h => ?_, fun h => ?_, fun h => ?_⟩
  · rw [decide_eq_false (show ¬ (0 : Int) ≤ b by omega)]; rfl
  · rw [decide_eq_false (show ¬ b ≤ (2147483647 : Int) by omega)]; simp
  · rw [decide_eq_false (show ¬ (1 : Int) ≤ n by omega)]; simp
  · rw [decide_eq_false (show ¬ n ≤ (9999999999999 : Int) by omega)]; simp
theorem tradeMay_is {p : Po} (hr : p.2.2.2.2.1.size ≤ 4611686018427387904) : trade_May.f p = some (mayP p) := by
  obtain ⟨k, b, x, y, z, n⟩ := p
  obtain ⟨n1, n2, n3, n4⟩ := okNum_no (k := k) (b := b) (x := x) (y := y) (z := z) (n := n)
  unfold trade_May.f mayP
  simp only
  by_cases h1 : b < 0
  · simp only [decide_eq_true h1, cond_true, n1 h1, Bool.false_and]
  by_cases h2 : b > 2147483647
  · simp only [decide_eq_false h1, decide_eq_true h2, cond_true, cond_false, n2 h2, Bool.false_and]
  by_cases h3 : n < 1
  · simp only [decide_eq_false h1, decide_eq_false h2, decide_eq_true h3, cond_true, cond_false, n3 h3, Bool.false_and]
  by_cases h4 : n > 9999999999999
  · simp only [decide_eq_false h1, decide_eq_false h2, decide_eq_false h3, decide_eq_true h4, cond_true, cond_false, n4 h4, Bool.false_and]
  have hn : okNum (k, b, x, y, z, n) = true := by
    unfold okNum
    simp only [Bool.and_eq_true, decide_eq_true_eq]
    omega
  have hr' : hold_Ref.f z = some (refB z) := hold_Ref_is z hr
  simp only [decide_eq_false h1, decide_eq_false h2, decide_eq_false h3, decide_eq_false h4, cond_false, hn, Bool.true_and, tpan_is, tacq_is, hr', Option.bind_some, texts_nil]
  unfold mayK
  simp only
  by_cases k1 : k = 1
  · subst k1; cases cardB x <;> cases decide (y = bs []) <;> rfl
  by_cases k2 : k = 2
  · subst k2; cases cardB x <;> cases acqB y <;> cases refB z <;> rfl
  by_cases k3 : k = 3
  · subst k3; cases cardB x <;> cases acqB y <;> cases refB z <;> rfl
  by_cases k4 : k = 4
  · subst k4; cases cardB x <;> cases acqB y <;> cases refB z <;> rfl
  by_cases k5 : k = 5
  · subst k5; cases decide (x = bs []) <;> cases acqB y <;> rfl
  by_cases k6 : k = 6
  · subst k6; cases decide (x = bs []) <;> cases acqB y <;> rfl
  have e1 : (k == 1) = false := by simpa using k1
  have e2 : (k == 2) = false := by simpa using k2
  have e3 : (k == 3) = false := by simpa using k3
  have e4 : (k == 4) = false := by simpa using k4
  have e5 : (k == 5) = false := by simpa using k5
  have e6 : (k == 6) = false := by simpa using k6
  have e7 : (decide (2 ≤ k) && decide (k ≤ 4)) = false := by
    simp only [Bool.and_eq_false_iff, decide_eq_false_iff_not]; omega
  simp only [e1, e2, e3, e4, e5, e6, e7, cond_false, Bool.or_false]
theorem refTMay_is {p : Po} (hy : p.2.2.2.1.size ≤ 4611686018427387904) : bursarref20_May.f p = some (mayP p) := by
  obtain ⟨k, b, x, y, z, n⟩ := p
  obtain ⟨n1, n2, n3, n4⟩ := okNum_no (k := k) (b := b) (x := x) (y := y) (z := z) (n := n)
  unfold bursarref20_May.f mayP
  simp only
  by_cases h1 : b < 0
  · simp only [decide_eq_true h1, cond_true, n1 h1, Bool.false_and]
  by_cases h2 : b > 2147483647
  · simp only [decide_eq_false h1, decide_eq_true h2, cond_true, cond_false, n2 h2, Bool.false_and]
  by_cases h3 : n < 1
  · simp only [decide_eq_false h1, decide_eq_false h2, decide_eq_true h3, cond_true, cond_false, n3 h3, Bool.false_and]
  by_cases h4 : n > 9999999999999
  · simp only [decide_eq_false h1, decide_eq_false h2, decide_eq_false h3, decide_eq_true h4, cond_true, cond_false, n4 h4, Bool.false_and]
  have hn : okNum (k, b, x, y, z, n) = true := by
    unfold okNum
    simp only [Bool.and_eq_true, decide_eq_true_eq]
    omega
  simp only [decide_eq_false h1, decide_eq_false h2, decide_eq_false h3, decide_eq_false h4, cond_false, hn, Bool.true_and, rpan_is, racq_is y hy, ref_Ref_is, Option.bind_some, texts_nil]
  unfold mayK
  simp only
  by_cases k1 : k = 1
  · subst k1; cases cardB x <;> cases decide (y = bs []) <;> rfl
  by_cases k2 : k = 2
  · subst k2; cases cardB x <;> cases acqB y <;> cases refB z <;> rfl
  by_cases k3 : k = 3
  · subst k3; cases cardB x <;> cases acqB y <;> cases refB z <;> rfl
  by_cases k4 : k = 4
  · subst k4; cases cardB x <;> cases acqB y <;> cases refB z <;> rfl
  by_cases k5 : k = 5
  · subst k5; cases decide (x = bs []) <;> cases acqB y <;> rfl
  by_cases k6 : k = 6
  · subst k6; cases decide (x = bs []) <;> cases acqB y <;> rfl
  have e1 : (k == 1) = false := by simpa using k1
  have e5 : (k == 5) = false := by simpa using k5
  have e6 : (k == 6) = false := by simpa using k6
  have e7 : (decide (2 ≤ k) && decide (k ≤ 4)) = false := by
    simp only [Bool.and_eq_false_iff, decide_eq_false_iff_not]; omega
  by_cases h2k : 2 ≤ k
  · have e8 : decide (k ≤ 4) = false := by simp only [decide_eq_false_iff_not]; omega
    simp only [e1, e5, e6, decide_eq_true h2k, e8, cond_false, cond_true, Bool.or_false, Bool.and_false]
  · simp only [e1, e5, e6, decide_eq_false h2k, cond_false, Bool.or_false, Bool.false_and]
end Go.Proofs.YtpoiijkodpnobaaGreatDoor
end
section
set_option linter.unusedVariables false
set_option linter.unusedSimpArgs false
namespace Go.Proofs.YtpoiijkodpnobaaGreatDoor
open Go Go.Fw
theorem move_is {b : Int} {r : ByteArray} {k1 k2 n : Int} {s1 s2 : ByteArray} (hk1 : (Lit.int .i64 k1).wf = true) (hk2 : (Lit.int .i64 k2).wf = true) (hs1 : s1.size ≤ 20) (hs2 : s2.size ≤ 20) (hn : Am n) (hm : Am (0 - n)) :
    entry_Move.f (b, r, (k1, s1), (k2, s2), n) = some (bif checkE (b, r, [((k1, s1), 0 - n), ((k2, s2), n)]) == 0 then ((b, r, [((k1, s1), 0 - n), ((k2, s2), n)]), 0) else ((0, bs [], []), checkE (b, r, [((k1, s1), 0 - n), ((k2, s2), n)]))) := by
  have hg := goodL_two hk1 hk2 hs1 hs2 hm hn
  have hsub := money_Sub_is (a := 0) (b := n) (by unfold Am; omega) hn
  unfold entry_Move.f
  simp only [hsub, sumS_of hm, Option.bind_some, bne_self_eq_false, cond_false, made_is (x := (b, r, [((k1, s1), 0 - n), ((k2, s2), n)])) hg]
theorem checkE_pair {b : Int} {r : ByteArray} {f t : Acc} {n : Int} (hb : 0 ≤ b ∧ b ≤ 2147483647) (hr : okRef r = true) (hne : f ≠ t) (hf : maySB f = true) (ht : maySB t = true) (hn : 1 ≤ n ∧ n ≤ 9999999999999) :
    checkE (b, r, [(f, 0 - n), (t, n)]) = 0 := by
  have e1 : ((0 - n) == 0) = false := by simp; omega
  have e2 : (n == 0) = false := by simp; omega
  have hl : okLines [(f, 0 - n), (t, n)] = true := by
    show ((okLine [(f, 0 - n), (t, n)] 0) && ((okLine [(f, 0 - n), (t, n)] 1) && true)) = true
    have h0 : okLine [(f, 0 - n), (t, n)] 0 = true := by
      show (!false && (!((0 - n) == 0) && maySB f)) = true
      rw [e1, hf]; rfl
    have h1 : okLine [(f, 0 - n), (t, n)] 1 = true := by
      show (!(decide (f = t) || false) && (!(n == 0) && maySB t)) = true
      rw [e2, ht, decide_eq_false hne]; rfl
    rw [h0, h1]; rfl
  have hs : (List.map (fun y : Lin => y.2) [(f, 0 - n), (t, n)]).sum = 0 := by
    show (0 - n) + (n + 0) = 0
    omega
  unfold checkE
  simp only [decide_eq_false (show ¬ b < 0 by omega), decide_eq_false (show ¬ b > 2147483647 by omega), hr, hl, hs]
  rfl
theorem okRef_ref {s : ByteArray} (h : refB s = true) : okRef s = true := by
  unfold refB at h
  simp only [Bool.and_eq_true, beq_iff_eq] at h
  obtain ⟨h1, h2⟩ := h
  unfold okRef
  rw [decide_eq_true (show s.size ≤ 20 by omega), Bool.true_and, List.all_eq_true]
  intro c hc
  obtain ⟨i, hi, rfl⟩ := List.getElem_of_mem hc
  have h3 := List.all_eq_true.1 h2 i (List.mem_range.2 hi)
  unfold refC bt at h3
  rw [getD_at hi] at h3
  simp only [Bool.or_eq_true, Bool.and_eq_true, decide_eq_true_eq] at h3 ⊢
  omega
theorem okRef_none : okRef (bs []) = true := by decide +kernel
def sidesP (p : Po) : Acc × Acc := bif p.1 == 1 then ((3, bs []), (1, p.2.2.1)) else bif p.1 == 3 then ((2, p.2.2.2.1), (1, p.2.2.1)) else
  bif p.1 == 5 then ((2, p.2.2.2.1), (3, bs [])) else bif p.1 == 6 then ((3, bs []), (2, p.2.2.2.1)) else ((1, p.2.2.1), (2, p.2.2.2.1))
def entP (p : Po) : Ent := (p.2.1, p.2.2.2.2.1, [((sidesP p).1, 0 - p.2.2.2.2.2), ((sidesP p).2, p.2.2.2.2.2)])
theorem mayP_kind {p : Po} (h : mayP p = true) : p.1 = 1 ∨ p.1 = 2 ∨ p.1 = 3 ∨ p.1 = 4 ∨ p.1 = 5 ∨ p.1 = 6 := by
  unfold mayP mayK at h
  simp only [Bool.and_eq_true] at h
  have h := h.2
  by_cases k1 : p.1 = 1
  · exact .inl k1
  have e1 : (p.1 == 1) = false := by simpa using k1
  rw [e1, cond_false] at h
  by_cases k5 : p.1 = 5
  · omega
  by_cases k6 : p.1 = 6
  · omega
  have e5 : (p.1 == 5) = false := by simpa using k5
  have e6 : (p.1 == 6) = false := by simpa using k6
  rw [e5, e6, Bool.or_self, cond_false] at h
  cases hk : (decide (2 ≤ p.1) && decide (p.1 ≤ 4))
  · rw [hk] at h; cases h
  · simp only [Bool.and_eq_true, decide_eq_true_eq] at hk; omega
theorem mayP_num {p : Po} (h : mayP p = true) : (0 ≤ p.2.1 ∧ p.2.1 ≤ 2147483647) ∧ 1 ≤ p.2.2.2.2.2 ∧ p.2.2.2.2.2 ≤ 9999999999999 := by
  unfold mayP okNum at h
  simp only [Bool.and_eq_true, decide_eq_true_eq] at h
  omega
theorem mayP_parts {p : Po} (h : mayP p = true) : (p.1 = 1 → cardB p.2.2.1 = true ∧ p.2.2.2.1 = bs [] ∧ p.2.2.2.2.1 = bs []) ∧ (p.1 = 5 ∨ p.1 = 6 → p.2.2.1 = bs [] ∧ acqB p.2.2.2.1 = true ∧ p.2.2.2.2.1 = bs []) ∧
    (2 ≤ p.1 ∧ p.1 ≤ 4 → cardB p.2.2.1 = true ∧ acqB p.2.2.2.1 = true ∧ refB p.2.2.2.2.1 = true) := by
  obtain ⟨k, b, x, y, z, n⟩ := p
  unfold mayP mayK at h
  simp only [Bool.and_eq_true] at h
  have h := h.2
  refine ⟨fun hk => ?_, fun hk => ?_, fun hk => ?_⟩
  · have hk : k = 1 := hk
    subst hk
    simp only [BEq.rfl, cond_true, Bool.and_eq_true, decide_eq_true_eq] at h
    exact h
  · have hk : k = 5 ∨ k = 6 := hk
    rcases hk with rfl | rfl
    · simpa using h
    · simpa using h
  · have hk : 2 ≤ k ∧ k ≤ 4 := hk
    have e1 : (k == 1) = false := by simp; omega
    have e5 : (k == 5) = false := by simp; omega
    have e6 : (k == 6) = false := by simp; omega
    simp only [e1, e5, e6, cond_false, Bool.or_self, decide_eq_true hk.1, decide_eq_true hk.2, Bool.and_self, cond_true, Bool.and_eq_true] at h
    exact h
theorem check_entP {p : Po} (h : mayP p = true) : checkE (entP p) = 0 := by
  have hn := mayP_num h
  obtain ⟨a1, a2, a3⟩ := mayP_parts h
  have hk := mayP_kind h
  obtain ⟨k, b, x, y, z, n⟩ := p
  have hk : k = 1 ∨ k = 2 ∨ k = 3 ∨ k = 4 ∨ k = 5 ∨ k = 6 := hk
  have hn : (0 ≤ b ∧ b ≤ 2147483647) ∧ 1 ≤ n ∧ n ≤ 9999999999999 := hn
  have m3 : maySB (3, bs []) = true := by decide +kernel
  have m1 : ∀ s, cardB s = true → maySB (1, s) = true := fun s h => h
  have m2 : ∀ s, acqB s = true → maySB (2, s) = true := fun s h => h
  have ne : ∀ (i j : Int) (s t : ByteArray), i ≠ j → ((i, s) : Acc) ≠ (j, t) := fun i j s t h e => h (congrArg Prod.fst e)
  unfold entP sidesP
  rcases hk with rfl | rfl | rfl | rfl | rfl | rfl
  · obtain ⟨h1, h2, h3⟩ := a1 rfl
    have h3 : z = bs [] := h3
    subst h3
    exact checkE_pair hn.1 okRef_none (ne _ _ _ _ (by decide)) m3 (m1 _ h1) hn.2
  · obtain ⟨h1, h2, h3⟩ := a3 (by show (2 : Int) ≤ 2 ∧ (2 : Int) ≤ 4; omega)
    exact checkE_pair hn.1 (okRef_ref h3) (ne _ _ _ _ (by decide)) (m1 _ h1) (m2 _ h2) hn.2
  · obtain ⟨h1, h2, h3⟩ := a3 (by show (2 : Int) ≤ 3 ∧ (3 : Int) ≤ 4; omega)
    exact checkE_pair hn.1 (okRef_ref h3) (ne _ _ _ _ (by decide)) (m2 _ h2) (m1 _ h1) hn.2
  · obtain ⟨h1, h2, h3⟩ := a3 (by show (2 : Int) ≤ 4 ∧ (4 : Int) ≤ 4; omega)
    exact checkE_pair hn.1 (okRef_ref h3) (ne _ _ _ _ (by decide)) (m1 _ h1) (m2 _ h2) hn.2
  · obtain ⟨h1, h2, h3⟩ := a2 (.inl rfl)
    have h3 : z = bs [] := h3
    subst h3
    exact checkE_pair hn.1 okRef_none (ne _ _ _ _ (by decide)) (m2 _ h2) m3 hn.2
  · obtain ⟨h1, h2, h3⟩ := a2 (.inr rfl)
    have h3 : z = bs [] := h3
    subst h3
    exact checkE_pair hn.1 okRef_none (ne _ _ _ _ (by decide)) m3 (m2 _ h2) hn.2
def smallP (p : Po) : Prop := p.2.2.1.size ≤ 20 ∧ p.2.2.2.1.size ≤ 20 ∧ p.2.2.2.2.1.size ≤ 20
theorem tradeEntry_is {p : Po} (hs : smallP p) : trade_Entry.f p = some (bif mayP p then (entP p, 0) else ((0, bs [], []), 1)) := by
  have hmay := tradeMay_is (p := p) (by have := hs.2.2; omega)
  unfold trade_Entry.f
  rw [hmay, Option.bind_some]
  cases hm : mayP p
  · rfl
  have hc := check_entP hm
  have hn := (mayP_num hm).2
  have hk := mayP_kind hm
  obtain ⟨k, b, x, y, z, n⟩ := p
  obtain ⟨s1, s2, s3⟩ := hs
  have s1 : x.size ≤ 20 := s1
  have s2 : y.size ≤ 20 := s2
  have hn : 1 ≤ n ∧ n ≤ 9999999999999 := hn
  have a1 : Am n := by unfold Am; omega
  have a2 : Am (0 - n) := by unfold Am; omega
  have s0 : (bs []).size ≤ 20 := by decide
  have hk : k = 1 ∨ k = 2 ∨ k = 3 ∨ k = 4 ∨ k = 5 ∨ k = 6 := hk
  unfold entP sidesP at hc ⊢
  simp only [Bool.not_true, cond_false, cond_true]
  rcases hk with rfl | rfl | rfl | rfl | rfl | rfl
  · have e : checkE (b, z, [((3, bs []), 0 - n), ((1, x), n)]) = 0 := hc
    have := move_is (b := b) (r := z) (k1 := 3) (k2 := 1) (s1 := bs []) (s2 := x) (n := n) (by decide) (by decide) s0 s1 a1 a2
    rw [e] at this
    simp only [this]
    rfl
  · have e : checkE (b, z, [((1, x), 0 - n), ((2, y), n)]) = 0 := hc
    have := move_is (b := b) (r := z) (k1 := 1) (k2 := 2) (s1 := x) (s2 := y) (n := n) (by decide) (by decide) s1 s2 a1 a2
    rw [e] at this
    simp only [this]
    rfl
  · have e : checkE (b, z, [((2, y), 0 - n), ((1, x), n)]) = 0 := hc
    have := move_is (b := b) (r := z) (k1 := 2) (k2 := 1) (s1 := y) (s2 := x) (n := n) (by decide) (by decide) s2 s1 a1 a2
    rw [e] at this
    simp only [this]
    rfl
  · have e : checkE (b, z, [((1, x), 0 - n), ((2, y), n)]) = 0 := hc
    have := move_is (b := b) (r := z) (k1 := 1) (k2 := 2) (s1 := x) (s2 := y) (n := n) (by decide) (by decide) s1 s2 a1 a2
    rw [e] at this
    simp only [this]
    rfl
  · have e : checkE (b, z, [((2, y), 0 - n), ((3, bs []), n)]) = 0 := hc
    have := move_is (b := b) (r := z) (k1 := 2) (k2 := 3) (s1 := y) (s2 := bs []) (n := n) (by decide) (by decide) s2 s0 a1 a2
    rw [e] at this
    simp only [this]
    rfl
  · have e : checkE (b, z, [((3, bs []), 0 - n), ((2, y), n)]) = 0 := hc
    have := move_is (b := b) (r := z) (k1 := 3) (k2 := 2) (s1 := bs []) (s2 := y) (n := n) (by decide) (by decide) s0 s2 a1 a2
    rw [e] at this
    simp only [this]
    rfl
theorem refTEntry_is {p : Po} (h : mayP p = true) : bursarref20_Entry.f p = some (entP p) := by
  have hn := (mayP_num h).2
  have hk := mayP_kind h
  obtain ⟨k, b, x, y, z, n⟩ := p
  have hn : 1 ≤ n ∧ n ≤ 9999999999999 := hn
  have hw : IntKind.wrap .i64 (0 - n) = 0 - n := wrap_i64 (by omega) (by omega)
  have hk : k = 1 ∨ k = 2 ∨ k = 3 ∨ k = 4 ∨ k = 5 ∨ k = 6 := hk
  unfold bursarref20_Entry.f entP sidesP
  simp only [hw]
  rcases hk with rfl | rfl | rfl | rfl | rfl | rfl <;> rfl
end Go.Proofs.YtpoiijkodpnobaaGreatDoor
end
section
set_option linter.unusedVariables false
set_option linter.unusedSimpArgs false
namespace Go.Proofs.YtpoiijkodpnobaaGreatDoor
open Go Go.Fw
theorem drop_cons {α : Type} {l r : List α} {c : α} {i : Nat} (d : α) (h : l.drop i = c :: r) : l.getD i d = c ∧ l.drop (i + 1) = r ∧ i + 1 + r.length = l.length := by
  have hl := congrArg List.length h
  simp only [List.length_drop, List.length_cons] at hl
  refine ⟨?_, ?_, by omega⟩
  · have := congrArg (fun x => x[0]?) h
    simp only [List.getElem?_drop, List.getElem?_cons_zero, Nat.add_zero] at this
    rw [List.getD_eq_getElem?_getD, this]; rfl
  · rw [← List.drop_drop, h]; rfl
end Go.Proofs.YtpoiijkodpnobaaGreatDoor
end
section
namespace Go.Proofs
open Go.Shelf
def Tryz.lays105_ren : Go.Shelf.Ren := ⟨fun | 105 => 74 | 212 => 109 | 99 => 110 | 165 => 111 | 166 => 112 | 170 => 113 | 169 => 114 | 263 => 143 | 264 => 144 | 206 => 145 | 240 => 146 | 241 => 147 | 276 => 171 | 277 => 172 | n => n, fun | 9 => 9 | 3 => 3 | 4 => 4 | 20 => 20 | 0 => 0 | 46 => 163 | 109 => 164 | 5 => 5 | 72 => 169 | 76 => 170 | 51 => 200 | 146 => 201 | 53 => 95 | 148 => 185 | 70 => 167 | 37 => 132 | 75 => 141 | 127 => 204 | 164 => 225 | 80 => 173 | n => n, fun | n => n⟩
theorem Tryz.lays105 : Go.Proofs.Lays.n105 Tryz.prog Tryz.lays105_ren := {
  mixed := by kernel_rfl
  f99 := Tryz.func110.trans (congrArg some (by kernel_rfl))
  f105 := Tryz.func74.trans (congrArg some (by kernel_rfl))
  f165 := Tryz.func111.trans (congrArg some (by kernel_rfl))
  f166 := Tryz.func112.trans (congrArg some (by kernel_rfl))
  f169 := Tryz.func114.trans (congrArg some (by kernel_rfl))
  f170 := Tryz.func113.trans (congrArg some (by kernel_rfl))
  f206 := Tryz.func145.trans (congrArg some (by kernel_rfl))
  f212 := Tryz.func109.trans (congrArg some (by kernel_rfl))
  f240 := Tryz.func146.trans (congrArg some (by kernel_rfl))
  f241 := Tryz.func147.trans (congrArg some (by kernel_rfl))
  f263 := Tryz.func143.trans (congrArg some (by kernel_rfl))
  f264 := Tryz.func144.trans (congrArg some (by kernel_rfl))
  f276 := Tryz.func171.trans (congrArg some (by kernel_rfl))
  f277 := Tryz.func172.trans (congrArg some (by kernel_rfl))
  t0 := Tryz.underlying0
  a0 := Tryz.isAgg0
  z0 := Tryz.sizeOf0
  v0 := Tryz.zeroValue0
  t3 := Tryz.underlying3
  a3 := Tryz.isAgg3
  z3 := Tryz.sizeOf3
  v3 := Tryz.zeroValue3
  t4 := Tryz.underlying4
  a4 := Tryz.isAgg4
  z4 := Tryz.sizeOf4
  v4 := Tryz.zeroValue4
  t5 := Tryz.underlying5
  a5 := Tryz.isAgg5
  z5 := Tryz.sizeOf5
  v5 := Tryz.zeroValue5
  t9 := Tryz.underlying9
  a9 := Tryz.isAgg9
  z9 := Tryz.sizeOf9
  v9 := Tryz.zeroValue9
  t20 := Tryz.underlying20
  a20 := Tryz.isAgg20
  z20 := Tryz.sizeOf20
  v20 := Tryz.zeroValue20
  t37 := Tryz.underlying132
  a37 := Tryz.isAgg132
  z37 := Tryz.sizeOf132
  v37 := Tryz.zeroValue132
  t46 := Tryz.underlying163
  a46 := Tryz.isAgg163
  z46 := Tryz.sizeOf163
  v46 := Tryz.zeroValue163
  t51 := Tryz.underlying200
  a51 := Tryz.isAgg200
  z51 := Tryz.sizeOf200
  v51 := Tryz.zeroValue200
  t53 := Tryz.underlying95
  a53 := Tryz.isAgg95
  z53 := Tryz.sizeOf95
  v53 := Tryz.zeroValue95
  t70 := Tryz.underlying167
  a70 := Tryz.isAgg167
  z70 := Tryz.sizeOf167
  v70 := Tryz.zeroValue167
  t72 := Tryz.underlying169
  a72 := Tryz.isAgg169
  z72 := Tryz.sizeOf169
  v72 := Tryz.zeroValue169
  t75 := Tryz.underlying141
  a75 := Tryz.isAgg141
  z75 := Tryz.sizeOf141
  v75 := Tryz.zeroValue141
  t76 := Tryz.underlying170
  a76 := Tryz.isAgg170
  z76 := Tryz.sizeOf170
  v76 := Tryz.zeroValue170
  t109 := Tryz.underlying164
  a109 := Tryz.isAgg164
  z109 := Tryz.sizeOf164
  v109 := Tryz.zeroValue164
  t127 := Tryz.underlying204
  a127 := Tryz.isAgg204
  z127 := Tryz.sizeOf204
  v127 := Tryz.zeroValue204
  t146 := Tryz.underlying201
  a146 := Tryz.isAgg201
  z146 := Tryz.sizeOf201
  v146 := Tryz.zeroValue201
  t148 := Tryz.underlying185
  a148 := Tryz.isAgg185
  z148 := Tryz.sizeOf185
  v148 := Tryz.zeroValue185
  t164 := Tryz.underlying225
  a164 := Tryz.isAgg225
  z164 := Tryz.sizeOf225
  v164 := Tryz.zeroValue225 }
end Go.Proofs
end
section
set_option linter.unusedVariables false
namespace Go.Proofs.YtpoiijkodpnobaaGreatDoor
open Go Go.Fw Go.RowKit Go.Shelf
theorem repExtra : Builder.Extra P Tryz.lays105_ren where
  sizeBuilder := by kernel_rfl
  liesBuilder := by kernel_rfl
  t5 := Tryz.lays105.t5
  a5 := Tryz.lays105.a5
  z5 := Tryz.lays105.z5
  v5 := Tryz.lays105.v5
  infoByte := by kernel_rfl
  cellsByte := by kernel_rfl
  sizeByte := by kernel_rfl
  neB5 := by decide
def repeatT (s : ByteArray) (n : Int) : Option ByteArray := bif decide (0 ≤ n) && (decide (n ≤ 140737488355328) && decide (s.size * n.toNat ≤ 140737488355328)) then some ⟨(Lib.repeatL s.data.toList n.toNat).toArray⟩ else none
abbrev strings_Repeat.As : Shs := .cons (.x .s) (.cons (.x (.i .i64)) .nil)
abbrev strings_Repeat.m : Back := [(false, .s)]
abbrev strings_Repeat.f (a : (ByteArray × Int)) : Option ByteArray := repeatT a.1 a.2
noncomputable abbrev strings_Repeat.row : Row := fnRow 74 strings_Repeat.As strings_Repeat.m strings_Repeat.f
theorem strings_Repeat.row_ok : RowOK P G0 strings_Repeat.row := by
  have key : ∀ (ds : List D) (a : ByteArray × Int) (q : ByteArray), decArgs strings_Repeat.As ds = some a → strings_Repeat.f a = some q → Fw.Enters P 74 ∧ PCall P G0 74 ds (.s q) := by
    intro ds a q ha hq
    refine ⟨ent_of Tryz.func74 (by kernel_rfl) (by kernel_rfl), ?_⟩
    have hds := (decArgs_argD ha).symm
    refine PCall.coe (ds' := argD strings_Repeat.As a) ?_ (by rw [← hds]; exact coeA_len) fun w I f hf => by rw [← hds]; exact coeA_rel hf
    refine pcall_below fun w I K vs hg hsz hr => ?_
    have h0 := hr 0 (.s a.1) rfl
    have h1 := hr 1 (.i .i64 a.2) rfl
    have hvs : vs = #[.string a.1, .int .i64 a.2] := by
      have hs : vs.size = 2 := hsz
      rw [Array.getD_eq_getD_getElem?, Array.getElem?_eq_getElem (by omega)] at h0 h1
      simp only [Option.getD_some] at h0 h1
      refine Array.ext (by simpa using hs) fun i hi hi' => ?_
      match i, hi with
      | 0, _ => cases h : vs[0] <;> rw [h] at h0 <;> cases h0; rfl
      | 1, _ => cases h : vs[1] <;> rw [h] at h1 <;> cases h1; rfl
      | i + 2, hi => omega
    subst hvs
    unfold strings_Repeat.f repeatT at hq
    obtain ⟨hb, hq⟩ := cond_some hq
    simp only [Bool.and_eq_true, decide_eq_true_eq] at hb
    obtain ⟨h2, h3, h4⟩ := hb
    injection hq with hq
    subst hq
    obtain ⟨u, hu⟩ : ∃ u : Nat, a.2 = u := ⟨a.2.toNat, by omega⟩
    rw [hu] at h2 h3 h4 ⊢
    rw [Int.toNat_natCast] at h4 ⊢
    refine (Any.strings_Repeat Tryz.lays105 repExtra a.1 u w (by omega) h4).mono ?_
    rintro e w' ⟨rfl, hb⟩
    exact ⟨_, rfl, hb, RelD.s _⟩
  exact fun ds a q => key ds a q
end Go.Proofs.YtpoiijkodpnobaaGreatDoor
end
section
set_option linter.unusedVariables false
set_option maxRecDepth 100000
namespace Go.Proofs.YtpoiijkodpnobaaGreatDoor
open Go Go.Fw
abbrev digit_Put.As : Shs := (.cons (.x (.i .u64)) (.cons (.x (.i .i64)) .nil))
abbrev digit_Put.m : Back := [(false, .s), (false, (.i .i64))]
noncomputable abbrev digit_Put.H : HK := hk P G0 E0 J0 [strings_Repeat.row, strconv_FormatUint.row] noLoops 4
theorem digit_Put.rows : TabOK P G0 (tabF [strings_Repeat.row, strconv_FormatUint.row]) := rows_ok (ws := [strings_Repeat.row, strconv_FormatUint.row]) ⟨strings_Repeat.row_ok, ⟨strconv_FormatUint.row_ok, trivial⟩⟩
theorem digit_Put.hok : HKOK P digit_Put.H := hk_ok e0_ok j0_ok digit_Put.rows (fun g n => noLoops_ok g n) 4
noncomputable def digit_Put.f (a : (Int × Int)) : Option (ByteArray × Int) := (bif (decide ((a.2 < (1 : Int)))) then (some ((bs []), (1 : Int))) else (bif (decide ((a.2 > (19 : Int)))) then (some ((bs []), (1 : Int))) else (((strconv_FormatUint.f (a.1, (10 : Int)))).bind fun x2 => (bif (decide (((x2.size : Int) > a.2))) then (some ((bs []), (2 : Int))) else (((strings_Repeat.f ((bs [48]), (IntKind.wrap .i64 (a.2 - (x2.size : Int)))))).bind fun x3 => (bif (Nat.ble (x3.size + x2.size) 9223372036854775807) then (some ((x3 ++ x2), (0 : Int))) else none))))))
theorem digit_Put.ok : ∀ a : Vals digit_Put.As.tys, fnK P digit_Put.H (lp []) 51 digit_Put.As digit_Put.m a some = digit_Put.f a := fun a => by kernel_rfl
noncomputable abbrev digit_Put.row : Row := fnRow 51 digit_Put.As digit_Put.m digit_Put.f
theorem digit_Put.row_ok : RowOK P G0 digit_Put.row := row_told digit_Put.hok (lp_of (l := []) trivial) (fun _ => rfl) digit_Put.ok
abbrev digit_Get.As : Shs := (.cons (.x .s) .nil)
abbrev digit_Get.m : Back := [(false, (.i .u64)), (false, (.i .i64))]
noncomputable abbrev digit_Get.H : HK := hk P G1 E0 J0 [digit_All.row, strconv_ParseUint.row] noLoops 4
theorem digit_Get.rows : TabOK P G1 (tabF [digit_All.row, strconv_ParseUint.row]) := rows_ok (ws := [digit_All.row, strconv_ParseUint.row]) ⟨(digit_All.row_ok.more g01), ⟨strconv_ParseUint.row_ok, trivial⟩⟩
theorem digit_Get.hok : HKOK P digit_Get.H := hk_ok e0_ok j0_ok digit_Get.rows (fun g n => noLoops_ok g n) 4
noncomputable def digit_Get.f (a : ByteArray) : Option (Int × Int) := (bif ((ByteArray.toList a) == []) then (some ((0 : Int), (1 : Int))) else (bif (decide (((a.size : Int) > (19 : Int)))) then (some ((0 : Int), (1 : Int))) else (((digit_All.f a)).bind fun x1 => (bif (!x1) then (some ((0 : Int), (4 : Int))) else (((strconv_ParseUint.f (a, ((10 : Int), (64 : Int))))).bind fun x2 => (some (x2.1, (0 : Int))))))))
theorem digit_Get.ok : ∀ a : Vals digit_Get.As.tys, fnK P digit_Get.H (lp []) 45 digit_Get.As digit_Get.m a some = digit_Get.f a := fun a => by kernel_rfl
noncomputable abbrev digit_Get.row : Row := fnRow 45 digit_Get.As digit_Get.m digit_Get.f
theorem digit_Get.row_ok : RowOK P G1 digit_Get.row := row_told digit_Get.hok (lp_of (l := []) trivial) (fun _ => rfl) digit_Get.ok
abbrev bursarref02_Put.As : Shs := (.cons (.x (.i .u64)) (.cons (.x (.i .i64)) .nil))
abbrev bursarref02_Put.m : Back := [(false, .s), (false, .b)]
noncomputable abbrev bursarref02_Put.H : HK := hk P G0 E0 J0 [] noLoops 4
theorem bursarref02_Put.rows : TabOK P G0 (tabF []) := rows_ok (ws := []) trivial
theorem bursarref02_Put.hok : HKOK P bursarref02_Put.H := hk_ok e0_ok j0_ok bursarref02_Put.rows (fun g n => noLoops_ok g n) 4
noncomputable abbrev bursarref02_Put.sh4 : SSh := ⟨[(0, (.x (.i .u64))), (1, (.x (.i .i64))), (6, (.x .s)), (7, (.x (.i .i64)))], []⟩
noncomputable abbrev bursarref02_Put.os4 : PEnds := [((.exit 0), ⟨[(0, (.x (.i .u64))), (6, (.x .s))], []⟩)]
noncomputable def bursarref02_Put.t4 (s : (Int × (Int × (ByteArray × Int)))) : Option ((Int × (Int × (ByteArray × Int))) ⊕ ((Int × ByteArray))) := (bif (decide ((s.2.2.2 < s.2.1))) then (bif (Nat.ble ((ByteArray.mk (List.toArray (List.map (fun y4 => (UInt8.ofNat (Int.toNat y4))) ((IntKind.wrap .u8 (IntKind.wrap .u64 ((48 : Int) + (Int.tmod s.1 (10 : Int))))) :: [])))).size + s.2.2.1.size) 9223372036854775807) then (some (.inl ((IntKind.wrap .u64 (Int.tdiv s.1 (10 : Int))), (s.2.1, (((ByteArray.mk (List.toArray (List.map (fun y4 => (UInt8.ofNat (Int.toNat y4))) ((IntKind.wrap .u8 (IntKind.wrap .u64 ((48 : Int) + (Int.tmod s.1 (10 : Int))))) :: [])))) ++ s.2.2.1), (IntKind.wrap .i64 (s.2.2.2 + (1 : Int)))))))) else none) else (some (.inr (s.1, s.2.2.1))))
theorem bursarref02_Put.t4_ok : ∀ s : Vals bursarref02_Put.sh4.tys, turnK P bursarref02_Put.H (lp []) (bodyAt (codeOf P 92) 4) 0 bursarref02_Put.sh4 bursarref02_Put.os4 s some = bursarref02_Put.t4 s := fun s => by kernel_rfl
noncomputable def bursarref02_Put.l4 : (Int × (Int × (ByteArray × Int))) → Option ((Int × ByteArray)) := rounds bursarref02_Put.t4
noncomputable def bursarref02_Put.f (a : (Int × Int)) : Option (ByteArray × Bool) := (((bursarref02_Put.l4 (a.1, (a.2, ((bs []), (0 : Int)))))).bind fun x2 => (some (x2.2, (x2.1 == (0 : Int)))))
theorem bursarref02_Put.ok : ∀ a : Vals bursarref02_Put.As.tys, fnK P bursarref02_Put.H (lp [(4, (NodeT.summ ⟨bursarref02_Put.sh4, bursarref02_Put.os4, bursarref02_Put.l4⟩ 0))]) 92 bursarref02_Put.As bursarref02_Put.m a some = bursarref02_Put.f a := fun a => by kernel_rfl
noncomputable abbrev bursarref02_Put.row : Row := fnRow 92 bursarref02_Put.As bursarref02_Put.m bursarref02_Put.f
theorem bursarref02_Put.row_ok : RowOK P G0 bursarref02_Put.row := row_told bursarref02_Put.hok (lp_of (l := [(4, (NodeT.summ ⟨bursarref02_Put.sh4, bursarref02_Put.os4, bursarref02_Put.l4⟩ 0))]) ⟨(loop_sum bursarref02_Put.hok (by kernel_rfl) (by kernel_rfl) (l := []) trivial bursarref02_Put.sh4 bursarref02_Put.os4 (by kernel_rfl) bursarref02_Put.t4 bursarref02_Put.t4_ok), trivial⟩) (fun _ => rfl) bursarref02_Put.ok
abbrev bursarref02_Of.As : Shs := (.cons (.x (.i .u64)) (.cons (.x (.i .i64)) .nil))
abbrev bursarref02_Of.m : Back := [(false, .s)]
noncomputable abbrev bursarref02_Of.H : HK := hk P G0 E0 J0 [bursarref02_Put.row] noLoops 4
theorem bursarref02_Of.rows : TabOK P G0 (tabF [bursarref02_Put.row]) := rows_ok (ws := [bursarref02_Put.row]) ⟨bursarref02_Put.row_ok, trivial⟩
theorem bursarref02_Of.hok : HKOK P bursarref02_Of.H := hk_ok e0_ok j0_ok bursarref02_Of.rows (fun g n => noLoops_ok g n) 4
noncomputable def bursarref02_Of.f (a : (Int × Int)) : Option ByteArray := (((bursarref02_Put.f a)).bind fun x2 => (some x2.1))
theorem bursarref02_Of.ok : ∀ a : Vals bursarref02_Of.As.tys, fnK P bursarref02_Of.H (lp []) 55 bursarref02_Of.As bursarref02_Of.m a some = bursarref02_Of.f a := fun a => by kernel_rfl
noncomputable abbrev bursarref02_Of.row : Row := fnRow 55 bursarref02_Of.As bursarref02_Of.m bursarref02_Of.f
theorem bursarref02_Of.row_ok : RowOK P G0 bursarref02_Of.row := row_told bursarref02_Of.hok (lp_of (l := []) trivial) (fun _ => rfl) bursarref02_Of.ok
abbrev bursarref02_Get.As : Shs := (.cons (.x .s) .nil)
abbrev bursarref02_Get.m : Back := [(false, (.i .u64)), (false, (.i .i64))]
noncomputable abbrev bursarref02_Get.H : HK := hk P G0 E0 J0 [bursarref02_All.row] noLoops 4
theorem bursarref02_Get.rows : TabOK P G0 (tabF [bursarref02_All.row]) := rows_ok (ws := [bursarref02_All.row]) ⟨bursarref02_All.row_ok, trivial⟩
theorem bursarref02_Get.hok : HKOK P bursarref02_Get.H := hk_ok e0_ok j0_ok bursarref02_Get.rows (fun g n => noLoops_ok g n) 4
noncomputable abbrev bursarref02_Get.sh10 : SSh := ⟨[(0, (.x .s)), (4, (.x (.i .u64))), (5, (.x (.i .i64)))], []⟩
noncomputable abbrev bursarref02_Get.os10 : PEnds := [((.exit 0), ⟨[(4, (.x (.i .u64)))], []⟩)]
noncomputable def bursarref02_Get.t10 (s : (ByteArray × (Int × Int))) : Option ((ByteArray × (Int × Int)) ⊕ (Int)) := (bif (decide ((s.2.2 < (s.1.size : Int)))) then (bif ((decide (((0 : Int) ≤ s.2.2))) && (decide ((s.2.2 < (s.1.size : Int))))) then (some (.inl (s.1, ((IntKind.wrap .u64 ((IntKind.wrap .u64 ((IntKind.wrap .u64 ((10 : Int) * s.2.1)) + (IntKind.wrap .u64 (bt s.1 (Int.toNat s.2.2))))) - (48 : Int))), (IntKind.wrap .i64 (s.2.2 + (1 : Int))))))) else none) else (some (.inr s.2.1)))
theorem bursarref02_Get.t10_ok : ∀ s : Vals bursarref02_Get.sh10.tys, turnK P bursarref02_Get.H (lp []) (bodyAt (codeOf P 46) 10) 0 bursarref02_Get.sh10 bursarref02_Get.os10 s some = bursarref02_Get.t10 s := fun s => by kernel_rfl
noncomputable def bursarref02_Get.l10 : (ByteArray × (Int × Int)) → Option (Int) := rounds bursarref02_Get.t10
noncomputable def bursarref02_Get.f (a : ByteArray) : Option (Int × Int) := (bif (decide (((a.size : Int) < (1 : Int)))) then (some ((0 : Int), (1 : Int))) else (bif (decide (((a.size : Int) > (19 : Int)))) then (some ((0 : Int), (1 : Int))) else (((bursarref02_All.f a)).bind fun x1 => (bif (!x1) then (some ((0 : Int), (4 : Int))) else (((bursarref02_Get.l10 (a, ((0 : Int), (0 : Int))))).bind fun x2 => (some (x2, (0 : Int))))))))
theorem bursarref02_Get.ok : ∀ a : Vals bursarref02_Get.As.tys, fnK P bursarref02_Get.H (lp [(10, (NodeT.summ ⟨bursarref02_Get.sh10, bursarref02_Get.os10, bursarref02_Get.l10⟩ 0))]) 46 bursarref02_Get.As bursarref02_Get.m a some = bursarref02_Get.f a := fun a => by kernel_rfl
noncomputable abbrev bursarref02_Get.row : Row := fnRow 46 bursarref02_Get.As bursarref02_Get.m bursarref02_Get.f
theorem bursarref02_Get.row_ok : RowOK P G0 bursarref02_Get.row := row_told bursarref02_Get.hok (lp_of (l := [(10, (NodeT.summ ⟨bursarref02_Get.sh10, bursarref02_Get.os10, bursarref02_Get.l10⟩ 0))]) ⟨(loop_sum bursarref02_Get.hok (by kernel_rfl) (by kernel_rfl) (l := []) trivial bursarref02_Get.sh10 bursarref02_Get.os10 (by kernel_rfl) bursarref02_Get.t10 bursarref02_Get.t10_ok), trivial⟩) (fun _ => rfl) bursarref02_Get.ok
end Go.Proofs.YtpoiijkodpnobaaGreatDoor
end
section
set_option linter.unusedVariables false
set_option linter.unusedSimpArgs false
namespace Go.Proofs.YtpoiijkodpnobaaGreatDoor
open Go Go.Fw
def padD : Nat → Nat → List UInt8
  | 0, _ => []
  | k + 1, n => padD k (n / 10) ++ [dgt (n % 10)]
theorem padD_len : ∀ k n, (padD k n).length = k
  | 0, _ => rfl
  | k + 1, n => by simp [padD, padD_len k]
theorem padD_zero : ∀ k, padD k 0 = List.replicate k 48
  | 0 => rfl
  | k + 1 => by
    rw [padD, show 0 / 10 = 0 by rfl, padD_zero k, List.replicate_succ']
    rfl
theorem padD_decP : ∀ (k m n : Nat), n < 10 ^ k → k ≤ m → padD k n = List.replicate (k - (decP m n).length) 48 ++ decP m n
  | 0, m, n, h, _ => by
    have : n = 0 := by simpa using h
    subst this
    cases m <;> simp [padD, decP]
  | k + 1, 0, n, _, h => by omega
  | k + 1, m + 1, n, h, hk => by
    unfold decP
    split
    · rename_i h0; subst h0
      rw [padD_zero]; simp
    · rw [padD, padD_decP k m (n / 10) (by have : 10 ^ (k + 1) = 10 ^ k * 10 := Nat.pow_succ ..; omega) (by omega)]
      simp
theorem padD_dig : ∀ (k n : Nat) (c : UInt8), c ∈ padD k n → 48 ≤ c.toNat ∧ c.toNat ≤ 57
  | 0, _, c, h => by simp [padD] at h
  | k + 1, n, c, h => by
    unfold padD at h
    rcases List.mem_append.1 h with h | h
    · exact padD_dig k _ c h
    · rw [List.mem_singleton.1 h, dgt_nat (by omega)]; omega
theorem repeat_one (c : UInt8) : ∀ n, Lib.repeatL [c] n = List.replicate n c
  | 0 => rfl
  | n + 1 => by rw [Lib.repeatL, repeat_one c n]; rfl
theorem repeat_is {n : Nat} (h : n ≤ 1000) : strings_Repeat.f (bs [48], (n : Int)) = some (bs (List.replicate n 48)) := by
  show repeatT _ _ = _
  unfold repeatT
  have h1 : (0 : Int) ≤ (n : Int) := by omega
  have h2 : (n : Int) ≤ 140737488355328 := by omega
  have h3 : (bs [48]).size * ((n : Int)).toNat ≤ 140737488355328 := by rw [bs_size, Int.toNat_natCast]; simp; omega
  rw [decide_eq_true h1, decide_eq_true h2, decide_eq_true h3, Int.toNat_natCast, bs_list, repeat_one]
  rfl
theorem PutW_is {w n : Nat} (hw : 1 ≤ w ∧ w ≤ 19) (h : n < 10 ^ w) : digit_Put.f ((n : Int), (w : Int)) = some (bs (padD w n), 0) := by
  have h19 : n < 10 ^ 19 := Nat.lt_of_lt_of_le h (Nat.pow_le_pow_right (by omega) hw.2)
  have hf : strconv_FormatUint.f ((n : Int), 10) = some (bs (decF 20 n)) := fmtU_is (by omega)
  have hd : decF 20 n = decP 19 (n / 10) ++ [dgt (n % 10)] := decF_decP 19 n (by omega)
  obtain ⟨v, rfl⟩ : ∃ v, w = v + 1 := ⟨w - 1, by omega⟩
  have hq : n / 10 < 10 ^ v := by have : 10 ^ (v + 1) = 10 ^ v * 10 := Nat.pow_succ ..; omega
  have hp : padD (v + 1) n = List.replicate (v - (decP 19 (n / 10)).length) 48 ++ decP 19 (n / 10) ++ [dgt (n % 10)] := by
    rw [padD, padD_decP v 19 (n / 10) hq (by omega)]
  have hlen : (decP 19 (n / 10)).length ≤ v := by
    have := congrArg List.length (padD_decP v 19 (n / 10) hq (by omega))
    rw [padD_len] at this
    simp at this
    omega
  rw [hd] at hf
  obtain ⟨l, hl⟩ : ∃ l, decP 19 (n / 10) = l := ⟨_, rfl⟩
  rw [hl] at hf hp hlen
  unfold digit_Put.f
  rw [hf, Option.bind_some, hp]
  have g1 : ¬ ((v + 1 : Nat) : Int) < 1 := by omega
  have g2 : ¬ ((v + 1 : Nat) : Int) > 19 := by omega
  have g3 : ¬ ((l ++ [dgt (n % 10)]).length : Int) > ((v + 1 : Nat) : Int) := by simp; omega
  simp only [bs_size, g1, g2, g3, decide_false, cond_false]
  have e1 : IntKind.wrap .i64 (((v + 1 : Nat) : Int) - ((l ++ [dgt (n % 10)]).length : Int)) = ((v - l.length : Nat) : Int) := by
    rw [wrap_i64 (by simp; omega) (by simp; omega)]; simp; omega
  rw [e1, repeat_is (by omega), Option.bind_some]
  simp only [bs_size, bs_append]
  rw [Nat.ble_eq_true_of_le (by simp; omega)]
  simp
theorem ref_Put_loop (w : Nat) (hw : w ≤ 1000) : ∀ (k n i : Nat) (l : List UInt8), k + i = w → l.length = i → n < 18446744073709551616 →
    ∃ m : Nat, bursarref02_Put.l4 ((n : Int), ((w : Int), (bs l, (i : Int)))) = some ((m : Int), bs (padD k n ++ l))
  | 0, n, i, l, h, hl, hn => by
    refine ⟨n, ?_⟩
    unfold bursarref02_Put.l4
    rw [rounds_end (r := ((n : Int), bs l))]
    · rfl
    · unfold bursarref02_Put.t4
      have h1 : ¬ (i : Int) < (w : Int) := by omega
      simp only [h1, decide_false, cond_false]
  | k + 1, n, i, l, h, hl, hn => by
    obtain ⟨m, ih⟩ := ref_Put_loop w hw k (n / 10) (i + 1) (dgt (n % 10) :: l) (by omega) (by simp; omega) (by omega)
    refine ⟨m, ?_⟩
    unfold bursarref02_Put.l4 at ih ⊢
    rw [rounds_next (s' := (((n / 10 : Nat) : Int), ((w : Int), (bs (dgt (n % 10) :: l), ((i + 1 : Nat) : Int)))))]
    · rw [ih]; simp [padD]
    · unfold bursarref02_Put.t4
      have h1 : (i : Int) < (w : Int) := by omega
      have e1 : IntKind.wrap .u64 (Int.tdiv (n : Int) 10) = ((n / 10 : Nat) : Int) := by
        rw [show Int.tdiv (n : Int) 10 = ((n / 10 : Nat) : Int) from (Int.ofNat_tdiv n 10).symm, wrap_u64]; omega
      have e2 : IntKind.wrap .u8 (IntKind.wrap .u64 ((48 : Int) + (Int.tmod (n : Int) (10 : Int)))) = ((48 + n % 10 : Nat) : Int) := by
        rw [show Int.tmod (n : Int) 10 = ((n % 10 : Nat) : Int) from (Int.ofNat_tmod n 10).symm, wrap_u64, wrap_u8]; omega
      have e3 : IntKind.wrap .i64 ((i : Int) + 1) = ((i + 1 : Nat) : Int) := wrap_up (by omega)
      have e4 : (ByteArray.mk (List.toArray (List.map (fun y4 => (UInt8.ofNat (Int.toNat y4))) [((48 + n % 10 : Nat) : Int)]))) = bs [dgt (n % 10)] := by
        show bs [UInt8.ofNat (Int.toNat ((48 + n % 10 : Nat) : Int))] = _
        rw [Int.toNat_natCast]
      simp only [e1, e2, e3, e4, h1, decide_true, cond_true, bs_append, bs_size]
      rw [Nat.ble_eq_true_of_le (by simp; omega)]
      rfl
theorem OfW_is {w n : Nat} (hw : w ≤ 1000) (h : n < 18446744073709551616) : bursarref02_Of.f ((n : Int), (w : Int)) = some (bs (padD w n)) := by
  obtain ⟨m, hm⟩ := ref_Put_loop w hw w n 0 [] rfl rfl h
  unfold bursarref02_Of.f bursarref02_Put.f
  have hm' : bursarref02_Put.l4 ((n : Int), ((w : Int), (bs [], (0 : Int)))) = some ((m : Int), bs (padD w n ++ [])) := hm
  rw [hm', List.append_nil]
  rfl
def numS (a : Nat) (c : UInt8) : Nat := a * 10 + (c.toNat - 48)
def numL (acc : Nat) (l : List UInt8) : Nat := l.foldl numS acc
theorem numL_cons (acc : Nat) (c : UInt8) (r : List UInt8) : numL acc (c :: r) = numL (acc * 10 + (c.toNat - 48)) r := by unfold numL; rw [List.foldl_cons]; rfl
theorem numL_nil (acc : Nat) : numL acc [] = acc := rfl
theorem numL_app : ∀ (l r : List UInt8) (acc : Nat), numL acc (l ++ r) = numL (numL acc l) r
  | [], _, _ => rfl
  | c :: l, r, acc => by rw [List.cons_append, numL_cons, numL_cons]; exact numL_app l r _
theorem numL_padD : ∀ (k n : Nat), n < 10 ^ k → numL 0 (padD k n) = n
  | 0, n, h => by
    have : n = 0 := by simpa using h
    subst this; rfl
  | k + 1, n, h => by
    rw [padD, numL_app, numL_padD k (n / 10) (by have : 10 ^ (k + 1) = 10 ^ k * 10 := Nat.pow_succ ..; omega)]
    rw [numL_cons, numL_nil, dgt_nat (show n % 10 < 10 by omega)]
    omega
def digL (l : List UInt8) : Prop := ∀ c, c ∈ l → 48 ≤ c.toNat ∧ c.toNat ≤ 57
theorem digL_cons {c : UInt8} {l : List UInt8} (h : digL (c :: l)) : (48 ≤ c.toNat ∧ c.toNat ≤ 57) ∧ digL l := ⟨h c (List.mem_cons_self ..), fun x hx => h x (List.mem_cons_of_mem _ hx)⟩
theorem numL_lt : ∀ (l : List UInt8) (acc j : Nat), digL l → acc < 10 ^ j → numL acc l < 10 ^ (j + l.length)
  | [], acc, j, _, h => by rw [numL_nil]; exact h
  | c :: l, acc, j, hd, h => by
    obtain ⟨h1, h2⟩ := digL_cons hd
    have := numL_lt l (acc * 10 + (c.toNat - 48)) (j + 1) h2 (by have : 10 ^ (j + 1) = 10 ^ j * 10 := Nat.pow_succ ..; omega)
    rw [show j + (c :: l).length = j + 1 + l.length by simp; omega, numL_cons]
    exact this
theorem p18 {acc j : Nat} (h : acc < 10 ^ j) (hj : j ≤ 18) : acc < 1000000000000000000 := by
  have h1 : 10 ^ j ≤ 10 ^ 18 := Nat.pow_le_pow_right (by omega) hj
  have h2 : (10 : Nat) ^ 18 = 1000000000000000000 := by decide
  omega
theorem parseM_num {M : Nat} (hM : 9999999999999999999 ≤ M) : ∀ (l : List UInt8) (acc j : Nat), digL l → acc < 10 ^ j → j + l.length ≤ 19 → Lib.parseUintM M acc l = .ok (numL acc l)
  | [], acc, j, _, _, _ => rfl
  | c :: l, acc, j, hd, h, hj => by
    obtain ⟨h1, h2⟩ := digL_cons hd
    have h3 := p18 h (by simp only [List.length_cons] at hj; omega)
    unfold Lib.parseUintM
    rw [if_pos h1, if_neg (by omega), if_neg (by omega), numL_cons]
    exact parseM_num hM l _ (j + 1) h2 (by have : 10 ^ (j + 1) = 10 ^ j * 10 := Nat.pow_succ ..; omega) (by simp only [List.length_cons] at hj; omega)
theorem m64 : 9999999999999999999 ≤ 2 ^ 64 - 1 := by decide
theorem digitsB_list (l : List UInt8) : digitsB (bs l) = true ↔ digL l := by
  unfold digitsB digL
  rw [List.all_eq_true]
  constructor
  · intro h c hc
    obtain ⟨i, hi, rfl⟩ := List.getElem_of_mem hc
    have := h i (List.mem_range.2 (by rw [bs_size]; exact hi))
    unfold digC at this
    rw [bt_bs, getD_at hi] at this
    simp only [Bool.and_eq_true, decide_eq_true_eq] at this
    omega
  · intro h i hi
    rw [List.mem_range, bs_size] at hi
    have := h _ (List.getElem_mem hi)
    unfold digC
    rw [bt_bs, getD_at hi]
    simp only [Bool.and_eq_true, decide_eq_true_eq]
    omega
theorem GetD_is {l : List UInt8} (hl : 1 ≤ l.length ∧ l.length ≤ 19) (hd : digL l) : digit_Get.f (bs l) = some ((numL 0 l : Int), 0) := by
  have h0 : l ≠ [] := by rintro rfl; simp at hl
  have hn : ¬ ((bs l).size : Int) > 19 := by rw [bs_size]; omega
  have hp : strconv_ParseUint.f (bs l, ((10 : Int), (64 : Int))) = some ((numL 0 l : Int), false) := by
    show (bif _ then _ else _) = _
    rw [bs_size, decide_eq_true (show l.length ≤ 281474976710656 by omega), bs_list]
    unfold parseU Lib.parseUintB
    rw [if_neg h0, parseM_num m64 l 0 0 hd (by simp) (by omega)]
    rfl
  unfold digit_Get.f
  rw [texts_nil, decide_eq_false (fun h => h0 (bs_inj.1 h)), decide_eq_false hn, digit_All_is _ (by rw [bs_size]; omega), (digitsB_list l).2 hd, hp]
  rfl
theorem Get_some {l : List UInt8} (hl : l.length ≤ 1000) : ∃ q, digit_Get.f (bs l) = some q := by
  unfold digit_Get.f
  have hp : strconv_ParseUint.f (bs l, ((10 : Int), (64 : Int))) = some (parseU l) := by
    show (bif _ then _ else _) = _
    rw [bs_size, decide_eq_true (show l.length ≤ 281474976710656 by omega), bs_list]
    rfl
  rw [digit_All_is _ (by rw [bs_size]; omega), hp]
  simp only [Option.bind_some]
  cases (ByteArray.toList (bs l) == []) <;> cases decide (((bs l).size : Int) > 19) <;> cases digitsB (bs l) <;> exact ⟨_, rfl⟩
def geta (acc : Int) (c : UInt8) : Int := IntKind.wrap .u64 ((IntKind.wrap .u64 ((IntKind.wrap .u64 (10 * acc)) + (IntKind.wrap .u64 (c.toNat : Int)))) - 48)
theorem get_loop (all : List UInt8) (hall : all.length ≤ 1000) : ∀ (l : List UInt8) (i : Nat) (acc : Int), all.drop i = l → i ≤ all.length →
    bursarref02_Get.l10 (bs all, (acc, (i : Int))) = some (l.foldl geta acc)
  | [], i, acc, h, hi => by
    have hl := congrArg List.length h
    simp only [List.length_drop, List.length_nil] at hl
    unfold bursarref02_Get.l10
    rw [rounds_end (r := acc)]
    · rfl
    · unfold bursarref02_Get.t10
      have h1 : ¬ (i : Int) < ((bs all).size : Int) := by rw [bs_size]; omega
      simp only [h1, decide_false, cond_false]
  | c :: r, i, acc, h, hi => by
    obtain ⟨g1, g2, g3⟩ := drop_cons 0 h
    have ih := get_loop all hall r (i + 1) (geta acc c) g2 (by omega)
    unfold bursarref02_Get.l10 at ih ⊢
    rw [rounds_next (s' := (bs all, (geta acc c, ((i + 1 : Nat) : Int))))]
    · rw [ih]; rfl
    · unfold bursarref02_Get.t10
      have h1 : (i : Int) < ((bs all).size : Int) := by rw [bs_size]; omega
      have h2 : (0 : Int) ≤ (i : Int) := by omega
      have e3 : IntKind.wrap .i64 ((i : Int) + 1) = ((i + 1 : Nat) : Int) := wrap_up (by omega)
      have hb : bt (bs all) (Int.toNat (i : Int)) = (c.toNat : Int) := by rw [bt_bs, Int.toNat_natCast, g1]
      simp only [h1, h2, e3, hb, decide_true, Bool.and_self, cond_true]
      rfl
theorem geta_num : ∀ (l : List UInt8) (acc j : Nat), digL l → acc < 10 ^ j → j + l.length ≤ 19 → l.foldl geta (acc : Int) = (numL acc l : Int)
  | [], acc, j, _, _, _ => rfl
  | c :: l, acc, j, hd, h, hj => by
    obtain ⟨h1, h2⟩ := digL_cons hd
    have h3 := p18 h (by simp only [List.length_cons] at hj; omega)
    have e : geta (acc : Int) c = ((acc * 10 + (c.toNat - 48) : Nat) : Int) := by
      unfold geta
      simp only [wrap_u64]
      omega
    rw [List.foldl_cons, e, numL_cons]
    exact geta_num l _ (j + 1) h2 (by have : 10 ^ (j + 1) = 10 ^ j * 10 := Nat.pow_succ ..; omega) (by simp only [List.length_cons] at hj; omega)
theorem RefGet_is {l : List UInt8} (hl : 1 ≤ l.length ∧ l.length ≤ 19) (hd : digL l) : bursarref02_Get.f (bs l) = some ((numL 0 l : Int), 0) := by
  unfold bursarref02_Get.f
  have h1 : ¬ ((bs l).size : Int) < 1 := by rw [bs_size]; omega
  have h2 : ¬ ((bs l).size : Int) > 19 := by rw [bs_size]; omega
  have hg := get_loop l (by omega) l 0 0 rfl (by omega)
  have hg' : bursarref02_Get.l10 (bs l, ((0 : Int), (0 : Int))) = some (l.foldl geta 0) := hg
  have hn := geta_num l 0 0 hd (by simp) (by omega)
  have hn : l.foldl geta 0 = (numL 0 l : Int) := hn
  simp only [h1, h2, decide_false, cond_false, ref_All_is (bs l) (by rw [bs_size]; omega), (digitsB_list l).2 hd, Option.bind_some, Bool.not_true, hg', hn]
theorem RefGet_some {l : List UInt8} (hl : l.length ≤ 1000) : ∃ q, bursarref02_Get.f (bs l) = some q := by
  unfold bursarref02_Get.f
  have hg := get_loop l (by omega) l 0 0 rfl (by omega)
  have hg' : bursarref02_Get.l10 (bs l, ((0 : Int), (0 : Int))) = some (l.foldl geta 0) := hg
  rw [ref_All_is (bs l) (by rw [bs_size]; omega)]
  simp only [Option.bind_some, hg']
  cases decide (((bs l).size : Int) < 1) <;> cases decide (((bs l).size : Int) > 19) <;> cases digitsB (bs l) <;> exact ⟨_, rfl⟩
end Go.Proofs.YtpoiijkodpnobaaGreatDoor
end
section
namespace Go.Proofs
open Go.Shelf
def Tryz.laysM171_ren : Go.Shelf.Ren := ⟨fun | 171 => 52 | 243 => 90 | 246 => 124 | 283 => 157 | 284 => 158 | 285 => 159 | 286 => 160 | 129 => 180 | 317 => 179 | 318 => 181 | 319 => 182 | 320 => 183 | 337 => 189 | 338 => 190 | n => n, fun | 3 => 3 | 9 => 9 | 2 => 2 | 4 => 4 | 171 => 211 | 0 => 0 | 53 => 95 | 37 => 132 | 5 => 5 | 173 => 214 | 212 => 237 | 51 => 200 | 20 => 20 | 213 => 238 | 46 => 163 | 232 => 257 | 233 => 258 | n => n, fun | 17 => 4 | 18 => 6 | 19 => 7 | n => n⟩
theorem Tryz.laysM171 : Go.Proofs.LaysM.n171 Tryz.prog Tryz.laysM171_ren := {
  mixed := by kernel_rfl
  f129 := Tryz.func180.trans (congrArg some (by kernel_rfl))
  f171 := Tryz.func52.trans (congrArg some (by kernel_rfl))
  f243 := Tryz.func90.trans (congrArg some (by kernel_rfl))
  f246 := Tryz.func124.trans (congrArg some (by kernel_rfl))
  f283 := Tryz.func157.trans (congrArg some (by kernel_rfl))
  f284 := Tryz.func158.trans (congrArg some (by kernel_rfl))
  f285 := Tryz.func159.trans (congrArg some (by kernel_rfl))
  f286 := Tryz.func160.trans (congrArg some (by kernel_rfl))
  f317 := Tryz.func179.trans (congrArg some (by kernel_rfl))
  f318 := Tryz.func181.trans (congrArg some (by kernel_rfl))
  f319 := Tryz.func182.trans (congrArg some (by kernel_rfl))
  f320 := Tryz.func183.trans (congrArg some (by kernel_rfl))
  f337 := Tryz.func189.trans (congrArg some (by kernel_rfl))
  f338 := Tryz.func190.trans (congrArg some (by kernel_rfl))
  t0 := Tryz.underlying0
  a0 := Tryz.isAgg0
  z0 := Tryz.sizeOf0
  v0 := Tryz.zeroValue0
  t2 := Tryz.underlying2
  a2 := Tryz.isAgg2
  z2 := Tryz.sizeOf2
  v2 := Tryz.zeroValue2
  t3 := Tryz.underlying3
  a3 := Tryz.isAgg3
  z3 := Tryz.sizeOf3
  v3 := Tryz.zeroValue3
  t4 := Tryz.underlying4
  a4 := Tryz.isAgg4
  z4 := Tryz.sizeOf4
  v4 := Tryz.zeroValue4
  t5 := Tryz.underlying5
  a5 := Tryz.isAgg5
  z5 := Tryz.sizeOf5
  v5 := Tryz.zeroValue5
  t9 := Tryz.underlying9
  a9 := Tryz.isAgg9
  z9 := Tryz.sizeOf9
  v9 := Tryz.zeroValue9
  t20 := Tryz.underlying20
  a20 := Tryz.isAgg20
  z20 := Tryz.sizeOf20
  v20 := Tryz.zeroValue20
  t37 := Tryz.underlying132
  a37 := Tryz.isAgg132
  z37 := Tryz.sizeOf132
  v37 := Tryz.zeroValue132
  t46 := Tryz.underlying163
  a46 := Tryz.isAgg163
  z46 := Tryz.sizeOf163
  v46 := Tryz.zeroValue163
  t51 := Tryz.underlying200
  a51 := Tryz.isAgg200
  z51 := Tryz.sizeOf200
  v51 := Tryz.zeroValue200
  t53 := Tryz.underlying95
  a53 := Tryz.isAgg95
  z53 := Tryz.sizeOf95
  v53 := Tryz.zeroValue95
  t171 := Tryz.underlying211
  a171 := Tryz.isAgg211
  z171 := Tryz.sizeOf211
  v171 := Tryz.zeroValue211
  t173 := Tryz.underlying214
  a173 := Tryz.isAgg214
  z173 := Tryz.sizeOf214
  v173 := Tryz.zeroValue214
  t212 := Tryz.underlying237
  a212 := Tryz.isAgg237
  z212 := Tryz.sizeOf237
  v212 := Tryz.zeroValue237
  t213 := Tryz.underlying238
  a213 := Tryz.isAgg238
  z213 := Tryz.sizeOf238
  t232 := Tryz.underlying257
  a232 := Tryz.isAgg257
  z232 := Tryz.sizeOf257
  v232 := Tryz.zeroValue257
  t233 := Tryz.underlying258
  a233 := Tryz.isAgg258
  z233 := Tryz.sizeOf258
  v233 := Tryz.zeroValue258
  g17 := by kernel_rfl
  g18 := by kernel_rfl
  g19 := by kernel_rfl
  i0 := by kernel_rfl
  i2 := by kernel_rfl
  i3 := by kernel_rfl
  i4 := by kernel_rfl
  i5 := by kernel_rfl
  i9 := by kernel_rfl
  i20 := by kernel_rfl
  i37 := by kernel_rfl
  i46 := by kernel_rfl
  i51 := by kernel_rfl
  i53 := by kernel_rfl
  i171 := by kernel_rfl
  i173 := by kernel_rfl
  i212 := by kernel_rfl
  i232 := by kernel_rfl
  i233 := by kernel_rfl
  m17 := by kernel_rfl
  m18 := by kernel_rfl
  m19 := by kernel_rfl }
end Go.Proofs
end
section
set_option linter.unusedVariables false
namespace Go.Proofs.YtpoiijkodpnobaaGreatDoor
open Go Go.Fw Go.RowKit Go.Shelf
def itoaI (n : Int) : List UInt8 := bif decide (n < 0) then 45 :: decF 20 n.natAbs else decF 20 n.toNat
abbrev strconv_Itoa.As : Shs := .cons (.x (.i .i64)) .nil
abbrev strconv_Itoa.m : Back := [(false, .s)]
abbrev strconv_Itoa.f (a : Int) : Option ByteArray := bif decide (-9223372036854775808 ≤ a) && decide (a ≤ 9223372036854775807) then some (bs (itoaI a)) else none
noncomputable abbrev strconv_Itoa.row : Row := fnRow 52 strconv_Itoa.As strconv_Itoa.m strconv_Itoa.f
theorem itoaI_is {n : Int} (h0 : -9223372036854775808 ≤ n) (h1 : n ≤ 9223372036854775807) : itoaI n = Lib.itoa n := by
  unfold itoaI Lib.itoa
  rw [decF_is 19 _ (by omega)]
  by_cases h : n < 0
  · simp [h]
  · simp only [h, decide_false, cond_false, if_false]
    exact decF_is 19 _ (by omega)
theorem strconv_Itoa.row_ok : RowOK P G0 strconv_Itoa.row := by
  have key : ∀ (ds : List D) (a : Int) (q : ByteArray), decArgs strconv_Itoa.As ds = some a → strconv_Itoa.f a = some q → Fw.Enters P 52 ∧ PCall P G0 52 ds (.s q) := by
    intro ds a q ha hq
    refine ⟨ent_of Tryz.func52 (by kernel_rfl) (by kernel_rfl), ?_⟩
    have hds := (decArgs_argD ha).symm
    refine PCall.coe (ds' := argD strconv_Itoa.As a) ?_ (by rw [← hds]; exact coeA_len) fun w I f hf => by rw [← hds]; exact coeA_rel hf
    refine pcall_below fun w I K vs hg hsz hr => ?_
    have h0 := hr 0 (.i .i64 a) rfl
    have hvs : vs = #[.int .i64 a] := by
      have hs : vs.size = 1 := hsz
      rw [Array.getD_eq_getD_getElem?, Array.getElem?_eq_getElem (by omega)] at h0
      simp only [Option.getD_some] at h0
      refine Array.ext (by simpa using hs) fun i hi hi' => ?_
      match i, hi with
      | 0, _ => cases h : vs[0] <;> rw [h] at h0 <;> cases h0; rfl
      | i + 1, hi => omega
    subst hvs
    unfold strconv_Itoa.f at hq
    obtain ⟨hb, hq⟩ := cond_some hq
    simp only [Bool.and_eq_true, decide_eq_true_eq] at hb
    injection hq with hq
    subst hq
    refine (Any.strconv_Itoa Tryz.laysM171 a hb.1 hb.2 w (tab_of_glob hg (g := 4) (by kernel_rfl) rfl)).mono ?_
    rintro e w' ⟨rfl, k, os, rfl⟩
    refine ⟨_, rfl, grow_below w k os, ?_⟩
    rw [itoaI_is hb.1 hb.2]
    exact RelD.s _
  exact fun ds a q => key ds a q
end Go.Proofs.YtpoiijkodpnobaaGreatDoor
end
section
set_option linter.unusedVariables false
set_option maxRecDepth 100000
namespace Go.Proofs.YtpoiijkodpnobaaGreatDoor
open Go Go.Fw
abbrev trade_or.As : Shs := (.cons (.x .s) (.cons (.x (.i .i64)) .nil))
abbrev trade_or.m : Back := [(false, .s)]
noncomputable abbrev trade_or.H : HK := hk P G0 E0 J0 [strings_Repeat.row] noLoops 4
theorem trade_or.rows : TabOK P G0 (tabF [strings_Repeat.row]) := rows_ok (ws := [strings_Repeat.row]) ⟨strings_Repeat.row_ok, trivial⟩
theorem trade_or.hok : HKOK P trade_or.H := hk_ok e0_ok j0_ok trade_or.rows (fun g n => noLoops_ok g n) 4
noncomputable def trade_or.f (a : (ByteArray × Int)) : Option ByteArray := (bif ((ByteArray.toList a.1) == []) then (((strings_Repeat.f ((bs [48]), a.2))).bind fun x2 => (some x2)) else (some a.1))
theorem trade_or.ok : ∀ a : Vals trade_or.As.tys, fnK P trade_or.H (lp []) 38 trade_or.As trade_or.m a some = trade_or.f a := fun a => by kernel_rfl
noncomputable abbrev trade_or.row : Row := fnRow 38 trade_or.As trade_or.m trade_or.f
theorem trade_or.row_ok : RowOK P G0 trade_or.row := row_told trade_or.hok (lp_of (l := []) trivial) (fun _ => rfl) trade_or.ok
abbrev trade_Text.As : Shs := (.cons (.x T_api_Post) .nil)
abbrev trade_Text.m : Back := [(false, .s), (false, (.i .i64))]
noncomputable abbrev trade_Text.H : HK := hk P G0 E0 J0 [trade_May.row, trade_or.row, digit_Put.row, strconv_Itoa.row] noLoops 4
theorem trade_Text.rows : TabOK P G0 (tabF [trade_May.row, trade_or.row, digit_Put.row, strconv_Itoa.row]) := rows_ok (ws := [trade_May.row, trade_or.row, digit_Put.row, strconv_Itoa.row]) ⟨trade_May.row_ok, ⟨trade_or.row_ok, ⟨digit_Put.row_ok, ⟨strconv_Itoa.row_ok, trivial⟩⟩⟩⟩
theorem trade_Text.hok : HKOK P trade_Text.H := hk_ok e0_ok j0_ok trade_Text.rows (fun g n => noLoops_ok g n) 4
noncomputable def trade_Text.f (a : (Int × (Int × (ByteArray × (ByteArray × (ByteArray × Int)))))) : Option (ByteArray × Int) := (((trade_May.f a)).bind fun x1 => (bif (!x1) then (some ((bs []), (1 : Int))) else (((digit_Put.f ((IntKind.wrap .u64 a.2.1), (10 : Int)))).bind fun x2 => (((digit_Put.f ((IntKind.wrap .u64 a.2.2.2.2.2), (14 : Int)))).bind fun x3 => (((strconv_Itoa.f a.1)).bind fun x4 => (bif (Nat.ble (x4.size + x2.1.size) 9223372036854775807) then (((trade_or.f (a.2.2.1, (16 : Int)))).bind fun x5 => (bif (Nat.ble ((x4 ++ x2.1).size + x5.size) 9223372036854775807) then (((trade_or.f (a.2.2.2.1, (6 : Int)))).bind fun x6 => (bif (Nat.ble (((x4 ++ x2.1) ++ x5).size + x6.size) 9223372036854775807) then (((trade_or.f (a.2.2.2.2.1, (12 : Int)))).bind fun x7 => (bif (Nat.ble ((((x4 ++ x2.1) ++ x5) ++ x6).size + x7.size) 9223372036854775807) then (bif (Nat.ble (((((x4 ++ x2.1) ++ x5) ++ x6) ++ x7).size + x3.1.size) 9223372036854775807) then (some ((((((x4 ++ x2.1) ++ x5) ++ x6) ++ x7) ++ x3.1), (0 : Int))) else none) else none)) else none)) else none)) else none))))))
theorem trade_Text.ok : ∀ a : Vals trade_Text.As.tys, fnK P trade_Text.H (lp []) 20 trade_Text.As trade_Text.m a some = trade_Text.f a := fun a => by kernel_rfl
noncomputable abbrev trade_Text.row : Row := fnRow 20 trade_Text.As trade_Text.m trade_Text.f
theorem trade_Text.row_ok : RowOK P G0 trade_Text.row := row_told trade_Text.hok (lp_of (l := []) trivial) (fun _ => rfl) trade_Text.ok
abbrev bursarref20_noughts.As : Shs := (.cons (.x (.i .i64)) .nil)
abbrev bursarref20_noughts.m : Back := [(false, .s)]
noncomputable abbrev bursarref20_noughts.H : HK := hk P G0 E0 J0 [] noLoops 4
theorem bursarref20_noughts.rows : TabOK P G0 (tabF []) := rows_ok (ws := []) trivial
theorem bursarref20_noughts.hok : HKOK P bursarref20_noughts.H := hk_ok e0_ok j0_ok bursarref20_noughts.rows (fun g n => noLoops_ok g n) 4
noncomputable abbrev bursarref20_noughts.sh4 : SSh := ⟨[(0, (.x (.i .i64))), (3, (.x .s)), (4, (.x (.i .i64)))], []⟩
noncomputable abbrev bursarref20_noughts.os4 : PEnds := [((.exit 0), ⟨[(3, (.x .s))], []⟩)]
noncomputable def bursarref20_noughts.t4 (s : (Int × (ByteArray × Int))) : Option ((Int × (ByteArray × Int)) ⊕ (ByteArray)) := (bif (decide ((s.2.2 < s.1))) then (bif (Nat.ble (s.2.1.size + 1) 9223372036854775807) then (some (.inl (s.1, ((s.2.1 ++ (bs [48])), (IntKind.wrap .i64 (s.2.2 + (1 : Int))))))) else none) else (some (.inr s.2.1)))
theorem bursarref20_noughts.t4_ok : ∀ s : Vals bursarref20_noughts.sh4.tys, turnK P bursarref20_noughts.H (lp []) (bodyAt (codeOf P 39) 4) 0 bursarref20_noughts.sh4 bursarref20_noughts.os4 s some = bursarref20_noughts.t4 s := fun s => by kernel_rfl
noncomputable def bursarref20_noughts.l4 : (Int × (ByteArray × Int)) → Option (ByteArray) := rounds bursarref20_noughts.t4
noncomputable def bursarref20_noughts.f (a : Int) : Option ByteArray := (((bursarref20_noughts.l4 (a, ((bs []), (0 : Int))))).bind fun x1 => (some x1))
theorem bursarref20_noughts.ok : ∀ a : Vals bursarref20_noughts.As.tys, fnK P bursarref20_noughts.H (lp [(4, (NodeT.summ ⟨bursarref20_noughts.sh4, bursarref20_noughts.os4, bursarref20_noughts.l4⟩ 0))]) 39 bursarref20_noughts.As bursarref20_noughts.m a some = bursarref20_noughts.f a := fun a => by kernel_rfl
noncomputable abbrev bursarref20_noughts.row : Row := fnRow 39 bursarref20_noughts.As bursarref20_noughts.m bursarref20_noughts.f
theorem bursarref20_noughts.row_ok : RowOK P G0 bursarref20_noughts.row := row_told bursarref20_noughts.hok (lp_of (l := [(4, (NodeT.summ ⟨bursarref20_noughts.sh4, bursarref20_noughts.os4, bursarref20_noughts.l4⟩ 0))]) ⟨(loop_sum bursarref20_noughts.hok (by kernel_rfl) (by kernel_rfl) (l := []) trivial bursarref20_noughts.sh4 bursarref20_noughts.os4 (by kernel_rfl) bursarref20_noughts.t4 bursarref20_noughts.t4_ok), trivial⟩) (fun _ => rfl) bursarref20_noughts.ok
abbrev bursarref20_Text.As : Shs := (.cons (.x T_api_Post) .nil)
abbrev bursarref20_Text.m : Back := [(false, .s)]
noncomputable abbrev bursarref20_Text.H : HK := hk P G0 E0 J0 [bursarref20_noughts.row, bursarref02_Of.row] noLoops 4
theorem bursarref20_Text.rows : TabOK P G0 (tabF [bursarref20_noughts.row, bursarref02_Of.row]) := rows_ok (ws := [bursarref20_noughts.row, bursarref02_Of.row]) ⟨bursarref20_noughts.row_ok, ⟨bursarref02_Of.row_ok, trivial⟩⟩
theorem bursarref20_Text.hok : HKOK P bursarref20_Text.H := hk_ok e0_ok j0_ok bursarref20_Text.rows (fun g n => noLoops_ok g n) 4
noncomputable def bursarref20_Text.f (a : (Int × (Int × (ByteArray × (ByteArray × (ByteArray × Int)))))) : Option ByteArray := (((bursarref02_Of.f ((IntKind.wrap .u64 a.1), (1 : Int)))).bind fun x1 => (((bursarref02_Of.f ((IntKind.wrap .u64 a.2.1), (10 : Int)))).bind fun x2 => (bif (Nat.ble (x1.size + x2.size) 9223372036854775807) then (bif ((ByteArray.toList a.2.2.1) == []) then (((bursarref20_noughts.f (16 : Int))).bind fun x3 => (bif (Nat.ble ((x1 ++ x2).size + x3.size) 9223372036854775807) then (bif (Nat.ble (((x1 ++ x2) ++ x3).size + a.2.2.1.size) 9223372036854775807) then (bif ((ByteArray.toList a.2.2.2.1) == []) then (((bursarref20_noughts.f (6 : Int))).bind fun x4 => (bif (Nat.ble ((((x1 ++ x2) ++ x3) ++ a.2.2.1).size + x4.size) 9223372036854775807) then (bif (Nat.ble (((((x1 ++ x2) ++ x3) ++ a.2.2.1) ++ x4).size + a.2.2.2.1.size) 9223372036854775807) then (bif ((ByteArray.toList a.2.2.2.2.1) == []) then (((bursarref20_noughts.f (12 : Int))).bind fun x5 => (bif (Nat.ble ((((((x1 ++ x2) ++ x3) ++ a.2.2.1) ++ x4) ++ a.2.2.2.1).size + x5.size) 9223372036854775807) then (bif (Nat.ble (((((((x1 ++ x2) ++ x3) ++ a.2.2.1) ++ x4) ++ a.2.2.2.1) ++ x5).size + a.2.2.2.2.1.size) 9223372036854775807) then (((bursarref02_Of.f ((IntKind.wrap .u64 a.2.2.2.2.2), (14 : Int)))).bind fun x6 => (bif (Nat.ble ((((((((x1 ++ x2) ++ x3) ++ a.2.2.1) ++ x4) ++ a.2.2.2.1) ++ x5) ++ a.2.2.2.2.1).size + x6.size) 9223372036854775807) then (some ((((((((x1 ++ x2) ++ x3) ++ a.2.2.1) ++ x4) ++ a.2.2.2.1) ++ x5) ++ a.2.2.2.2.1) ++ x6)) else none)) else none) else none)) else (bif (Nat.ble ((((((x1 ++ x2) ++ x3) ++ a.2.2.1) ++ x4) ++ a.2.2.2.1).size + a.2.2.2.2.1.size) 9223372036854775807) then (((bursarref02_Of.f ((IntKind.wrap .u64 a.2.2.2.2.2), (14 : Int)))).bind fun x5 => (bif (Nat.ble (((((((x1 ++ x2) ++ x3) ++ a.2.2.1) ++ x4) ++ a.2.2.2.1) ++ a.2.2.2.2.1).size + x5.size) 9223372036854775807) then (some (((((((x1 ++ x2) ++ x3) ++ a.2.2.1) ++ x4) ++ a.2.2.2.1) ++ a.2.2.2.2.1) ++ x5)) else none)) else none)) else none) else none)) else (bif (Nat.ble ((((x1 ++ x2) ++ x3) ++ a.2.2.1).size + a.2.2.2.1.size) 9223372036854775807) then (bif ((ByteArray.toList a.2.2.2.2.1) == []) then (((bursarref20_noughts.f (12 : Int))).bind fun x4 => (bif (Nat.ble (((((x1 ++ x2) ++ x3) ++ a.2.2.1) ++ a.2.2.2.1).size + x4.size) 9223372036854775807) then (bif (Nat.ble ((((((x1 ++ x2) ++ x3) ++ a.2.2.1) ++ a.2.2.2.1) ++ x4).size + a.2.2.2.2.1.size) 9223372036854775807) then (((bursarref02_Of.f ((IntKind.wrap .u64 a.2.2.2.2.2), (14 : Int)))).bind fun x5 => (bif (Nat.ble (((((((x1 ++ x2) ++ x3) ++ a.2.2.1) ++ a.2.2.2.1) ++ x4) ++ a.2.2.2.2.1).size + x5.size) 9223372036854775807) then (some (((((((x1 ++ x2) ++ x3) ++ a.2.2.1) ++ a.2.2.2.1) ++ x4) ++ a.2.2.2.2.1) ++ x5)) else none)) else none) else none)) else (bif (Nat.ble (((((x1 ++ x2) ++ x3) ++ a.2.2.1) ++ a.2.2.2.1).size + a.2.2.2.2.1.size) 9223372036854775807) then (((bursarref02_Of.f ((IntKind.wrap .u64 a.2.2.2.2.2), (14 : Int)))).bind fun x4 => (bif (Nat.ble ((((((x1 ++ x2) ++ x3) ++ a.2.2.1) ++ a.2.2.2.1) ++ a.2.2.2.2.1).size + x4.size) 9223372036854775807) then (some ((((((x1 ++ x2) ++ x3) ++ a.2.2.1) ++ a.2.2.2.1) ++ a.2.2.2.2.1) ++ x4)) else none)) else none)) else none)) else none) else none)) else (bif (Nat.ble ((x1 ++ x2).size + a.2.2.1.size) 9223372036854775807) then (bif ((ByteArray.toList a.2.2.2.1) == []) then (((bursarref20_noughts.f (6 : Int))).bind fun x3 => (bif (Nat.ble (((x1 ++ x2) ++ a.2.2.1).size + x3.size) 9223372036854775807) then (bif (Nat.ble ((((x1 ++ x2) ++ a.2.2.1) ++ x3).size + a.2.2.2.1.size) 9223372036854775807) then (bif ((ByteArray.toList a.2.2.2.2.1) == []) then (((bursarref20_noughts.f (12 : Int))).bind fun x4 => (bif (Nat.ble (((((x1 ++ x2) ++ a.2.2.1) ++ x3) ++ a.2.2.2.1).size + x4.size) 9223372036854775807) then (bif (Nat.ble ((((((x1 ++ x2) ++ a.2.2.1) ++ x3) ++ a.2.2.2.1) ++ x4).size + a.2.2.2.2.1.size) 9223372036854775807) then (((bursarref02_Of.f ((IntKind.wrap .u64 a.2.2.2.2.2), (14 : Int)))).bind fun x5 => (bif (Nat.ble (((((((x1 ++ x2) ++ a.2.2.1) ++ x3) ++ a.2.2.2.1) ++ x4) ++ a.2.2.2.2.1).size + x5.size) 9223372036854775807) then (some (((((((x1 ++ x2) ++ a.2.2.1) ++ x3) ++ a.2.2.2.1) ++ x4) ++ a.2.2.2.2.1) ++ x5)) else none)) else none) else none)) else (bif (Nat.ble (((((x1 ++ x2) ++ a.2.2.1) ++ x3) ++ a.2.2.2.1).size + a.2.2.2.2.1.size) 9223372036854775807) then (((bursarref02_Of.f ((IntKind.wrap .u64 a.2.2.2.2.2), (14 : Int)))).bind fun x4 => (bif (Nat.ble ((((((x1 ++ x2) ++ a.2.2.1) ++ x3) ++ a.2.2.2.1) ++ a.2.2.2.2.1).size + x4.size) 9223372036854775807) then (some ((((((x1 ++ x2) ++ a.2.2.1) ++ x3) ++ a.2.2.2.1) ++ a.2.2.2.2.1) ++ x4)) else none)) else none)) else none) else none)) else (bif (Nat.ble (((x1 ++ x2) ++ a.2.2.1).size + a.2.2.2.1.size) 9223372036854775807) then (bif ((ByteArray.toList a.2.2.2.2.1) == []) then (((bursarref20_noughts.f (12 : Int))).bind fun x3 => (bif (Nat.ble ((((x1 ++ x2) ++ a.2.2.1) ++ a.2.2.2.1).size + x3.size) 9223372036854775807) then (bif (Nat.ble (((((x1 ++ x2) ++ a.2.2.1) ++ a.2.2.2.1) ++ x3).size + a.2.2.2.2.1.size) 9223372036854775807) then (((bursarref02_Of.f ((IntKind.wrap .u64 a.2.2.2.2.2), (14 : Int)))).bind fun x4 => (bif (Nat.ble ((((((x1 ++ x2) ++ a.2.2.1) ++ a.2.2.2.1) ++ x3) ++ a.2.2.2.2.1).size + x4.size) 9223372036854775807) then (some ((((((x1 ++ x2) ++ a.2.2.1) ++ a.2.2.2.1) ++ x3) ++ a.2.2.2.2.1) ++ x4)) else none)) else none) else none)) else (bif (Nat.ble ((((x1 ++ x2) ++ a.2.2.1) ++ a.2.2.2.1).size + a.2.2.2.2.1.size) 9223372036854775807) then (((bursarref02_Of.f ((IntKind.wrap .u64 a.2.2.2.2.2), (14 : Int)))).bind fun x3 => (bif (Nat.ble (((((x1 ++ x2) ++ a.2.2.1) ++ a.2.2.2.1) ++ a.2.2.2.2.1).size + x3.size) 9223372036854775807) then (some (((((x1 ++ x2) ++ a.2.2.1) ++ a.2.2.2.1) ++ a.2.2.2.2.1) ++ x3)) else none)) else none)) else none)) else none)) else none)))
theorem bursarref20_Text.ok : ∀ a : Vals bursarref20_Text.As.tys, fnK P bursarref20_Text.H (lp []) 24 bursarref20_Text.As bursarref20_Text.m a some = bursarref20_Text.f a := fun a => by kernel_rfl
noncomputable abbrev bursarref20_Text.row : Row := fnRow 24 bursarref20_Text.As bursarref20_Text.m bursarref20_Text.f
theorem bursarref20_Text.row_ok : RowOK P G0 bursarref20_Text.row := row_told bursarref20_Text.hok (lp_of (l := []) trivial) (fun _ => rfl) bursarref20_Text.ok
end Go.Proofs.YtpoiijkodpnobaaGreatDoor
end
section
set_option linter.unusedVariables false
set_option linter.unusedSimpArgs false
namespace Go.Proofs.YtpoiijkodpnobaaGreatDoor
open Go Go.Fw
def orL (s : ByteArray) (w : Nat) : List UInt8 := bif decide (s = bs []) then List.replicate w 48 else s.data.toList
theorem orL_len {s : ByteArray} {w : Nat} (hs : s.size ≤ 20) (hw : w ≤ 20) : (orL s w).length ≤ 20 := by
  unfold orL
  by_cases h : s = bs []
  · rw [decide_eq_true h, cond_true, List.length_replicate]; exact hw
  · rw [decide_eq_false h, cond_false]; exact hs
theorem or_is {s : ByteArray} {w : Nat} (hw : w ≤ 1000) : trade_or.f (s, (w : Int)) = some (bs (orL s w)) := by
  unfold trade_or.f orL
  simp only [texts_nil]
  by_cases h : s = bs []
  · rw [decide_eq_true h, cond_true, cond_true, repeat_is hw]; rfl
  · rw [decide_eq_false h, cond_false, cond_false, ← eq_bs]
theorem noughts16 : bursarref20_noughts.f 16 = some (bs (List.replicate 16 48)) := by
  have : bursarref20_noughts.l4 ((16 : Int), (bs [], (0 : Int))) = some (bs (List.replicate 16 48)) := rounds_some.2 ⟨20, by kernel_rfl⟩
  unfold bursarref20_noughts.f
  rw [this]; rfl
theorem noughts6 : bursarref20_noughts.f 6 = some (bs (List.replicate 6 48)) := by
  have : bursarref20_noughts.l4 ((6 : Int), (bs [], (0 : Int))) = some (bs (List.replicate 6 48)) := rounds_some.2 ⟨20, by kernel_rfl⟩
  unfold bursarref20_noughts.f
  rw [this]; rfl
theorem noughts12 : bursarref20_noughts.f 12 = some (bs (List.replicate 12 48)) := by
  have : bursarref20_noughts.l4 ((12 : Int), (bs [], (0 : Int))) = some (bs (List.replicate 12 48)) := rounds_some.2 ⟨20, by kernel_rfl⟩
  unfold bursarref20_noughts.f
  rw [this]; rfl
def txtP (p : Po) : List UInt8 := [dgt p.1.toNat] ++ padD 10 p.2.1.toNat ++ orL p.2.2.1 16 ++ orL p.2.2.2.1 6 ++ orL p.2.2.2.2.1 12 ++ padD 14 p.2.2.2.2.2.toNat
theorem ble_small {n : Nat} (h : n ≤ 1000) : Nat.ble n 9223372036854775807 = true := Nat.ble_eq_true_of_le (by omega)
theorem itoa_kind {k : Int} (hk : k = 1 ∨ k = 2 ∨ k = 3 ∨ k = 4 ∨ k = 5 ∨ k = 6) : strconv_Itoa.f k = some (bs [dgt k.toNat]) := by
  rcases hk with rfl | rfl | rfl | rfl | rfl | rfl <;> decide +kernel
theorem tradeText_is {p : Po} (hs : smallP p) : trade_Text.f p = some (bif mayP p then (bs (txtP p), 0) else (bs [], 1)) := by
  have hmay := tradeMay_is (p := p) (by have := hs.2.2; omega)
  unfold trade_Text.f
  rw [hmay, Option.bind_some]
  cases hm : mayP p
  · rfl
  obtain ⟨⟨b0, b1⟩, n0, n1⟩ := mayP_num hm
  have hk := mayP_kind hm
  obtain ⟨k, b, x, y, z, n⟩ := p
  obtain ⟨s1, s2, s3⟩ := hs
  have s1 : x.size ≤ 20 := s1
  have s2 : y.size ≤ 20 := s2
  have s3 : z.size ≤ 20 := s3
  have b0 : 0 ≤ b := b0
  have b1 : b ≤ 2147483647 := b1
  have n0 : 1 ≤ n := n0
  have n1 : n ≤ 9999999999999 := n1
  have hk : k = 1 ∨ k = 2 ∨ k = 3 ∨ k = 4 ∨ k = 5 ∨ k = 6 := hk
  have e1 : IntKind.wrap .u64 b = ((b.toNat : Nat) : Int) := by rw [wrap_u64]; omega
  have e2 : IntKind.wrap .u64 n = ((n.toNat : Nat) : Int) := by rw [wrap_u64]; omega
  have t10 : (10 : Nat) ^ 10 = 10000000000 := by decide
  have t14 : (10 : Nat) ^ 14 = 100000000000000 := by decide
  have p1 : digit_Put.f (((b.toNat : Nat) : Int), (10 : Int)) = some (bs (padD 10 b.toNat), 0) := PutW_is (w := 10) (n := b.toNat) (by omega) (by omega)
  have p2 : digit_Put.f (((n.toNat : Nat) : Int), (14 : Int)) = some (bs (padD 14 n.toNat), 0) := PutW_is (w := 14) (n := n.toNat) (by omega) (by omega)
  have o1 : trade_or.f (x, (16 : Int)) = some (bs (orL x 16)) := or_is (s := x) (w := 16) (by omega)
  have o2 : trade_or.f (y, (6 : Int)) = some (bs (orL y 6)) := or_is (s := y) (w := 6) (by omega)
  have o3 : trade_or.f (z, (12 : Int)) = some (bs (orL z 12)) := or_is (s := z) (w := 12) (by omega)
  have l1 := orL_len (w := 16) s1 (by omega)
  have l2 := orL_len (w := 6) s2 (by omega)
  have l3 := orL_len (w := 12) s3 (by omega)
  have q1 := padD_len 10 b.toNat
  have q2 := padD_len 14 n.toNat
  unfold txtP
  simp only [Bool.not_true, cond_false, cond_true, e1, e2, p1, p2, Option.bind_some, itoa_kind hk, o1, o2, o3, bs_append, bs_size, List.length_append, List.length_cons, List.length_nil]
  rw [ble_small (by omega), cond_true, ble_small (by omega), cond_true, ble_small (by omega), cond_true, ble_small (by omega), cond_true, ble_small (by omega), cond_true]
theorem refTText_is {p : Po} (hs : smallP p) (hm : mayP p = true) : bursarref20_Text.f p = some (bs (txtP p)) := by
  obtain ⟨⟨b0, b1⟩, n0, n1⟩ := mayP_num hm
  have hk := mayP_kind hm
  obtain ⟨k, b, x, y, z, n⟩ := p
  obtain ⟨s1, s2, s3⟩ := hs
  have s1 : x.size ≤ 20 := s1
  have s2 : y.size ≤ 20 := s2
  have s3 : z.size ≤ 20 := s3
  have b0 : 0 ≤ b := b0
  have b1 : b ≤ 2147483647 := b1
  have n0 : 1 ≤ n := n0
  have n1 : n ≤ 9999999999999 := n1
  have hk : k = 1 ∨ k = 2 ∨ k = 3 ∨ k = 4 ∨ k = 5 ∨ k = 6 := hk
  have e0 : IntKind.wrap .u64 k = ((k.toNat : Nat) : Int) := by rw [wrap_u64]; omega
  have e1 : IntKind.wrap .u64 b = ((b.toNat : Nat) : Int) := by rw [wrap_u64]; omega
  have e2 : IntKind.wrap .u64 n = ((n.toNat : Nat) : Int) := by rw [wrap_u64]; omega
  have p0 := OfW_is (w := 1) (n := k.toNat) (by omega) (by omega)
  have p1 := OfW_is (w := 10) (n := b.toNat) (by omega) (by omega)
  have p2 := OfW_is (w := 14) (n := n.toNat) (by omega) (by omega)
  have q0 : padD 1 k.toNat = [dgt k.toNat] := by
    rw [padD, padD, List.nil_append, show k.toNat % 10 = k.toNat by omega]
  have q1 := padD_len 10 b.toNat
  have q2 := padD_len 14 n.toNat
  rw [q0] at p0
  have p0' : bursarref02_Of.f (((k.toNat : Nat) : Int), (1 : Int)) = some (bs [dgt k.toNat]) := p0
  have p1' : bursarref02_Of.f (((b.toNat : Nat) : Int), (10 : Int)) = some (bs (padD 10 b.toNat)) := p1
  have p2' : bursarref02_Of.f (((n.toNat : Nat) : Int), (14 : Int)) = some (bs (padD 14 n.toNat)) := p2
  obtain ⟨A, hA⟩ : ∃ A, padD 10 b.toNat = A := ⟨_, rfl⟩
  obtain ⟨B, hB⟩ : ∃ B, padD 14 n.toNat = B := ⟨_, rfl⟩
  obtain ⟨X, rfl⟩ : ∃ X, x = bs X := ⟨_, eq_bs x⟩
  obtain ⟨Y, rfl⟩ : ∃ Y, y = bs Y := ⟨_, eq_bs y⟩
  obtain ⟨Z, rfl⟩ : ∃ Z, z = bs Z := ⟨_, eq_bs z⟩
  rw [bs_size] at s1 s2 s3
  unfold bursarref20_Text.f txtP orL
  rw [hA] at p1' q1
  rw [hB] at p2' q2
  simp only [e0, e1, e2, p0', p1', p2', hA, hB, Option.bind_some, texts_nil, noughts16, noughts6, noughts12, bs_append, bs_size, List.length_append, List.length_cons, List.length_nil, List.length_replicate, bs_list]
  have bl : ∀ m, m ≤ 1000 → Nat.ble m 9223372036854775807 = true := fun m h => ble_small h
  by_cases hx : X = []
  · subst hx
    by_cases hy : Y = []
    · subst hy
      by_cases hz : Z = []
      · subst hz
        simp only [decide_true, cond_true, List.length_nil, Nat.add_zero, List.append_nil]
        rw [ble_small (by omega), cond_true, ble_small (by omega), cond_true, ble_small (by omega), cond_true, ble_small (by omega), cond_true, ble_small (by omega)]
        rfl
      · simp only [decide_true, cond_true, decide_eq_false (fun h => hz (bs_inj.1 h)), cond_false, List.length_nil, Nat.add_zero, List.append_nil]
        rw [ble_small (by omega), cond_true, ble_small (by omega), cond_true, ble_small (by omega), cond_true, ble_small (by omega), cond_true, ble_small (by omega)]
        rfl
    · by_cases hz : Z = []
      · subst hz
        simp only [decide_true, cond_true, decide_eq_false (fun h => hy (bs_inj.1 h)), cond_false, List.length_nil, Nat.add_zero, List.append_nil]
        rw [ble_small (by omega), cond_true, ble_small (by omega), cond_true, ble_small (by omega), cond_true, ble_small (by omega), cond_true, ble_small (by omega)]
        rfl
      · simp only [decide_true, cond_true, decide_eq_false (fun h => hy (bs_inj.1 h)), decide_eq_false (fun h => hz (bs_inj.1 h)), cond_false, List.length_nil, Nat.add_zero, List.append_nil]
        rw [ble_small (by omega), cond_true, ble_small (by omega), cond_true, ble_small (by omega), cond_true, ble_small (by omega), cond_true, ble_small (by omega)]
        rfl
  · by_cases hy : Y = []
    · subst hy
      by_cases hz : Z = []
      · subst hz
        simp only [decide_true, cond_true, decide_eq_false (fun h => hx (bs_inj.1 h)), cond_false, List.length_nil, Nat.add_zero, List.append_nil]
        rw [ble_small (by omega), cond_true, ble_small (by omega), cond_true, ble_small (by omega), cond_true, ble_small (by omega), cond_true, ble_small (by omega)]
        rfl
      · simp only [decide_true, cond_true, decide_eq_false (fun h => hx (bs_inj.1 h)), decide_eq_false (fun h => hz (bs_inj.1 h)), cond_false, List.length_nil, Nat.add_zero, List.append_nil]
        rw [ble_small (by omega), cond_true, ble_small (by omega), cond_true, ble_small (by omega), cond_true, ble_small (by omega), cond_true, ble_small (by omega)]
        rfl
    · by_cases hz : Z = []
      · subst hz
        simp only [decide_true, cond_true, decide_eq_false (fun h => hx (bs_inj.1 h)), decide_eq_false (fun h => hy (bs_inj.1 h)), cond_false, List.length_nil, Nat.add_zero, List.append_nil]
        rw [ble_small (by omega), cond_true, ble_small (by omega), cond_true, ble_small (by omega), cond_true, ble_small (by omega), cond_true, ble_small (by omega)]
        rfl
      · simp only [decide_eq_false (fun h => hx (bs_inj.1 h)), decide_eq_false (fun h => hy (bs_inj.1 h)), decide_eq_false (fun h => hz (bs_inj.1 h)), cond_false]
        rw [ble_small (by omega), cond_true, ble_small (by omega), cond_true, ble_small (by omega), cond_true, ble_small (by omega), cond_true, ble_small (by omega)]
        rfl
end Go.Proofs.YtpoiijkodpnobaaGreatDoor
end
