/- The entries of any postings that may be make a book in which each card has what was loaded and charged back, less what was taken and given again. -/
import Derived.Laws.Strings
import Derived.Shelf.Strconv.ErrVarAll
import Derived.Test.YtgipbdecogfgjaaGreatDoorProg
import Derived.Shelf.Strconv.ErrVarParseInt
import Derived.Test.YtgipbdecogfgjaaGreatDoorRows
import Derived.Test.YtgipbdecogfgjaaGreatDoorCards
import Derived.Test.YtgipbdecogfgjaaGreatDoorTie
import Derived.SevenTiedAt
import Derived.ProofKit
import Derived.LaidMore
import Derived.Lay
import Derived.MakeChecks
import Derived.Test.YtgipbdecogfgjaaGreatDoorKTradeSums4
section
set_option linter.unusedVariables false
set_option maxRecDepth 100000
namespace Go.Proofs.YtgipbdecogfgjaaGreatDoor
open Go Go.Fw
abbrev spec_kinds.row : Row := closedRow 133 (.ag [.s (bs []), .nF, .s (bs [110]), .fn 140 [], .s (bs [97, 110]), .fn 141 [], .s (bs [97, 110, 115]), .fn 143 [], .s (bs [98]), .fn 144 []])
theorem spec_kinds.row_ok : RowOK P G0 spec_kinds.row := closed_ok e0_ok j0_ok (T := []) trivial 60 (by kernel_rfl)
noncomputable abbrev spec_read.tab : List (ByteArray × Int × Int × Int) := [(bs [110, 46, 46, 49, 57], (1, 2, 19)), (bs [110, 54], (1, 0, 6)), (bs [110, 49, 50], (1, 0, 12)), (bs [110, 49, 48], (1, 0, 10)), (bs [110, 56], (1, 0, 8)), (bs [110, 52], (1, 0, 4)), (bs [110, 51], (1, 0, 3)), (bs [110, 50], (1, 0, 2)), (bs [110, 49], (1, 0, 1)), (bs [97, 110, 57], (2, 0, 9)), (bs [110, 46, 46, 49, 49], (1, 2, 11)), (bs [97, 110, 46, 46, 50, 56], (2, 2, 28)), (bs [97, 110, 115, 46, 46, 51, 55], (3, 2, 37)), (bs [97, 110, 115, 46, 46, 46, 49, 48, 52], (3, 3, 104)), (bs [97, 110, 49, 50], (2, 0, 12)), (bs [97, 110, 54], (2, 0, 6)), (bs [97, 110, 50], (2, 0, 2)), (bs [97, 110, 51], (2, 0, 3)), (bs [97, 110, 115, 56], (3, 0, 8)), (bs [97, 110, 115, 49, 53], (3, 0, 15)), (bs [97, 110, 115, 52, 48], (3, 0, 40)), (bs [97, 110, 115, 46, 46, 50, 53], (3, 2, 25)), (bs [97, 110, 115, 46, 46, 55, 54], (3, 2, 76)), (bs [97, 110, 115, 46, 46, 46, 57, 57, 57], (3, 3, 999)), (bs [98, 56], (4, 0, 8)), (bs [110, 49, 54], (1, 0, 16)), (bs [97, 110, 46, 46, 46, 49, 50, 48], (2, 3, 120)), (bs [110, 52, 50], (1, 0, 42)), (bs [97, 110, 49], (2, 0, 1)), (bs [97, 110, 53], (2, 0, 5)), (bs [97, 110, 55], (2, 0, 7)), (bs [97, 110, 52, 50], (2, 0, 42)), (bs [97, 110, 49, 55], (2, 0, 17)), (bs [97, 110, 115, 50, 53], (3, 0, 25)), (bs [97, 110, 115, 46, 46, 49, 55], (3, 2, 17)), (bs [97, 110, 115, 46, 46, 50, 56], (3, 2, 28)), (bs [97, 110, 115, 46, 46, 46, 49, 48, 48], (3, 3, 100))]
abbrev spec_read.m : Back := [(false, T_api_Spec)]
noncomputable def spec_read.f : ByteArray → Option (Int × Int × Int) := lookT spec_read.tab
noncomputable abbrev spec_read.row : Row := fnRow 132 AsT spec_read.m spec_read.f
theorem spec_read.row_ok : RowOK P G1 spec_read.row := told_texts e0_ok j0_ok (T := [strconv_Atoi.row, spec_kinds.row]) ⟨strconv_Atoi.row_ok, ⟨(spec_kinds.row_ok.more g01), trivial⟩⟩ (m := spec_read.m) spec_read.tab 60 (by kernel_rfl)
abbrev spec_table.row : Row := closedRow 121 (.ag [.i .i64 0, .i .i64 0, .i .i64 0, .i .i64 0, .i .i64 0, .i .i64 0, .i .i64 1, .i .i64 2, .i .i64 19, .i .i64 1, .i .i64 0, .i .i64 6, .i .i64 1, .i .i64 0, .i .i64 12, .i .i64 1, .i .i64 0, .i .i64 12, .i .i64 1, .i .i64 0, .i .i64 12, .i .i64 1, .i .i64 0, .i .i64 10, .i .i64 1, .i .i64 0, .i .i64 8, .i .i64 1, .i .i64 0, .i .i64 8, .i .i64 1, .i .i64 0, .i .i64 8, .i .i64 1, .i .i64 0, .i .i64 6, .i .i64 1, .i .i64 0, .i .i64 6, .i .i64 1, .i .i64 0, .i .i64 4, .i .i64 1, .i .i64 0, .i .i64 4, .i .i64 1, .i .i64 0, .i .i64 4, .i .i64 1, .i .i64 0, .i .i64 4, .i .i64 1, .i .i64 0, .i .i64 4, .i .i64 1, .i .i64 0, .i .i64 4, .i .i64 1, .i .i64 0, .i .i64 3, .i .i64 1, .i .i64 0, .i .i64 3, .i .i64 1, .i .i64 0, .i .i64 3, .i .i64 1, .i .i64 0, .i .i64 3, .i .i64 1, .i .i64 0, .i .i64 3, .i .i64 1, .i .i64 0, .i .i64 3, .i .i64 1, .i .i64 0, .i .i64 2, .i .i64 1, .i .i64 0, .i .i64 2, .i .i64 1, .i .i64 0, .i .i64 1, .i .i64 2, .i .i64 0, .i .i64 9, .i .i64 2, .i .i64 0, .i .i64 9, .i .i64 2, .i .i64 0, .i .i64 9, .i .i64 2, .i .i64 0, .i .i64 9, .i .i64 1, .i .i64 2, .i .i64 11, .i .i64 1, .i .i64 2, .i .i64 11, .i .i64 2, .i .i64 2, .i .i64 28, .i .i64 3, .i .i64 2, .i .i64 37, .i .i64 3, .i .i64 3, .i .i64 104, .i .i64 2, .i .i64 0, .i .i64 12, .i .i64 2, .i .i64 0, .i .i64 6, .i .i64 2, .i .i64 0, .i .i64 2, .i .i64 2, .i .i64 0, .i .i64 3, .i .i64 3, .i .i64 0, .i .i64 8, .i .i64 3, .i .i64 0, .i .i64 15, .i .i64 3, .i .i64 0, .i .i64 40, .i .i64 3, .i .i64 2, .i .i64 25, .i .i64 3, .i .i64 2, .i .i64 76, .i .i64 3, .i .i64 3, .i .i64 999, .i .i64 3, .i .i64 3, .i .i64 999, .i .i64 3, .i .i64 3, .i .i64 999, .i .i64 2, .i .i64 0, .i .i64 3, .i .i64 2, .i .i64 0, .i .i64 3, .i .i64 2, .i .i64 0, .i .i64 3, .i .i64 4, .i .i64 0, .i .i64 8, .i .i64 1, .i .i64 0, .i .i64 16, .i .i64 2, .i .i64 3, .i .i64 120, .i .i64 3, .i .i64 3, .i .i64 999, .i .i64 3, .i .i64 3, .i .i64 999, .i .i64 3, .i .i64 3, .i .i64 999, .i .i64 3, .i .i64 3, .i .i64 999, .i .i64 3, .i .i64 3, .i .i64 999, .i .i64 3, .i .i64 3, .i .i64 999, .i .i64 3, .i .i64 3, .i .i64 999, .i .i64 3, .i .i64 3, .i .i64 999, .i .i64 3, .i .i64 3, .i .i64 999, .i .i64 4, .i .i64 0, .i .i64 8, .i .i64 0, .i .i64 0, .i .i64 0, .i .i64 1, .i .i64 0, .i .i64 1, .i .i64 1, .i .i64 0, .i .i64 2, .i .i64 1, .i .i64 0, .i .i64 3, .i .i64 1, .i .i64 0, .i .i64 3, .i .i64 1, .i .i64 0, .i .i64 3, .i .i64 1, .i .i64 0, .i .i64 4, .i .i64 1, .i .i64 0, .i .i64 4, .i .i64 1, .i .i64 0, .i .i64 6, .i .i64 1, .i .i64 0, .i .i64 10, .i .i64 1, .i .i64 0, .i .i64 10, .i .i64 1, .i .i64 0, .i .i64 10, .i .i64 1, .i .i64 0, .i .i64 10, .i .i64 1, .i .i64 0, .i .i64 10, .i .i64 1, .i .i64 0, .i .i64 10, .i .i64 1, .i .i64 0, .i .i64 10, .i .i64 1, .i .i64 0, .i .i64 10, .i .i64 1, .i .i64 0, .i .i64 12, .i .i64 1, .i .i64 0, .i .i64 12, .i .i64 1, .i .i64 0, .i .i64 12, .i .i64 1, .i .i64 0, .i .i64 12, .i .i64 1, .i .i64 0, .i .i64 16, .i .i64 1, .i .i64 0, .i .i64 16, .i .i64 1, .i .i64 0, .i .i64 16, .i .i64 1, .i .i64 0, .i .i64 16, .i .i64 1, .i .i64 0, .i .i64 42, .i .i64 2, .i .i64 0, .i .i64 1, .i .i64 2, .i .i64 0, .i .i64 2, .i .i64 2, .i .i64 0, .i .i64 5, .i .i64 2, .i .i64 0, .i .i64 7, .i .i64 2, .i .i64 0, .i .i64 42, .i .i64 4, .i .i64 0, .i .i64 8, .i .i64 2, .i .i64 0, .i .i64 17, .i .i64 3, .i .i64 0, .i .i64 25, .i .i64 1, .i .i64 2, .i .i64 11, .i .i64 1, .i .i64 2, .i .i64 11, .i .i64 3, .i .i64 2, .i .i64 17, .i .i64 3, .i .i64 2, .i .i64 28, .i .i64 3, .i .i64 2, .i .i64 28, .i .i64 3, .i .i64 3, .i .i64 100, .i .i64 3, .i .i64 3, .i .i64 999, .i .i64 3, .i .i64 3, .i .i64 999, .i .i64 3, .i .i64 3, .i .i64 999, .i .i64 3, .i .i64 3, .i .i64 999, .i .i64 3, .i .i64 3, .i .i64 999, .i .i64 3, .i .i64 3, .i .i64 999, .i .i64 3, .i .i64 3, .i .i64 999, .i .i64 3, .i .i64 3, .i .i64 999, .i .i64 3, .i .i64 3, .i .i64 999, .i .i64 3, .i .i64 3, .i .i64 999, .i .i64 3, .i .i64 3, .i .i64 999, .i .i64 3, .i .i64 3, .i .i64 999, .i .i64 3, .i .i64 3, .i .i64 999, .i .i64 3, .i .i64 3, .i .i64 999, .i .i64 3, .i .i64 3, .i .i64 999, .i .i64 3, .i .i64 3, .i .i64 999, .i .i64 3, .i .i64 3, .i .i64 999, .i .i64 3, .i .i64 3, .i .i64 999, .i .i64 3, .i .i64 3, .i .i64 999, .i .i64 3, .i .i64 3, .i .i64 999, .i .i64 3, .i .i64 3, .i .i64 999, .i .i64 3, .i .i64 3, .i .i64 999, .i .i64 3, .i .i64 3, .i .i64 999, .i .i64 4, .i .i64 0, .i .i64 8])
theorem spec_table.row_ok : RowOK P G1 spec_table.row := closed_ok e0_ok j0_ok (T := [strings_Fields.row, strconv_Atoi.row, spec_read.row]) ⟨(strings_Fields.row_ok.more g01), ⟨strconv_Atoi.row_ok, ⟨spec_read.row_ok, trivial⟩⟩⟩ 400 (by kernel_rfl)
end Go.Proofs.YtgipbdecogfgjaaGreatDoor
end
section
set_option linter.unusedVariables false
set_option linter.unusedSimpArgs false
namespace Go.Proofs.YtgipbdecogfgjaaGreatDoor
open Go Go.Fw
def okN (c : UInt8) : Bool := decide (48 ≤ c.toNat) && decide (c.toNat ≤ 57)
def okA (c : UInt8) : Bool := okN c || (decide (65 ≤ c.toNat) && decide (c.toNat ≤ 90)) || (decide (97 ≤ c.toNat) && decide (c.toNat ≤ 122)) || decide (c.toNat = 32)
def okS (c : UInt8) : Bool := decide (32 ≤ c.toNat) && decide (c.toNat ≤ 126)
def okC (k : Int) (c : UInt8) : Bool := bif k == 1 then okN c else bif k == 2 then okA c else bif k == 3 then okS c else true
end Go.Proofs.YtgipbdecogfgjaaGreatDoor
end
section
set_option linter.unusedVariables false
set_option linter.unusedSimpArgs false
namespace Go.Proofs.YtgipbdecogfgjaaGreatDoor
open Go Go.Fw
def wide (l : List Int) : Bool := l.any fun n => decide (64 < n)
end Go.Proofs.YtgipbdecogfgjaaGreatDoor
end
section
set_option linter.unusedVariables false
set_option linter.unusedSimpArgs false
namespace Go.Proofs.YtgipbdecogfgjaaGreatDoor
open Go Go.Fw
abbrev M := Int × (Bool × (Bool × Bool))
end Go.Proofs.YtgipbdecogfgjaaGreatDoor
end
section
set_option linter.unusedVariables false
set_option linter.unusedSimpArgs false
namespace Go.Proofs.YtgipbdecogfgjaaGreatDoor
open Go Go.Fw
def allM : List M := [(1, (false, (false, false))), (1, (false, (false, true))), (1, (false, (true, false))), (1, (true, (false, false))), (1, (true, (false, true))), (1, (true, (true, false))), (2, (false, (false, false))), (2, (false, (false, true))), (2, (false, (true, false))), (2, (true, (false, false))), (2, (true, (false, true))), (2, (true, (true, false))), (4, (false, (false, false))), (4, (false, (false, true))), (4, (false, (true, false))), (4, (true, (false, false))), (4, (true, (false, true))), (4, (true, (true, false))), (5, (false, (false, false))), (5, (false, (false, true))), (5, (false, (true, false))), (5, (true, (false, false))), (5, (true, (false, true))), (5, (true, (true, false))), (6, (false, (false, false))), (6, (false, (false, true))), (6, (false, (true, false))), (8, (false, (false, false))), (8, (false, (false, true))), (8, (false, (true, false)))]
def m0 : M := (0, (false, (false, false)))
def mAt (i : Nat) : M := allM.getD i m0
def firstI (p : Nat → Bool) : Option Nat := (List.range 30).find? p
def index (m : M) : Option Nat := firstI fun i => decide (mAt i = m)
end Go.Proofs.YtgipbdecogfgjaaGreatDoor
end
section
set_option linter.unusedVariables false
set_option linter.unusedSimpArgs false
namespace Go.Proofs.YtgipbdecogfgjaaGreatDoor
open Go Go.Fw
abbrev Fld := Int × ByteArray
abbrev Msg := ByteArray × List Fld
def goodM (m : Msg) : Prop := m.2.length ≤ 130 ∧ ∀ f ∈ m.2, f.2.size ≤ 1001
theorem goodM.at {m : Msg} (h : goodM m) {i : Nat} (hi : i < m.2.length) : (m.2.getD i (0, bs [])).2.size ≤ 5000 := by
  have := h.2 (m.2.getD i (0, bs [])) (by rw [getD_at hi]; exact List.getElem_mem hi)
  omega
end Go.Proofs.YtgipbdecogfgjaaGreatDoor
end
section
set_option linter.unusedVariables false
set_option linter.unusedSimpArgs false
namespace Go.Proofs.YtgipbdecogfgjaaGreatDoor
open Go Go.Fw
abbrev zF : Fld := (0, bs [])
def getF (l : List Fld) (n : Int) : ByteArray × Bool := bif decide (l.findIdx (fun f => f.1 == n) < l.length) then ((l.getD (l.findIdx fun f => f.1 == n) zF).2, true) else (bs [], false)
abbrev over (n : Int) (f : Fld) : Bool := decide (f.1 > n)
abbrev other (n : Int) (f : Fld) : Bool := !(f.1 == n)
def putF (d : List Fld) (n : Int) (v : ByteArray) : List Fld := d.take (d.findIdx (over n)) ++ [(n, v)] ++ d.drop (d.findIdx (over n))
abbrev keepF (l : List Fld) (n : Int) : List Fld := l.filter (other n)
theorem get_put (l : List Fld) (n : Int) (v : ByteArray) : getF (putF (keepF l n) n v) n = (v, true) := by
  obtain ⟨d, hd⟩ : ∃ d, keepF l n = d := ⟨_, rfl⟩
  have hno : ∀ f ∈ d, (f.1 == n) = false := fun f hf => by
    rw [← hd] at hf
    have := (List.mem_filter.1 hf).2
    simpa [other] using this
  rw [hd]
  obtain ⟨p, hp⟩ : ∃ p, d.take (d.findIdx (over n)) = p := ⟨_, rfl⟩
  obtain ⟨q, hq⟩ : ∃ q, d.drop (d.findIdx (over n)) = q := ⟨_, rfl⟩
  have hpn : ∀ f ∈ p, (f.1 == n) = false := fun f hf => hno f (by rw [← hp] at hf; exact List.mem_of_mem_take hf)
  have e : putF d n v = p ++ ((n, v) :: q) := by unfold putF; rw [hp, hq, List.append_assoc]; rfl
  have hp' : ¬ p.findIdx (fun f => f.1 == n) < p.length := fun h => by
    obtain ⟨f, hf, h⟩ := List.findIdx_lt_length.1 h
    rw [hpn f hf] at h
    cases h
  have hi : (p ++ ((n, v) :: q)).findIdx (fun f => f.1 == n) = p.length := by
    rw [List.findIdx_append, if_neg hp', List.findIdx_cons]
    simp
  unfold getF
  rw [e, hi, decide_eq_true (by simp), cond_true]
  simp [List.getD_eq_getElem?_getD]
end Go.Proofs.YtgipbdecogfgjaaGreatDoor
end
section
namespace Go.Proofs
open Go.Shelf
def Tryz.laysC174_ren : Go.Shelf.Ren := ⟨fun | 174 => 78 | 247 => 94 | 245 => 95 | 287 => 109 | 279 => 110 | 280 => 111 | 281 => 112 | 282 => 113 | 321 => 123 | 322 => 124 | 316 => 125 | 171 => 43 | 205 => 126 | 243 => 68 | 246 => 86 | 283 => 96 | 284 => 97 | 285 => 98 | 286 => 99 | 129 => 115 | 317 => 114 | 318 => 116 | 319 => 117 | 320 => 118 | 337 => 127 | 338 => 128 | n => n, fun | 9 => 9 | 3 => 3 | 2 => 2 | 75 => 127 | 85 => 128 | 4 => 4 | 167 => 168 | 5 => 5 | 53 => 92 | 175 => 169 | 46 => 101 | 168 => 171 | 37 => 123 | 0 => 0 | 210 => 187 | 21 => 21 | 127 => 159 | 145 => 202 | 143 => 200 | 171 => 150 | 173 => 153 | 212 => 175 | 51 => 155 | 20 => 20 | 213 => 176 | 232 => 203 | 233 => 204 | 80 => 139 | n => n, fun | 15 => 1 | 16 => 2 | 17 => 0 | 18 => 4 | 19 => 5 | n => n⟩
theorem Tryz.laysC174 : Go.Proofs.LaysC.n174 Tryz.prog Tryz.laysC174_ren := {
  mixed := by kernel_rfl
  f129 := Tryz.func115.trans (congrArg some (by kernel_rfl))
  f171 := Tryz.func43.trans (congrArg some (by kernel_rfl))
  f174 := Tryz.func78.trans (congrArg some (by kernel_rfl))
  f205 := Tryz.func126.trans (congrArg some (by kernel_rfl))
  f243 := Tryz.func68.trans (congrArg some (by kernel_rfl))
  f245 := Tryz.func95.trans (congrArg some (by kernel_rfl))
  f246 := Tryz.func86.trans (congrArg some (by kernel_rfl))
  f247 := Tryz.func94.trans (congrArg some (by kernel_rfl))
  f279 := Tryz.func110.trans (congrArg some (by kernel_rfl))
  f280 := Tryz.func111.trans (congrArg some (by kernel_rfl))
  f281 := Tryz.func112.trans (congrArg some (by kernel_rfl))
  f282 := Tryz.func113.trans (congrArg some (by kernel_rfl))
  f283 := Tryz.func96.trans (congrArg some (by kernel_rfl))
  f284 := Tryz.func97.trans (congrArg some (by kernel_rfl))
  f285 := Tryz.func98.trans (congrArg some (by kernel_rfl))
  f286 := Tryz.func99.trans (congrArg some (by kernel_rfl))
  f287 := Tryz.func109.trans (congrArg some (by kernel_rfl))
  f316 := Tryz.func125.trans (congrArg some (by kernel_rfl))
  f317 := Tryz.func114.trans (congrArg some (by kernel_rfl))
  f318 := Tryz.func116.trans (congrArg some (by kernel_rfl))
  f319 := Tryz.func117.trans (congrArg some (by kernel_rfl))
  f320 := Tryz.func118.trans (congrArg some (by kernel_rfl))
  f321 := Tryz.func123.trans (congrArg some (by kernel_rfl))
  f322 := Tryz.func124.trans (congrArg some (by kernel_rfl))
  f337 := Tryz.func127.trans (congrArg some (by kernel_rfl))
  f338 := Tryz.func128.trans (congrArg some (by kernel_rfl))
  t0 := Tryz.underlying0
  a0 := Tryz.isAgg0
  z0 := Tryz.sizeOf0
  v0 := Tryz.zeroValue0
  t2 := Tryz.underlying2
  a2 := Tryz.isAgg2
  z2 := Tryz.sizeOf2
  v2 := Tryz.zeroValue2
  t3 := Tryz.underlying3
  a3 := Tryz.isAgg3
  z3 := Tryz.sizeOf3
  v3 := Tryz.zeroValue3
  t4 := Tryz.underlying4
  a4 := Tryz.isAgg4
  z4 := Tryz.sizeOf4
  v4 := Tryz.zeroValue4
  t5 := Tryz.underlying5
  a5 := Tryz.isAgg5
  z5 := Tryz.sizeOf5
  v5 := Tryz.zeroValue5
  t9 := Tryz.underlying9
  a9 := Tryz.isAgg9
  z9 := Tryz.sizeOf9
  v9 := Tryz.zeroValue9
  t20 := Tryz.underlying20
  a20 := Tryz.isAgg20
  z20 := Tryz.sizeOf20
  v20 := Tryz.zeroValue20
  t21 := Tryz.underlying21
  a21 := Tryz.isAgg21
  z21 := Tryz.sizeOf21
  v21 := Tryz.zeroValue21
  t37 := Tryz.underlying123
  a37 := Tryz.isAgg123
  z37 := Tryz.sizeOf123
  v37 := Tryz.zeroValue123
  t46 := Tryz.underlying101
  a46 := Tryz.isAgg101
  z46 := Tryz.sizeOf101
  v46 := Tryz.zeroValue101
  t51 := Tryz.underlying155
  a51 := Tryz.isAgg155
  z51 := Tryz.sizeOf155
  v51 := Tryz.zeroValue155
  t53 := Tryz.underlying92
  a53 := Tryz.isAgg92
  z53 := Tryz.sizeOf92
  v53 := Tryz.zeroValue92
  t75 := Tryz.underlying127
  a75 := Tryz.isAgg127
  z75 := Tryz.sizeOf127
  v75 := Tryz.zeroValue127
  t85 := Tryz.underlying128
  a85 := Tryz.isAgg128
  z85 := Tryz.sizeOf128
  v85 := Tryz.zeroValue128
  t127 := Tryz.underlying159
  a127 := Tryz.isAgg159
  z127 := Tryz.sizeOf159
  v127 := Tryz.zeroValue159
  t143 := Tryz.underlying200
  a143 := Tryz.isAgg200
  z143 := Tryz.sizeOf200
  v143 := Tryz.zeroValue200
  t145 := Tryz.underlying202
  a145 := Tryz.isAgg202
  z145 := Tryz.sizeOf202
  v145 := Tryz.zeroValue202
  t167 := Tryz.underlying168
  a167 := Tryz.isAgg168
  z167 := Tryz.sizeOf168
  v167 := Tryz.zeroValue168
  t168 := Tryz.underlying171
  a168 := Tryz.isAgg171
  z168 := Tryz.sizeOf171
  v168 := Tryz.zeroValue171
  t171 := Tryz.underlying150
  a171 := Tryz.isAgg150
  z171 := Tryz.sizeOf150
  v171 := Tryz.zeroValue150
  t173 := Tryz.underlying153
  a173 := Tryz.isAgg153
  z173 := Tryz.sizeOf153
  v173 := Tryz.zeroValue153
  t175 := Tryz.underlying169
  a175 := Tryz.isAgg169
  z175 := Tryz.sizeOf169
  v175 := Tryz.zeroValue169
  t210 := Tryz.underlying187
  a210 := Tryz.isAgg187
  z210 := Tryz.sizeOf187
  v210 := Tryz.zeroValue187
  t212 := Tryz.underlying175
  a212 := Tryz.isAgg175
  z212 := Tryz.sizeOf175
  v212 := Tryz.zeroValue175
  t213 := Tryz.underlying176
  a213 := Tryz.isAgg176
  z213 := Tryz.sizeOf176
  t232 := Tryz.underlying203
  a232 := Tryz.isAgg203
  z232 := Tryz.sizeOf203
  v232 := Tryz.zeroValue203
  t233 := Tryz.underlying204
  a233 := Tryz.isAgg204
  z233 := Tryz.sizeOf204
  v233 := Tryz.zeroValue204
  g15 := by kernel_rfl
  g16 := by kernel_rfl
  g17 := by kernel_rfl
  g18 := by kernel_rfl
  g19 := by kernel_rfl
  t80 := Tryz.underlying139
  a80 := Tryz.isAgg139
  z80 := Tryz.sizeOf139
  v80 := Tryz.zeroValue139
  i0 := by kernel_rfl
  i2 := by kernel_rfl
  i3 := by kernel_rfl
  i4 := by kernel_rfl
  i5 := by kernel_rfl
  i9 := by kernel_rfl
  i20 := by kernel_rfl
  i21 := by kernel_rfl
  i37 := by kernel_rfl
  i46 := by kernel_rfl
  i51 := by kernel_rfl
  i53 := by kernel_rfl
  i75 := by kernel_rfl
  i80 := by kernel_rfl
  i85 := by kernel_rfl
  i127 := by kernel_rfl
  i143 := by kernel_rfl
  i145 := by kernel_rfl
  i167 := by kernel_rfl
  i168 := by kernel_rfl
  i171 := by kernel_rfl
  i173 := by kernel_rfl
  i175 := by kernel_rfl
  i210 := by kernel_rfl
  i212 := by kernel_rfl
  i232 := by kernel_rfl
  i233 := by kernel_rfl
  m15 := by kernel_rfl
  m16 := by kernel_rfl
  m17 := by kernel_rfl
  m18 := by kernel_rfl
  m19 := by kernel_rfl
  c0 := by kernel_rfl
  c2 := by kernel_rfl
  c3 := by kernel_rfl
  c4 := by kernel_rfl
  c5 := by kernel_rfl
  c9 := by kernel_rfl
  c20 := by kernel_rfl
  c21 := by kernel_rfl
  c37 := by kernel_rfl
  c46 := by kernel_rfl
  c51 := by kernel_rfl
  c53 := by kernel_rfl
  c75 := by kernel_rfl
  c80 := by kernel_rfl
  c85 := by kernel_rfl
  c127 := by kernel_rfl
  c143 := by kernel_rfl
  c145 := by kernel_rfl
  c167 := by kernel_rfl
  c168 := by kernel_rfl
  c171 := by kernel_rfl
  c173 := by kernel_rfl
  c175 := by kernel_rfl
  c210 := by kernel_rfl
  c212 := by kernel_rfl
  c213 := by kernel_rfl
  c232 := by kernel_rfl
  c233 := by kernel_rfl }
end Go.Proofs
end
section
set_option linter.unusedVariables false
namespace Go.Proofs.YtgipbdecogfgjaaGreatDoor
open Go Go.Fw Go.RowKit Go.Shelf
def parseI (l : List UInt8) : Int × Bool := match Lib.parseIntB 64 l with
  | .ok v => (v, false)
  | .«syntax» => (0, true)
  | .range => (Lib.intSat 64 l, true)
abbrev strconv_ParseInt.As : Shs := .cons (.x .s) (.cons (.x (.i .i64)) (.cons (.x (.i .i64)) .nil))
abbrev strconv_ParseInt.m : Back := [(false, .i .i64), (false, .e)]
abbrev strconv_ParseInt.f (a : (ByteArray × (Int × Int))) : Option (Int × Bool) := bif decide (a.2.1 = 10) && decide (a.2.2 = 64) && decide (a.1.size ≤ 281474976710656) then some (parseI a.1.data.toList) else none
noncomputable abbrev strconv_ParseInt.row : Row := fnRow 78 strconv_ParseInt.As strconv_ParseInt.m strconv_ParseInt.f
theorem parseInt_bytes_below (w : World) (t : TypeId) (s : ByteArray) : Below w.heap.size w (Lib.bytesWorld w t s) := by
  unfold Lib.bytesWorld World.freeze
  rw [if_neg (by decide)]
  refine ⟨rfl, rfl, rfl, by simp, fun k hk => ?_⟩
  show ((w.heap.push _).modify _ _)[k]? = _
  rw [Array.getElem?_modify, if_neg (by show ¬ w.heap.size = k; omega), Array.getElem?_push, if_neg (by omega)]
theorem strconv_ParseInt.row_ok : RowOK P G1 strconv_ParseInt.row := by
  have key : ∀ (ds : List D) (a : ByteArray × (Int × Int)) (q : Int × Bool), decArgs strconv_ParseInt.As ds = some a → strconv_ParseInt.f a = some q → Fw.Enters P 78 ∧ PCall P G1 78 ds (.tp [.i .i64 q.1, .er q.2]) := by
    intro ds a q ha hq
    refine ⟨ent_of Tryz.func78 (by kernel_rfl) (by kernel_rfl), ?_⟩
    have hds := (decArgs_argD ha).symm
    refine PCall.coe (ds' := argD strconv_ParseInt.As a) ?_ (by rw [← hds]; exact coeA_len) fun w I f hf => by rw [← hds]; exact coeA_rel hf
    refine pcall_below fun w I K vs hg hsz hr => ?_
    have h0 := hr 0 (.s a.1) rfl
    have h1 := hr 1 (.i .i64 a.2.1) rfl
    have h2 := hr 2 (.i .i64 a.2.2) rfl
    have hvs : vs = #[.string a.1, .int .i64 a.2.1, .int .i64 a.2.2] := by
      have hs : vs.size = 3 := hsz
      rw [Array.getD_eq_getD_getElem?, Array.getElem?_eq_getElem (by omega)] at h0 h1 h2
      simp only [Option.getD_some] at h0 h1 h2
      refine Array.ext (by simpa using hs) fun i hi hi' => ?_
      match i, hi with
      | 0, _ => cases h : vs[0] <;> rw [h] at h0 <;> cases h0; rfl
      | 1, _ => cases h : vs[1] <;> rw [h] at h1 <;> cases h1; rfl
      | 2, _ => cases h : vs[2] <;> rw [h] at h2 <;> cases h2; rfl
      | i + 3, hi => omega
    subst hvs
    unfold strconv_ParseInt.f at hq
    obtain ⟨hb, hq⟩ := cond_some hq
    simp only [Bool.and_eq_true, decide_eq_true_eq] at hb
    obtain ⟨⟨h3, h4⟩, h5⟩ := hb
    rw [h3, h4]
    injection hq with hq
    subst hq
    unfold parseI
    have tup : ∀ (w' : World) (n : Int) (b : Bool) (v : Value), RelD w' I (.er b) v → RelX w' I K (.tp [.i .i64 n, .er b]) (.tuple #[.int .i64 n, v]) := fun w' n b v hv => ⟨_, rfl, RelD.i .i64 n, ⟨hv, trivial, fun b h => by cases b <;> cases h⟩, fun b h => by cases h⟩
    cases hp : Lib.parseIntB 64 a.1.data.toList with
    | ok u =>
      refine (Any.strconv_ParseInt_10_at64_ok Tryz.laysC174 a.1 (by omega) u hp w).mono ?_
      rintro e w' ⟨rfl, hw⟩
      refine ⟨_, rfl, ?_, tup w' u false _ .er0⟩
      rcases hw with rfl | ⟨t, rfl⟩
      · exact .refl _ _
      · exact parseInt_bytes_below _ _ _
    | «syntax» =>
      obtain ⟨tp, p, hv⟩ := err_of_glob (P := P) hg (g := 1) (name := "strconv.ErrSyntax") (by kernel_rfl) rfl
      refine (Any.strconv_ParseInt_10_at64_syntax_var Tryz.laysC174 a.1 h5 hp tp p w hv).mono ?_
      rintro e w' ⟨N, rfl, _, _, hb⟩
      exact ⟨_, rfl, hb, tup w' 0 true _ (.er1 _ _)⟩
    | range =>
      obtain ⟨tp, p, hv⟩ := err_of_glob (P := P) hg (g := 2) (name := "strconv.ErrRange") (by kernel_rfl) rfl
      refine (Any.strconv_ParseInt_10_at64_range_var Tryz.laysC174 a.1 h5 hp tp p w hv).mono ?_
      rintro e w' ⟨N, rfl, _, _, hb⟩
      exact ⟨_, rfl, hb, tup w' _ true _ (.er1 _ _)⟩
  exact fun ds a q => key ds a q
end Go.Proofs.YtgipbdecogfgjaaGreatDoor
end
section
set_option linter.unusedVariables false
set_option linter.unusedSimpArgs false
set_option maxHeartbeats 4000000
set_option maxRecDepth 10000
namespace Go.Proofs.YtgipbdecogfgjaaGreatDoor
open Go Go.Fw
abbrev Tr := ByteArray × (ByteArray × (ByteArray × (Int × (ByteArray × (ByteArray × (ByteArray × (ByteArray × (ByteArray × (Int × (Int × ByteArray))))))))))
end Go.Proofs.YtgipbdecogfgjaaGreatDoor
end
section
set_option linter.unusedVariables false
set_option maxRecDepth 100000
namespace Go.Proofs.YtgipbdecogfgjaaGreatDoor
open Go Go.Fw
abbrev bursarlaw20_awake.row : Row := closedRow 9 (.b true)
theorem bursarlaw20_awake.row_ok : RowOK P G1 bursarlaw20_awake.row := closed_ok e0_ok j0_ok (T := [strconv_Itoa.row, strconv_FormatUint.row, strings_Repeat.row, strconv_ParseInt.row, spec_table.row, spec_kinds.row]) ⟨(strconv_Itoa.row_ok.more g01), ⟨(strconv_FormatUint.row_ok.more g01), ⟨(strings_Repeat.row_ok.more g01), ⟨strconv_ParseInt.row_ok, ⟨spec_table.row_ok, ⟨(spec_kinds.row_ok.more g01), trivial⟩⟩⟩⟩⟩⟩ 300 (by kernel_rfl)
end Go.Proofs.YtgipbdecogfgjaaGreatDoor
end
section
set_option linter.unusedVariables false
set_option linter.unusedSimpArgs false
set_option maxHeartbeats 1000000
set_option maxRecDepth 10000
namespace Go.Proofs.YtgipbdecogfgjaaGreatDoor
open Go Go.Fw
def keyT (t : Tr) : Prop := 2 ≤ t.1.size ∧ t.2.2.2.2.2.1.size ≤ 1001 ∧ t.2.2.2.2.2.2.2.1.size ≤ 1001 ∧ t.2.2.2.2.2.2.1.size ≤ 1001 ∧ t.2.2.2.2.1.size ≤ 1001
end Go.Proofs.YtgipbdecogfgjaaGreatDoor
end
section
set_option linter.unusedVariables false
set_option linter.unusedSimpArgs false
set_option maxHeartbeats 1000000
set_option maxRecDepth 10000
namespace Go.Proofs.YtgipbdecogfgjaaGreatDoor
open Go Go.Fw
theorem few20_is (p : Po) : ∃ q, bursarlaw20_few.f p = some q ∧ smallP q := by
  obtain ⟨k, b, x, y, z, n⟩ := p
  unfold bursarlaw20_few.f
  have cx := cut_small (s := x) (n := 20)
  have cy := cut_small (s := y) (n := 20)
  have cz := cut_small (s := z) (n := 20)
  by_cases hx : (x.size : Int) > 20
  · have ex : decide ((20 : Int) ≤ (x.size : Int)) = true := decide_eq_true (by omega)
    by_cases hy : (y.size : Int) > 20
    · have ey : decide ((20 : Int) ≤ (y.size : Int)) = true := decide_eq_true (by omega)
      by_cases hz : (z.size : Int) > 20
      · have ez : decide ((20 : Int) ≤ (z.size : Int)) = true := decide_eq_true (by omega)
        simp only [decide_eq_true hx, decide_eq_true hy, decide_eq_true hz, ex, ey, ez, Bool.and_self, cond_true]
        exact ⟨_, rfl, cx, cy, cz⟩
      · simp only [decide_eq_true hx, decide_eq_true hy, decide_eq_false hz, ex, ey, Bool.and_self, cond_true, cond_false]
        exact ⟨_, rfl, cx, cy, by show z.size ≤ 20; omega⟩
    · by_cases hz : (z.size : Int) > 20
      · have ez : decide ((20 : Int) ≤ (z.size : Int)) = true := decide_eq_true (by omega)
        simp only [decide_eq_true hx, decide_eq_false hy, decide_eq_true hz, ex, ez, Bool.and_self, cond_true, cond_false]
        exact ⟨_, rfl, cx, by show y.size ≤ 20; omega, cz⟩
      · simp only [decide_eq_true hx, decide_eq_false hy, decide_eq_false hz, ex, Bool.and_self, cond_true, cond_false]
        exact ⟨_, rfl, cx, by show y.size ≤ 20; omega, by show z.size ≤ 20; omega⟩
  · by_cases hy : (y.size : Int) > 20
    · have ey : decide ((20 : Int) ≤ (y.size : Int)) = true := decide_eq_true (by omega)
      by_cases hz : (z.size : Int) > 20
      · have ez : decide ((20 : Int) ≤ (z.size : Int)) = true := decide_eq_true (by omega)
        simp only [decide_eq_false hx, decide_eq_true hy, decide_eq_true hz, ey, ez, Bool.and_self, cond_true, cond_false]
        exact ⟨_, rfl, by show x.size ≤ 20; omega, cy, cz⟩
      · simp only [decide_eq_false hx, decide_eq_true hy, decide_eq_false hz, ey, Bool.and_self, cond_true, cond_false]
        exact ⟨_, rfl, by show x.size ≤ 20; omega, cy, by show z.size ≤ 20; omega⟩
    · by_cases hz : (z.size : Int) > 20
      · have ez : decide ((20 : Int) ≤ (z.size : Int)) = true := decide_eq_true (by omega)
        simp only [decide_eq_false hx, decide_eq_false hy, decide_eq_true hz, ez, Bool.and_self, cond_true, cond_false]
        exact ⟨_, rfl, by show x.size ≤ 20; omega, by show y.size ≤ 20; omega, cz⟩
      · simp only [decide_eq_false hx, decide_eq_false hy, decide_eq_false hz, cond_false]
        exact ⟨_, rfl, by show x.size ≤ 20; omega, by show y.size ≤ 20; omega, by show z.size ≤ 20; omega⟩
theorem entP_good {p : Po} (hs : smallP p) (h : mayP p = true) : goodL (entP p).2.2 := by
  have hn := (mayP_num h).2
  have a1 : Am p.2.2.2.2.2 := by unfold Am; omega
  have a2 : Am (0 - p.2.2.2.2.2) := by unfold Am; omega
  have s0 : (bs []).size ≤ 20 := by decide
  obtain ⟨s1, s2, s3⟩ := hs
  unfold entP sidesP
  rcases mayP_kind h with hk | hk | hk | hk | hk | hk <;> rw [hk]
  · exact goodL_two (k1 := 3) (k2 := 1) (by decide) (by decide) s0 s1 a2 a1
  · exact goodL_two (k1 := 1) (k2 := 2) (by decide) (by decide) s1 s2 a2 a1
  · exact goodL_two (k1 := 2) (k2 := 1) (by decide) (by decide) s2 s1 a2 a1
  · exact goodL_two (k1 := 1) (k2 := 2) (by decide) (by decide) s1 s2 a2 a1
  · exact goodL_two (k1 := 2) (k2 := 3) (by decide) (by decide) s2 s0 a2 a1
  · exact goodL_two (k1 := 3) (k2 := 2) (by decide) (by decide) s0 s2 a2 a1
end Go.Proofs.YtgipbdecogfgjaaGreatDoor
end
section
set_option linter.unusedVariables false
set_option maxRecDepth 100000
namespace Go.Proofs.YtgipbdecogfgjaaGreatDoor
open Go Go.Fw
abbrev bursarlaw20_TradeSums.As : Shs := (.cons (.x (.l (.g (.p (.i .i64) (.p (.i .i64) (.p .s (.p .s (.p .s (.i .i64))))))))) (.cons (.x .s) .nil))
abbrev bursarlaw20_TradeSums.m : Back := [(false, .b)]
noncomputable abbrev bursarlaw20_TradeSums.H : HK := hk P G1 E0 J0 [bursarlaw20_few.row, trade_Entry.row, trade_May.row, book_Post.row, book_Get.row, bursarlaw20_awake.row] noLoops 4
theorem bursarlaw20_TradeSums.rows : TabOK P G1 (tabF [bursarlaw20_few.row, trade_Entry.row, trade_May.row, book_Post.row, book_Get.row, bursarlaw20_awake.row]) := rows_ok (ws := [bursarlaw20_few.row, trade_Entry.row, trade_May.row, book_Post.row, book_Get.row, bursarlaw20_awake.row]) ⟨(bursarlaw20_few.row_ok.more g01), ⟨(trade_Entry.row_ok.more g01), ⟨(trade_May.row_ok.more g01), ⟨(book_Post.row_ok.more g01), ⟨(book_Get.row_ok.more g01), ⟨bursarlaw20_awake.row_ok, trivial⟩⟩⟩⟩⟩⟩
theorem bursarlaw20_TradeSums.hok : HKOK P bursarlaw20_TradeSums.H := hk_ok e0_ok j0_ok bursarlaw20_TradeSums.rows (fun g n => noLoops_ok g n) 4
noncomputable abbrev bursarlaw20_TradeSums.sh8 : SSh := ⟨[(0, (.x (.l (.g (.p (.i .i64) (.p (.i .i64) (.p .s (.p .s (.p .s (.i .i64)))))))))), (1, (.x .s)), (5, (.x (.l (.g (.p (.g (.p (.i .i64) .s)) (.i .i64)))))), (6, (.x (.i .i64))), (7, (.x (.i .i64)))], []⟩
noncomputable abbrev bursarlaw20_TradeSums.os8 : PEnds := [(.ret, ⟨[(4, (.x .b))], []⟩), ((.exit 0), ⟨[(1, (.x .s)), (5, (.x (.l (.g (.p (.g (.p (.i .i64) .s)) (.i .i64)))))), (6, (.x (.i .i64)))], []⟩)]
noncomputable def bursarlaw20_TradeSums.t8 (s : ((List (Int × (Int × (ByteArray × (ByteArray × (ByteArray × Int)))))) × (ByteArray × ((List ((Int × ByteArray) × Int)) × (Int × Int))))) : Option (((List (Int × (Int × (ByteArray × (ByteArray × (ByteArray × Int)))))) × (ByteArray × ((List ((Int × ByteArray) × Int)) × (Int × Int)))) ⊕ (Bool ⊕ (ByteArray × ((List ((Int × ByteArray) × Int)) × Int)))) := (bif (decide ((s.2.2.2.2 < ((List.length s.1) : Int)))) then (bif (decide ((s.2.2.2.2 < (20 : Int)))) then (bif ((decide (((0 : Int) ≤ s.2.2.2.2))) && (decide ((s.2.2.2.2 < ((List.length s.1) : Int))))) then (((bursarlaw20_few.f (List.getD s.1 (Int.toNat s.2.2.2.2) (Ty.dflt T_api_Post)))).bind fun x5 => (((trade_Entry.f x5)).bind fun x6 => (bif (x6.2 != (0 : Int)) then (((trade_May.f x5)).bind fun x7 => (bif x7 then (some (.inr (.inl false))) else (some (.inl (s.1, (s.2.1, (s.2.2.1, (s.2.2.2.1, (IntKind.wrap .i64 (s.2.2.2.2 + (1 : Int))))))))))) else (((book_Post.f (s.2.2.1, x6.1))).bind fun x7 => (bif (x7.2 != (0 : Int)) then (some (.inr (.inl false))) else (bif (!((ByteArray.toList x5.2.2.1) == (ByteArray.toList s.2.1))) then (some (.inl (s.1, (s.2.1, (x7.1, (s.2.2.2.1, (IntKind.wrap .i64 (s.2.2.2.2 + (1 : Int))))))))) else (bif (x5.1 == (1 : Int)) then (bif (x5.1 == (1 : Int)) then (some (.inl (s.1, (s.2.1, (x7.1, ((IntKind.wrap .i64 (s.2.2.2.1 + x5.2.2.2.2.2)), (IntKind.wrap .i64 (s.2.2.2.2 + (1 : Int))))))))) else (bif (x5.1 == (2 : Int)) then (bif (x5.1 == (2 : Int)) then (some (.inl (s.1, (s.2.1, (x7.1, ((IntKind.wrap .i64 (s.2.2.2.1 - x5.2.2.2.2.2)), (IntKind.wrap .i64 (s.2.2.2.2 + (1 : Int))))))))) else (some (.inl (s.1, (s.2.1, (x7.1, (s.2.2.2.1, (IntKind.wrap .i64 (s.2.2.2.2 + (1 : Int)))))))))) else (bif (x5.1 == (4 : Int)) then (some (.inl (s.1, (s.2.1, (x7.1, ((IntKind.wrap .i64 (s.2.2.2.1 - x5.2.2.2.2.2)), (IntKind.wrap .i64 (s.2.2.2.2 + (1 : Int))))))))) else (some (.inl (s.1, (s.2.1, (x7.1, (s.2.2.2.1, (IntKind.wrap .i64 (s.2.2.2.2 + (1 : Int)))))))))))) else (bif (x5.1 == (3 : Int)) then (some (.inl (s.1, (s.2.1, (x7.1, ((IntKind.wrap .i64 (s.2.2.2.1 + x5.2.2.2.2.2)), (IntKind.wrap .i64 (s.2.2.2.2 + (1 : Int))))))))) else (bif (x5.1 == (2 : Int)) then (bif (x5.1 == (2 : Int)) then (some (.inl (s.1, (s.2.1, (x7.1, ((IntKind.wrap .i64 (s.2.2.2.1 - x5.2.2.2.2.2)), (IntKind.wrap .i64 (s.2.2.2.2 + (1 : Int))))))))) else (some (.inl (s.1, (s.2.1, (x7.1, (s.2.2.2.1, (IntKind.wrap .i64 (s.2.2.2.2 + (1 : Int)))))))))) else (bif (x5.1 == (4 : Int)) then (some (.inl (s.1, (s.2.1, (x7.1, ((IntKind.wrap .i64 (s.2.2.2.1 - x5.2.2.2.2.2)), (IntKind.wrap .i64 (s.2.2.2.2 + (1 : Int))))))))) else (some (.inl (s.1, (s.2.1, (x7.1, (s.2.2.2.1, (IntKind.wrap .i64 (s.2.2.2.2 + (1 : Int))))))))))))))))))) else none) else (some (.inr (.inr (s.2.1, (s.2.2.1, s.2.2.2.1)))))) else (some (.inr (.inr (s.2.1, (s.2.2.1, s.2.2.2.1))))))
theorem bursarlaw20_TradeSums.t8_ok : ∀ s : Vals bursarlaw20_TradeSums.sh8.tys, turnK P bursarlaw20_TradeSums.H (lp []) (bodyAt (codeOf P 3) 8) 0 bursarlaw20_TradeSums.sh8 bursarlaw20_TradeSums.os8 s some = bursarlaw20_TradeSums.t8 s := fun s => by kernel_rfl
noncomputable def bursarlaw20_TradeSums.l8 : ((List (Int × (Int × (ByteArray × (ByteArray × (ByteArray × Int)))))) × (ByteArray × ((List ((Int × ByteArray) × Int)) × (Int × Int)))) → Option (Bool ⊕ (ByteArray × ((List ((Int × ByteArray) × Int)) × Int))) := rounds bursarlaw20_TradeSums.t8
noncomputable def bursarlaw20_TradeSums.f (a : ((List (Int × (Int × (ByteArray × (ByteArray × (ByteArray × Int)))))) × ByteArray)) : Option Bool := (bif (decide (((a.2.size : Int) > (20 : Int)))) then (bif (true && (decide (((20 : Int) ≤ (a.2.size : Int))))) then (((bursarlaw20_TradeSums.l8 (a.1, ((ByteArray.extract a.2 0 20), ([], ((0 : Int), (0 : Int))))))).bind fun x2 => (match x2 with | .inl x3 => (some x3) | .inr x3 => (((book_Get.f (x3.2.1, ((1 : Int), x3.1)))).bind fun x4 => (bif (x4 == x3.2.2) then (some true) else (some false))))) else none) else (((bursarlaw20_TradeSums.l8 (a.1, (a.2, ([], ((0 : Int), (0 : Int))))))).bind fun x2 => (match x2 with | .inl x3 => (some x3) | .inr x3 => (((book_Get.f (x3.2.1, ((1 : Int), x3.1)))).bind fun x4 => (bif (x4 == x3.2.2) then (some true) else (some false))))))
theorem bursarlaw20_TradeSums.ok : ∀ a : Vals bursarlaw20_TradeSums.As.tys, fnK P bursarlaw20_TradeSums.H (lp [(8, (NodeT.summ ⟨bursarlaw20_TradeSums.sh8, bursarlaw20_TradeSums.os8, bursarlaw20_TradeSums.l8⟩ 0))]) 3 bursarlaw20_TradeSums.As bursarlaw20_TradeSums.m a some = bursarlaw20_TradeSums.f a := fun a => by kernel_rfl
noncomputable abbrev bursarlaw20_TradeSums.row : Row := fnRow 3 bursarlaw20_TradeSums.As bursarlaw20_TradeSums.m bursarlaw20_TradeSums.f
theorem bursarlaw20_TradeSums.row_ok : RowOK P G1 bursarlaw20_TradeSums.row := row_told bursarlaw20_TradeSums.hok (lp_of (l := [(8, (NodeT.summ ⟨bursarlaw20_TradeSums.sh8, bursarlaw20_TradeSums.os8, bursarlaw20_TradeSums.l8⟩ 0))]) ⟨(loop_sum bursarlaw20_TradeSums.hok (by kernel_rfl) (by kernel_rfl) (l := []) trivial bursarlaw20_TradeSums.sh8 bursarlaw20_TradeSums.os8 (by kernel_rfl) bursarlaw20_TradeSums.t8 bursarlaw20_TradeSums.t8_ok), trivial⟩) (fun _ => rfl) bursarlaw20_TradeSums.ok
end Go.Proofs.YtgipbdecogfgjaaGreatDoor
end
section
set_option linter.unusedVariables false
set_option linter.unusedSimpArgs false
set_option maxHeartbeats 1000000
set_option maxRecDepth 10000
namespace Go.Proofs.YtgipbdecogfgjaaGreatDoor
open Go Go.Fw
def hasP (p : Po) (s : ByteArray) : Int := bif decide (p.2.2.1 = s) then (bif p.1 == 1 || p.1 == 3 then p.2.2.2.2.2 else bif p.1 == 2 || p.1 == 4 then 0 - p.2.2.2.2.2 else 0) else 0
theorem bal_two (f t c : Acc) (x y : Int) : bal [(f, x), (t, y)] c = (if f = c then x else 0) + (if t = c then y else 0) := by
  rw [bal_cons, bal_cons, show bal [] c = 0 from rfl, Int.add_zero]
theorem acc_eq (i j : Int) (s t : ByteArray) : (((i, s) : Acc) = (j, t)) = (i = j ∧ s = t) := Prod.mk.injEq _ _ _ _
theorem bal_entP {p : Po} (h : mayP p = true) (s : ByteArray) : bal (entP p).2.2 (1, s) = hasP p s := by
  have hk := mayP_kind h
  obtain ⟨k, b, x, y, z, n⟩ := p
  have hk : k = 1 ∨ k = 2 ∨ k = 3 ∨ k = 4 ∨ k = 5 ∨ k = 6 := hk
  unfold entP sidesP hasP
  rcases hk with rfl | rfl | rfl | rfl | rfl | rfl <;> (simp only [bal_two, acc_eq]; by_cases hx : x = s <;> simp [hx])
theorem entP_am {p : Po} (h : mayP p = true) : goodAm (entP p).2.2 9999999999999 ∧ tot (entP p).2.2 = 0 ∧ (entP p).2.2.length = 2 := by
  have hn := (mayP_num h).2
  obtain ⟨a1, a2, a3⟩ := mayP_parts h
  have hk := mayP_kind h
  obtain ⟨k, b, x, y, z, n⟩ := p
  have hk : k = 1 ∨ k = 2 ∨ k = 3 ∨ k = 4 ∨ k = 5 ∨ k = 6 := hk
  have hn : 1 ≤ n ∧ n ≤ 9999999999999 := hn
  have m3 : maySB (3, bs []) = true := by decide +kernel
  have m1 : ∀ s, cardB s = true → maySB (1, s) = true := fun s h => h
  have m2 : ∀ s, acqB s = true → maySB (2, s) = true := fun s h => h
  have key : ∀ f t : Acc, maySB f = true → maySB t = true → goodAm [(f, 0 - n), (t, n)] 9999999999999 := fun f t hf ht w hw => by
    rcases List.mem_cons.1 hw with rfl | hw
    · exact ⟨hf, by show 0 - n ≠ 0; omega, by show _ ≤ 0 - n ∧ 0 - n ≤ _; omega⟩
    · rw [List.mem_singleton] at hw
      subst hw
      exact ⟨ht, by show n ≠ 0; omega, by show _ ≤ n ∧ n ≤ _; omega⟩
  refine ⟨?_, ?_, rfl⟩
  · unfold entP sidesP
    rcases hk with rfl | rfl | rfl | rfl | rfl | rfl
    · obtain ⟨h1, h2, h3⟩ := a1 rfl
      exact key _ _ m3 (m1 _ h1)
    · obtain ⟨h1, h2, h3⟩ := a3 (by show (2 : Int) ≤ 2 ∧ (2 : Int) ≤ 4; omega)
      exact key _ _ (m1 _ h1) (m2 _ h2)
    · obtain ⟨h1, h2, h3⟩ := a3 (by show (2 : Int) ≤ 3 ∧ (3 : Int) ≤ 4; omega)
      exact key _ _ (m2 _ h2) (m1 _ h1)
    · obtain ⟨h1, h2, h3⟩ := a3 (by show (2 : Int) ≤ 4 ∧ (4 : Int) ≤ 4; omega)
      exact key _ _ (m1 _ h1) (m2 _ h2)
    · obtain ⟨h1, h2, h3⟩ := a2 (.inl rfl)
      exact key _ _ (m2 _ h2) m3
    · obtain ⟨h1, h2, h3⟩ := a2 (.inr rfl)
      exact key _ _ m3 (m2 _ h2)
  · show (0 - n) + (n + 0) = 0
    omega
theorem texts_two (x y : ByteArray) : (ByteArray.toList x == ByteArray.toList y) = decide (x = y) := by
  rw [ByteArray.toList_eq y, texts_list, ← eq_bs]
theorem dflt_post : (Ty.dflt T_api_Post : Int × Int × ByteArray × ByteArray × ByteArray × Int) = (0, 0, bs [], bs [], bs [], 0) := rfl
theorem turn_sums {L : List Po} {s : ByteArray} {b : List Lin} {has : Int} {i : Nat} (hi : i < L.length) (hi2 : i < 20) (hb : Bk b (i * 80000000000000)) (ht : tot b = 0) (hl : b.length ≤ 2 * i) (hh : bal b (1, s) = has) (hn : -(i * 10000000000000 : Int) ≤ has ∧ has ≤ i * 10000000000000) :
    ∃ b' has', bursarlaw20_TradeSums.t8 (L, s, b, has, (i : Int)) = some (.inl (L, s, b', has', ((i + 1 : Nat) : Int))) ∧ Bk b' ((i + 1 : Nat) * 80000000000000) ∧ tot b' = 0 ∧ b'.length ≤ 2 * (i + 1) ∧ bal b' (1, s) = has' ∧ (-((i + 1 : Nat) * 10000000000000 : Int) ≤ has' ∧ has' ≤ (i + 1 : Nat) * 10000000000000) := by
  obtain ⟨q, hq, hs⟩ := few20_is (L.getD i (0, 0, bs [], bs [], bs [], 0))
  have hw := wrap_up (n := i) (by omega)
  have e20 : decide ((i : Int) < 20) = true := decide_eq_true (by omega)
  unfold bursarlaw20_TradeSums.t8
  simp only [inb hi, e20, cond_true, ge0', Bool.and_self, Int.toNat_natCast, dflt_post, hq, Option.bind_some, tradeEntry_is hs, tradeMay_is (p := q) (by have := hs.2.2; omega), hw, texts_two]
  cases hm : mayP q
  · simp only [cond_false, show ((1 : Int) != 0) = true from rfl, cond_true]
    exact ⟨b, has, rfl, hb.more (by omega), ht, by omega, hh, by omega, by omega⟩
  · obtain ⟨g1, g2, g3⟩ := entP_am hm
    obtain ⟨b', h1, h2, h3, h4, h5⟩ := bookPost_is hb (n := 9999999999999) ⟨by omega, by omega⟩ ht (by omega) (entP_good hs hm) (check_entP hm) g1 (by omega) (by omega) g2 (by omega)
    have hbal := h3 (1, s)
    rw [bal_entP hm s, hh] at hbal
    have hnum := (mayP_num hm).2
    have hk := mayP_kind hm
    rw [show decide (b'.length ≤ 200) = true from decide_eq_true (by omega), cond_true] at h1
    simp only [cond_true, bne_self_eq_false, cond_false, h1, Option.bind_some]
    have hbk : Bk b' ((i + 1 : Nat) * 80000000000000) := h2.more (by omega)
    have hlen : b'.length ≤ 2 * (i + 1) := by omega
    obtain ⟨k, bt, x, y, z, n⟩ := q
    have hk : k = 1 ∨ k = 2 ∨ k = 3 ∨ k = 4 ∨ k = 5 ∨ k = 6 := hk
    have hnum : 1 ≤ n ∧ n ≤ 9999999999999 := hnum
    have hwp : IntKind.wrap .i64 (has + n) = has + n := wrap_i64 (by omega) (by omega)
    have hwm : IntKind.wrap .i64 (has - n) = has - n := wrap_i64 (by omega) (by omega)
    unfold hasP at hbal
    by_cases hx : x = s
    · rw [show decide ((k, bt, x, y, z, n).2.2.1 = s) = true from decide_eq_true hx, cond_true] at hbal
      simp only [decide_eq_true hx, Bool.not_true, cond_false, hwp, hwm]
      rcases hk with rfl | rfl | rfl | rfl | rfl | rfl
      · exact ⟨b', has + n, rfl, hbk, h4, hlen, hbal, by omega, by omega⟩
      · refine ⟨b', has - n, rfl, hbk, h4, hlen, ?_, by omega, by omega⟩
        have hbal : bal b' (1, s) = has + (0 - n) := hbal
        omega
      · exact ⟨b', has + n, rfl, hbk, h4, hlen, hbal, by omega, by omega⟩
      · refine ⟨b', has - n, rfl, hbk, h4, hlen, ?_, by omega, by omega⟩
        have hbal : bal b' (1, s) = has + (0 - n) := hbal
        omega
      · refine ⟨b', has, rfl, hbk, h4, hlen, ?_, by omega, by omega⟩
        have hbal : bal b' (1, s) = has + 0 := hbal
        omega
      · refine ⟨b', has, rfl, hbk, h4, hlen, ?_, by omega, by omega⟩
        have hbal : bal b' (1, s) = has + 0 := hbal
        omega
    · rw [show decide ((k, bt, x, y, z, n).2.2.1 = s) = false from decide_eq_false hx, cond_false] at hbal
      simp only [decide_eq_false hx, Bool.not_false, cond_true]
      exact ⟨b', has, rfl, hbk, h4, hlen, by omega, by omega, by omega⟩
theorem sums_rounds {L : List Po} {s : ByteArray} : ∀ d i, min 20 L.length = i + d → ∀ (b : List Lin) (has : Int), Bk b (i * 80000000000000) → tot b = 0 → b.length ≤ 2 * i → bal b (1, s) = has → (-(i * 10000000000000 : Int) ≤ has ∧ has ≤ i * 10000000000000) →
    ∃ b' has', rounds bursarlaw20_TradeSums.t8 (L, s, b, has, (i : Int)) = some (.inr (s, b', has')) ∧ Bk b' 9000000000000000 ∧ tot b' = 0 ∧ b'.length ≤ 200 ∧ bal b' (1, s) = has' := by
  intro d
  induction d with
  | zero =>
    intro i hi b has hb ht hl hh hn
    refine ⟨b, has, rounds_end ?_, hb.more (by omega), ht, by omega, hh⟩
    unfold bursarlaw20_TradeSums.t8
    by_cases hL : i < L.length
    · simp only [inb hL, cond_true, decide_eq_false (show ¬ (i : Int) < 20 by omega), cond_false]
    · simp only [decide_eq_false (show ¬ (i : Int) < (L.length : Int) by omega), cond_false]
  | succ d ih =>
    intro i hi b has hb ht hl hh hn
    obtain ⟨b1, has1, h1, h2, h3, h4, h5, h6⟩ := turn_sums (L := L) (s := s) (i := i) (by omega) (by omega) hb ht hl hh hn
    rw [rounds_next h1]
    exact ih (i + 1) (by omega) b1 has1 h2 h3 h4 h5 h6
theorem TradeSums_is (a : List Po × ByteArray) : bursarlaw20_TradeSums.f a = some true := by
  obtain ⟨L, s⟩ := a
  have key : ∀ s : ByteArray, ((bursarlaw20_TradeSums.l8 (L, s, [], 0, 0)).bind fun x2 => match x2 with
      | .inl x3 => some x3
      | .inr x3 => (book_Get.f (x3.2.1, 1, x3.1)).bind fun x4 => bif x4 == x3.2.2 then some true else some false) = some true := fun s => by
    obtain ⟨b, has, h1, h2, h3, h4, h5⟩ := sums_rounds (L := L) (s := s) (min 20 L.length) 0 (by omega) [] 0 ⟨List.Pairwise.nil, fun y hy => (by cases hy), fun y hy => (by cases hy), fun y hy => (by cases hy)⟩ rfl (by simp) rfl ⟨by omega, by omega⟩
    have h1 : bursarlaw20_TradeSums.l8 (L, s, [], 0, 0) = some (.inr (s, b, has)) := h1
    rw [h1]
    simp only [Option.bind_some, bookGet_is h2 (by omega) h3 h4 (1, s), h5, BEq.rfl, cond_true]
  unfold bursarlaw20_TradeSums.f
  by_cases hs : (s.size : Int) > 20
  · simp only [decide_eq_true hs, cond_true, decide_eq_true (show (20 : Int) ≤ (s.size : Int) by omega), Bool.and_self]
    exact key _
  · simp only [decide_eq_false hs, cond_false]
    exact key _
end Go.Proofs.YtgipbdecogfgjaaGreatDoor
end
section
set_option linter.unusedVariables false
set_option linter.unusedSimpArgs false
namespace Go.Proofs.YtgipbdecogfgjaaGreatDoor.tradeSums
open Go Go.Fw Go.ChangeShapes Go.WideShapes Go.ChangeAt Go.RowKit
theorem own : ownKnob Tryz.prog.godebug = none := by kernel_rfl
theorem laidOut : laidOutB Tryz.prog = true := by kernel_rfl
set_option maxRecDepth 100000 in
theorem told {W : World} (h : laidMetH Tryz.prog Rows.tradeSumsRow.laid W) : Glob ⟨W, fun b => b < W.heap.size, fun _ => False, fun _ => 0, fun _ => 0, G1⟩ := by
  rw [MakeChecks.laidMetH_plain _ _ _ (by kernel_rfl)] at h
  have f0 := globAt_tab (P := Tryz.prog) (g := 0) (k := .u64) (zs := [1, 10, 100, 1000, 10000, 100000, 1000000, 10000000, 100000000, 1000000000, 10000000000, 100000000000, 1000000000000, 10000000000000, 100000000000000, 1000000000000000, 10000000000000000, 100000000000000000, 1000000000000000000, 10000000000000000000]) (by kernel_rfl) (Lib.tabIs_of_head (g := 0) (by kernel_rfl) (by kernel_rfl) Tryz.underlying175 Tryz.underlying92 (by kernel_rfl) (by kernel_rfl) (laidMet.tail (laidMet.tail h)))
  have f2 := globAt_err (P := Tryz.prog) (g := 2) (by kernel_rfl) (laid_err (g := 2) (laidMet.tail (laidMet.tail (laidMet.tail (laidMet.tail h)))) (by kernel_rfl) (by kernel_rfl) Tryz.underlying127)
  have f1 := globAt_err (P := Tryz.prog) (g := 1) (by kernel_rfl) (laid_err (g := 1) (laidMet.tail (laidMet.tail (laidMet.tail (laidMet.tail (laidMet.tail h))))) (by kernel_rfl) (by kernel_rfl) Tryz.underlying127)
  have f6 := globAt_tab (P := Tryz.prog) (g := 6) (k := .u8) (zs := [0, 0, 0, 0, 0, 0, 0, 0, 0, 1, 1, 1, 1, 1, 0, 0, 0, 0, 0, 0, 0, 0, 0, 0, 0, 0, 0, 0, 0, 0, 0, 0, 1, 0, 0, 0, 0, 0, 0, 0, 0, 0, 0, 0, 0, 0, 0, 0, 0, 0, 0, 0, 0, 0, 0, 0, 0, 0, 0, 0, 0, 0, 0, 0, 0, 0, 0, 0, 0, 0, 0, 0, 0, 0, 0, 0, 0, 0, 0, 0, 0, 0, 0, 0, 0, 0, 0, 0, 0, 0, 0, 0, 0, 0, 0, 0, 0, 0, 0, 0, 0, 0, 0, 0, 0, 0, 0, 0, 0, 0, 0, 0, 0, 0, 0, 0, 0, 0, 0, 0, 0, 0, 0, 0, 0, 0, 0, 0, 0, 0, 0, 0, 0, 0, 0, 0, 0, 0, 0, 0, 0, 0, 0, 0, 0, 0, 0, 0, 0, 0, 0, 0, 0, 0, 0, 0, 0, 0, 0, 0, 0, 0, 0, 0, 0, 0, 0, 0, 0, 0, 0, 0, 0, 0, 0, 0, 0, 0, 0, 0, 0, 0, 0, 0, 0, 0, 0, 0, 0, 0, 0, 0, 0, 0, 0, 0, 0, 0, 0, 0, 0, 0, 0, 0, 0, 0, 0, 0, 0, 0, 0, 0, 0, 0, 0, 0, 0, 0, 0, 0, 0, 0, 0, 0, 0, 0, 0, 0, 0, 0, 0, 0, 0, 0, 0, 0, 0, 0, 0, 0, 0, 0, 0, 0, 0, 0, 0, 0, 0, 0, 0, 0, 0, 0, 0, 0]) (by kernel_rfl) (Lib.tabIs_of_head (g := 6) (by kernel_rfl) (by kernel_rfl) Tryz.underlying205 Tryz.underlying5 (by kernel_rfl) (by kernel_rfl) (laidMet.tail (laidMet.tail (laidMet.tail (laidMet.tail (laidMet.tail (laidMet.tail (laidMet.tail h))))))))
  exact (glob_cons f0 (glob_cons f6 (glob_cons f1 (glob_cons f2 glob_none'))))
set_option maxRecDepth 100000 in
theorem lifted (os : Os) (started : os.Started) (H : Type) (enc : TypeId × Value → H) :
    ReturnsInHanded {} Tryz.checked os 3 .any (fun w args => (Rows.tradeSumsSpec.pre enc Tryz.prog Tryz.f3 [] false w args ∧ laidMetH Tryz.prog Rows.tradeSumsRow.laid w) ∧ sizedMet enc Tryz.prog Tryz.f3 (OpenSpec.ofChange Rows.tradeSumsSpec) false w args)
      (Rows.tradeSumsSpec.post enc Tryz.prog Tryz.f3 false true false false) := by
  refine returnsInHanded_of_change_and (C := Tryz.checked) (X := fun w _ => laidMetH Tryz.prog Rows.tradeSumsRow.laid w) (fun _ _ _ hh h => h.of_heap hh) own started (by kernel_rfl) Tryz.func3
    (ChangeSpec.witness_shaped (enc := enc) (C := Tryz.checked) (os := os) (X := fun w _ => laidMetH Tryz.prog Rows.tradeSumsRow.laid w) false (World.laidAll Tryz.prog os Rows.tradeSumsRow.laid) #[.slice none 0 0, .string ByteArray.empty] 8 (World.laidAll_os _ _ _) (World.shaped_of_ZipB (by kernel_rfl) (by kernel_rfl)) (by kernel_rfl) (by kernel_rfl) (by kernel_rfl) (by rw [MakeChecks.laidMetH_plain _ _ _ (by kernel_rfl)]; exact laidMet_laidAll _ (by kernel_rfl) (by kernel_rfl))) ?_
  intro W base args ds gs before hval hW _ _ hL _
  exact law_call (P := Tryz.prog) (g := 3) (tb := Tryz.f3.resultTypes.getD 0 0) laidOut bursarlaw20_TradeSums.row_ok (told hL) (by kernel_rfl) (fun a => by kernel_rfl) (by kernel_rfl) (by kernel_rfl) rfl
    (fun ds h => match ds, h with | [_, _], _ => ⟨rfl, rfl, rfl⟩) (fun a ha => TradeSums_is a) hval hW
set_option maxRecDepth 100000 in
theorem over : Rows.tradeSumsRow.holds Tryz.pinned (OpenSpec.ofChange Rows.tradeSumsSpec) :=
  OpenClaim.holds_of_wide 3 Tryz.f3 rfl rfl rfl rfl rfl rfl rfl ⟨rfl, rfl, rfl, rfl, rfl⟩ rfl rfl rfl rfl rfl (by kernel_rfl) Tryz.func3 (by kernel_rfl)
    (of_decide_eq_true (by kernel_rfl)) (by unfold Func.isWrapper; first | (rw [if_pos (by decide +kernel)]; kernel_rfl) | (rw [if_neg (by decide +kernel)]; exact ⟨rfl, rfl⟩))
    (fun os started H enc _ => lifted os started H enc)
theorem plainParams : (Tryz.f3.params.toList.all fun t => !(Tryz.prog.wantsStandIn t)) = true := by kernel_rfl
theorem card : Rows.TradeSumsCardSaid :=
  Claim7.holds_tied_plain_at .later [] [.data, .data, .data, .data, .sentinel, .sentinel, .listed, .data, .pinned] true (true, "90f2a6b345cb8672bb7bf1b2d0e14e7fa8a68a8fce524c691855a8d9f09ada30") true
    over (fun _ h => by cases h) (by kernel_rfl) (fun _ h => by cases h) tradeSums_row_tie rfl ⟨rfl, rfl⟩ (by kernel_rfl) rfl
    (fun f fn hf hfn => by
      obtain rfl : f = 3 := Option.some.inj ((show Tryz.prog.funcNamed "bursar/bursarlaw20.TradeSums" = some 3 by kernel_rfl).symm.trans hf) |>.symm
      obtain rfl : fn = Tryz.f3 := (Option.some.inj (Tryz.func3.symm.trans hfn)).symm
      exact ⟨by kernel_rfl, fun j t ht => by
        have h := List.all_eq_true.1 plainParams t (by rw [← Array.getElem?_toList] at ht; exact List.mem_of_getElem? ht)
        exact (show Tryz.prog.wantsStandIn t = false by simpa using h)⟩)
    (by kernel_rfl)
end Go.Proofs.YtgipbdecogfgjaaGreatDoor.tradeSums
namespace Go.Proofs.YtgipbdecogfgjaaGreatDoor
theorem tradeSums_holds : Rows.TradeSumsCardSaid := tradeSums.card
#print axioms tradeSums_holds
end Go.Proofs.YtgipbdecogfgjaaGreatDoor
end
