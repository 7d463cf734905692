/- Part 4 of what the proof of this statement stands on: The entries of any postings that may be make a book in which each card has what was loaded and charged back, less what was taken and given again. -/
import Derived.Test.YtgipbdecogfgjaaGreatDoorProg
import Derived.KernelRfl
import Derived.Laws.CopyRow
import Derived.Laws.Externs
import Derived.Lib.Bytealg
import Derived.Laws.Strings
import Derived.Lib.ParseIntB
import Derived.Lib.ItoaNum
import Derived.Laws.RangeString
import Derived.Shelf.Strconv.Itoa1
import Derived.Shelf.Strconv.Itoa2
import Derived.Shelf.LaysM
import Derived.Lib.Walk
import Derived.Lib.ItoaMem
import Derived.WalkKit
import Derived.BigCall
import Derived.BigGuard
import Derived.Deep.Draws
import Derived.OwnWalk
import Derived.Lib.SliceRun
import Derived.Shelf.Strconv.ErrVarAll
import Derived.Shelf.Strings.Repeat
import Derived.Shelf.Strconv.Itoa3
import Derived.Shelf.Strings.Fields
import Derived.Test.YtgipbdecogfgjaaGreatDoorKTradeSums3
section
set_option linter.unusedVariables false
set_option linter.unusedSimpArgs false
set_option maxRecDepth 100000
namespace Go.Proofs.YtgipbdecogfgjaaGreatDoor
open Go Go.Fw Go.RowKit Go.Lib
set_option maxHeartbeats 4000000 in
theorem ins31.room (w : World) (b n k c vb vc : Nat) (cur new : Array Value) (eb ev : TypeId) (fb fv : Nat × Nat) (hk : k ≤ n) (hc : n + 1 ≤ c) (hne : b ≠ vb) (hbig : n + 1 ≤ 140737488355328)
    (hb : w.heap[b]? = some (.cells cur eb fb)) (hfb : ∀ o, o < cur.size + 1 → ¬ (fb.1 ≤ o ∧ o < fb.2)) (hfit : c * Tryz.prog.cellsOf 47 ≤ cur.size) (h1 : ∀ j, j < n * Tryz.prog.cellsOf 47 → (cur.getD j undef).oneCell' = true)
    (hv : w.heap[vb]? = some (.cells new ev fv)) (hfv : ∀ o, o < new.size + 1 → ¬ (fv.1 ≤ o ∧ o < fv.2)) (hfn : Tryz.prog.cellsOf 47 ≤ new.size) (h1n : ∀ j, j < Tryz.prog.cellsOf 47 → (new.getD j undef).oneCell' = true) :
    Calls Tryz.prog 31 #[.slice (some ⟨b, 0, none⟩) n c, .int .i64 k, .slice (some ⟨vb, 0, none⟩) 1 vc] w (RoomRes w b n c cur.size (Tryz.prog.cellsOf 47) (insAt cur 0 new k (Tryz.prog.cellsOf 47))) := by
  obtain ⟨i0, hi⟩ := Option.isSome_iff_exists.1 (show (Tryz.prog.info? 47).isSome = true by kernel_rfl)
  have hz0 : Tryz.prog.cellsOf 47 = 3 := by kernel_rfl
  have hisz : i0.size = 3 := by
    have : Tryz.prog.cellsOf 47 = i0.size := by simp [Program.cellsOf, hi]
    omega
  rw [hz0] at hfit h1 hfn h1n ⊢
  have uS : ∀ w, Sem.run Tryz.prog (underlying 23) w = .ok (TypeDesc.slice 47) w := run_underlying Tryz.underlying23
  have zE : ∀ w, (Go.sizeOf 47).run Tryz.prog w = .ok 3 w := fun w => by simp [sizeOf, typeInfo, hi, hisz]
  have hmul : (n + 1) * 3 ≤ c * 3 := Nat.mul_le_mul_right _ hc
  have hmk : k * 3 ≤ n * 3 := Nat.mul_le_mul_right _ hk
  rw [Nat.add_mul] at hmul
  have hz2 : ¬ ((1 : Int) = 0) := by omega
  by_cases hkn : k = n
  · subst hkn
    have hrun : ∀ ty, (Builtin.append_ #[23, 23] ty #[.slice (some ⟨b, 0, none⟩) k c, .slice (some ⟨vb, 0, none⟩) 1 vc]).run Tryz.prog w = .ok (.slice (some ⟨b, 0, none⟩) (k + 1) c) (w.setRow b (lay cur.toList (k * 3) (new.extract 0 (0 + 3)).toList).toArray) := fun ty => by
      have hst := run_storeCells_row (P := Tryz.prog) b (k * 3) eb fb (new.extract 0 (0 + 3)).toList 0 cur w hb (fun o ho => hfb o (by omega)) (by simp; omega) (fun v hv => by
        obtain ⟨j, hj⟩ := List.mem_iff_getElem?.1 hv
        rw [Array.getElem?_toList, Array.getElem?_extract] at hj
        split at hj
        · have := h1n j (by omega)
          rw [Nat.zero_add] at hj
          rw [Array.getD_eq_getD_getElem?, hj] at this
          exact this
        · cases hj)
      have hf := run_first_row (P := Tryz.prog) (w := w) (a := ⟨vb, 0, none⟩) rfl hv 3 1 vc (by show 0 + 1 * 3 ≤ new.size; omega)
      rw [Nat.one_mul] at hf
      have := run_append_room' (P := Tryz.prog) w 23 23 ty 47 i0 _ Tryz.underlying23 Tryz.underlying23 (.inr ⟨_, rfl⟩) hi ⟨b, 0, none⟩ k c 1 (.slice (some ⟨vb, 0, none⟩) 1 vc) _ (fun w => by simp [Builtin.lenOf]) (by rw [hisz]; exact hf) hc (w' := w.setRow b (lay cur.toList (k * 3) (new.extract 0 (0 + 3)).toList).toArray) (by
        rw [hisz, Go.Fw.addr_add _ rfl]
        simpa using hst)
      exact this
    obtain ⟨row, hrow⟩ : ∃ row, (lay cur.toList (k * 3) (new.extract 0 (0 + 3)).toList).toArray = row := ⟨_, rfl⟩
    have hsize : row.size = cur.size := by rw [← hrow]; exact size_lay_in _ _ _ _ _ (by omega) (by omega)
    have hget : ∀ j, row.getD j undef = if k * 3 ≤ j ∧ j < k * 3 + 3 then new.getD (0 + (j - k * 3)) undef else cur.getD j undef := fun j => by rw [← hrow]; exact getD_lay_in _ _ _ _ _ _ (by omega) (by omega)
    rw [hrow] at hrun
    clear hrow
    go_enter Tryz.func31, Tryz.ntmps31
    go_wp2_with (at_builtin; refine Lib.wpList_append_run _ rfl _ _ 23 23 rfl _ _ rfl rfl _ _ (hrun _) ?_)
    go_ret
    refine ⟨row, rfl, rfl, hsize, fun j hj => ?_, ⟨rfl, rfl, rfl⟩⟩
    rw [hget]
    unfold insAt
    rw [Nat.add_mul] at hj
    by_cases hj1 : j < k * 3
    · rw [if_neg (by omega), if_pos hj1, Nat.zero_add]
    · rw [if_pos (by omega), if_neg hj1, if_pos (by omega), Nat.zero_add]
  · have hlt : k < n := by omega
    have hmlt : (k + 1) * 3 ≤ n * 3 := Nat.mul_le_mul_right _ hlt
    have hkk : (k + 1) * 3 = k * 3 + 3 := by rw [Nat.add_mul]
    have hsub : (n - k) * 3 = n * 3 - k * 3 := Nat.sub_mul ..
    obtain ⟨row1, hrow1⟩ : ∃ row, (lay cur.toList (k * 3 + 3) (cur.extract (k * 3) (k * 3 + (n - k) * 3)).toList).toArray = row := ⟨_, rfl⟩
    have hsize1 : row1.size = cur.size := by rw [← hrow1]; exact size_lay_in _ _ _ _ _ (by omega) (by omega)
    have hget1 : ∀ j, row1.getD j undef = if k * 3 + 3 ≤ j ∧ j < k * 3 + 3 + (n - k) * 3 then cur.getD (k * 3 + (j - (k * 3 + 3))) undef else cur.getD j undef := fun j => by rw [← hrow1]; exact getD_lay_in _ _ _ _ _ _ (by omega) (by omega)
    obtain ⟨row2, hrow2⟩ : ∃ row, (lay row1.toList (k * 3) (new.extract 0 (0 + 3)).toList).toArray = row := ⟨_, rfl⟩
    have hsize2 : row2.size = cur.size := by rw [← hrow2, ← hsize1]; exact size_lay_in _ _ _ _ _ (by omega) (by omega)
    have hget2 : ∀ j, row2.getD j undef = if k * 3 ≤ j ∧ j < k * 3 + 3 then new.getD (0 + (j - k * 3)) undef else row1.getD j undef := fun j => by rw [← hrow2]; exact getD_lay_in _ _ _ _ _ _ (by omega) (by omega)
    have hcp1 : ∀ ty dl dc sl sc, Nat.min sl dl = n - k → (Builtin.copy_ #[23, 23] ty #[.slice (some ⟨b, k * 3 + 3, none⟩) dl dc, .slice (some ⟨b, k * 3, none⟩) sl sc]).run Tryz.prog w.drew = .ok (goInt ((n - k : Nat) : Int)) (w.drew.setRow b row1) := fun ty dl dc sl sc hm => by
      have := run_copy_rows (P := Tryz.prog) w.drew 23 23 ty 47 i0 b (k * 3 + 3) dl dc ⟨b, k * 3, none⟩ sl sc (n - k) cur cur eb eb fb fb Tryz.underlying23 hi hm rfl hb (by rw [hisz]; show k * 3 + _ ≤ _; omega) hb (fun o ho => hfb o (by omega)) (by rw [hisz]; omega) (fun j hj => by rw [hisz] at hj; exact h1 _ (by show k * 3 + j < _; omega))
      rw [hisz] at this
      rw [this, ← hrow1]
    have hw1 : (w.drew.setRow b row1).heap[b]? = some (.cells row1 eb fb) := setRow_heap w.drew b cur row1 eb fb hb
    have hv1 : (w.drew.setRow b row1).heap[vb]? = some (.cells new ev fv) := by rw [setRow_other w.drew b vb row1 (fun e => hne e.symm)]; exact hv
    have hcp2 : ∀ ty dl dc, Nat.min 1 dl = 1 → (Builtin.copy_ #[23, 23] ty #[.slice (some ⟨b, k * 3, none⟩) dl dc, .slice (some ⟨vb, 0, none⟩) 1 vc]).run Tryz.prog (w.drew.setRow b row1) = .ok (goInt ((1 : Nat) : Int)) (w.drew.setRow b row2) := fun ty dl dc hm => by
      have := run_copy_rows (P := Tryz.prog) (w.drew.setRow b row1) 23 23 ty 47 i0 b (k * 3) dl dc ⟨vb, 0, none⟩ 1 vc 1 new row1 ev eb fv fb Tryz.underlying23 hi hm rfl hv1 (by rw [hisz]; show 0 + 1 * 3 ≤ _; omega) hw1 (fun o ho => hfb o (by omega)) (by rw [hisz]; omega) (fun j hj => by rw [hisz] at hj; show (new.getD (0 + j) undef).oneCell' = true; rw [Nat.zero_add]; exact h1n _ (by omega))
      rw [hisz, Nat.one_mul] at this
      rw [this, setRow_setRow]
      exact congrArg (fun r => Result.ok (goInt ((1 : Nat) : Int)) (w.drew.setRow b r)) hrow2
    have hov : ∀ lb cb, (callFunc 54 #[.slice (some ⟨vb, 0, none⟩) 1 vc, .slice (some ⟨b, k * 3 + 3, none⟩) lb cb]).run Tryz.prog w = .ok (.value (.bool false)) w := fun lb cb => by
      rw [run_callFunc_extern Tryz.func54 (by kernel_rfl) (by kernel_rfl) (by kernel_rfl) (e := Extern.SlicesOverlaps.overlaps #[23, 23] #[4]) (by kernel_rfl),
        Lib.run_overlaps_apart w 23 4 47 Tryz.underlying23 3 zE ⟨vb, 0, none⟩ ⟨b, k * 3 + 3, none⟩ 1 vc lb cb (fun e => hne e.symm) ev eb new.size cur.size (by simp [World.shape?, hv]) (by simp [World.shape?, hb]) (by omega)
          (by have := hfv 0 (by omega); simp [World.frozen?, hv]; omega) (by have := hfv new.size (by omega); simp [World.frozen?, hv]; omega)]
      rfl
    have hres : RoomRes w b n c cur.size 3 (insAt cur 0 new k 3) (.returned (.slice (some ⟨b, 0, none⟩) (n + 1) c)) (w.drew.setRow b row2) := by
      refine ⟨row2, rfl, rfl, hsize2, fun j hj => ?_, ⟨rfl, rfl, rfl⟩⟩
      rw [hget2, hget1]
      unfold insAt
      rw [Nat.add_mul] at hj
      by_cases hj1 : j < k * 3
      · rw [if_neg (by omega), if_neg (by omega), if_pos hj1, Nat.zero_add]
      · by_cases hj2 : j < k * 3 + 3
        · rw [if_pos (by omega), if_neg hj1, if_pos hj2, Nat.zero_add]
        · rw [if_neg (by omega), if_pos (by omega), if_neg hj1, if_neg hj2]
          congr 1
          omega
    clear hrow1 hrow2 hget1 hget2
    have hw1' : IntKind.i64.wrap ((k : Int) + 1) = (k : Int) + 1 := by rw [IntKind.wrap_i64]; omega
    have hb1' : (0 : Int) ≤ (k : Int) + 1 := by omega
    have hin' : k ≤ n := by omega
    have htn' : ((k : Int) + 1).toNat = k + 1 := by omega
    have hb2' : ¬ (c = k + 1) := by omega
    have hb3' : (k : Int) ≤ (n : Int) + 1 := by omega
    have hb4' : ¬ (c = k) := by omega
    have hcpA := fun ty => hcp1 ty (n - k) (c - (k + 1)) (n + 1 - k) (c - k) (by simp only [Nat.min_def]; split <;> omega)
    have hcpB := fun ty => hcp2 ty (n + 1 - k) (c - k) (by simp only [Nat.min_def]; split <;> omega)
    clear hcp1 hcp2
    have mixed : Tryz.prog.follows .mixedOrders = true := by kernel_rfl
    have hz4 : ¬ ((k : Int) = (n : Int)) := by omega
    have hz5 : ¬ ((c : Int) < (n : Int) + 1) := by omega
    go_enter Tryz.func31, Tryz.ntmps31
    go_wp2_with (simp only [hov])
    go_region_law_o (refine step_copy_runQ rfl _ _ 23 23 rfl _ _ (by simp [Act.eval, Act.put]) (by simp [Act.eval, Act.put]) (hcpA _) ?_)
    go_wp2_with (at_builtin; refine wpList_copy_runQ _ rfl _ _ 23 23 rfl _ _ rfl rfl (hcpB _) ?_)
    go_ret
    exact hres
theorem ins31.info : (Tryz.prog.info? 47).bind (fun i => i.zero.map fun z => (z.cells.size, i.size)) = some (3, 3) := by kernel_rfl
set_option maxHeartbeats 4000000 in
theorem ins31.grow (w : World) (base : Option Addr) (n k c vb vc : Nat) (cur new : Array Value) (o : Nat) (hbase : n = 0 ∨ ∃ a, base = some a ∧ a.off = o ∧ RowAt w a (n * Tryz.prog.cellsOf 47) cur) (hk : k ≤ n) (hnc : n ≤ c) (hcn : c < n + 1)
    (hnew : RowAt w ⟨vb, 0, none⟩ (Tryz.prog.cellsOf 47) new) (hb1 : (n + 1) * Tryz.prog.bytesOf 47 ≤ 140737488355328) (hbig : n + 1 ≤ 140737488355328) :
    Calls Tryz.prog 31 #[.slice base n c, .int .i64 k, .slice (some ⟨vb, 0, none⟩) 1 vc] w (GrowRes w 47 (Tryz.prog.cellsOf 47) n (insAt cur o new k (Tryz.prog.cellsOf 47))) := by
  obtain ⟨i0, hi, hh⟩ := Option.bind_eq_some_iff.1 ins31.info
  obtain ⟨z0, hzv, hh⟩ := Option.map_eq_some_iff.1 hh
  simp only [Prod.mk.injEq] at hh
  obtain ⟨hzs, hisz⟩ := hh
  have hz0 : Tryz.prog.cellsOf 47 = 3 := by kernel_rfl
  have hbytes : Tryz.prog.bytesOf 47 = i0.bytes := by simp [Program.bytesOf, hi]
  rw [hz0] at hbase hnew ⊢
  rw [hbytes] at hb1
  have uS : ∀ w, Sem.run Tryz.prog (underlying 23) w = .ok (TypeDesc.slice 47) w := run_underlying Tryz.underlying23
  have zE : ∀ w, (Go.sizeOf 47).run Tryz.prog w = .ok 3 w := fun w => by simp [sizeOf, typeInfo, hi, hisz]
  have hmk : k * 3 ≤ n * 3 := Nat.mul_le_mul_right _ hk
  have hz2 : ¬ ((1 : Int) = 0) := by omega
  obtain ⟨_, ev, fv, hv, hfn, h1n⟩ := hnew
  have hv : w.heap[vb]? = some (.cells new ev fv) := hv
  have hfn : 3 ≤ new.size := by
    have : 0 + 3 ≤ new.size := hfn
    omega
  have h1n : ∀ j, j < 3 → (new.getD j undef).oneCell' = true := fun j hj => by
    have : (new.getD (0 + j) undef).oneCell' = true := h1n j hj
    rwa [Nat.zero_add] at this
  have hvw : vb < w.heap.size := (Array.getElem?_eq_some_iff.1 hv).1
  have hG : ∀ (m : Nat), m = n + 1 → n + 1 ≤ grownCap w m c 47 := fun m hm => by subst hm; exact grownCap_ge ..
  by_cases hkn : k = n
  · subst hkn
    have hold : ∃ olds : Array Value, (Builtin.firstCells i0.size k (.slice base k c)).run Tryz.prog w.drew = .ok olds w.drew ∧ olds.size = k * 3 ∧ ∀ j, j < k * 3 → olds.getD j undef = cur.getD (o + j) undef := by
      rcases hbase with h0 | ⟨a, rfl, rfl, hsp, ec, fc, hc, hfc, h1c⟩
      · subst h0
        refine ⟨#[], ?_, by simp, fun j hj => by omega⟩
        cases base <;> simp [Builtin.firstCells, loadCells, loadCellsFrom]
      · refine ⟨cur.extract a.off (a.off + k * 3), ?_, by simp; omega, fun j hj => getD_extract_l _ _ _ _ hj⟩
        rw [hisz]
        exact run_first_row (P := Tryz.prog) (w := w.drew) (a := a) hsp hc 3 k c hfc
    obtain ⟨olds, hold, holds, holdg⟩ := hold
    have hf := run_first_row (P := Tryz.prog) (w := w.drew) (a := ⟨vb, 0, none⟩) rfl hv 3 1 vc (by show 0 + 1 * 3 ≤ new.size; omega)
    rw [Nat.one_mul] at hf
    have hrun : ∀ ty, _ := fun ty => run_append_grow' (P := Tryz.prog) w 23 23 ty 47 i0 z0 _ Tryz.underlying23 Tryz.underlying23 (.inr ⟨_, rfl⟩) hi hzv base k c 1 (.slice (some ⟨vb, 0, none⟩) 1 vc) olds _ (fun w => by simp [Builtin.lenOf]) (by rw [hisz]; exact hf) hold hcn (.inr (by omega)) (growslice_fits hcn hb1)
    have hgc := hG _ rfl
    obtain ⟨gc, hgc'⟩ : ∃ gc, grownCap w (k + 1) c 47 = gc := ⟨_, rfl⟩
    rw [hgc'] at hrun hgc
    obtain ⟨row, hrow⟩ : ∃ row, olds ++ new.extract 0 (0 + 3) ++ Builtin.zeroCells z0.cells (gc - (k + 1)) = row := ⟨_, rfl⟩
    have hrow' : olds ++ new.extract (Addr.off ⟨vb, 0, none⟩) (Addr.off ⟨vb, 0, none⟩ + 3) ++ Builtin.zeroCells z0.cells (gc - (k + 1)) = row := hrow
    rw [hrow'] at hrun
    have hes : (new.extract 0 (0 + 3)).size = 3 := by simp; omega
    have hrs : row.size = gc * 3 := by
      rw [← hrow, Array.size_append, Array.size_append, size_zeroCells, hzs, hes, holds, Nat.sub_mul, Nat.add_mul]
      have := Nat.mul_le_mul_right 3 hgc
      rw [Nat.add_mul] at this
      omega
    have hrg : ∀ j, j < (k + 1) * 3 → row.getD j undef = insAt cur o new k 3 j := fun j hj => by
      rw [Nat.add_mul] at hj
      rw [← hrow, getD_append_l _ _ _ (by rw [Array.size_append, holds, hes]; omega)]
      unfold insAt
      by_cases hj1 : j < k * 3
      · rw [if_pos hj1, getD_append_l _ _ _ (by omega), holdg j hj1]
      · rw [if_neg hj1, if_pos (by omega), Array.getD_eq_getD_getElem?, Array.getElem?_append, if_neg (by omega), ← Array.getD_eq_getD_getElem?, holds, getD_extract_l _ _ _ _ (by omega), Nat.zero_add]
    have hres : GrowRes w 47 3 k (insAt cur o new k 3) (.returned (.slice (some ⟨w.heap.size, 0, none⟩) (k + 1) gc)) (w.drew.alloc (.cells row 47)) := ⟨gc, row, hgc, rfl, rfl, hrs, hrg, rfl, rfl, rfl⟩
    clear hrow hrow' hold holdg hgc' hbase hf hG
    go_enter Tryz.func31, Tryz.ntmps31
    cases base with
    | none =>
      go_wp2_with (at_builtin; refine Lib.wpList_append_run _ rfl _ _ 23 23 rfl _ _ rfl rfl _ _ (hrun _) ?_)
      all_goals (go_ret; exact hres)
    | some a =>
      obtain ⟨ab, ao, asp⟩ := a
      go_wp2_with (at_builtin; refine Lib.wpList_append_run _ rfl _ _ 23 23 rfl _ _ rfl rfl _ _ (hrun _) ?_)
      all_goals (go_ret; exact hres)
  · have hlt : k < n := by omega
    obtain rfl : c = n := by omega
    rcases hbase with h0 | ⟨a, rfl, rfl, hsp, ec, fc, hc, hfc, h1c⟩
    · omega
    obtain ⟨ab, ao, asp⟩ := a
    obtain rfl : asp = none := hsp
    have hc : w.heap[ab]? = some (.cells cur ec fc) := hc
    have hfc : ao + c * 3 ≤ cur.size := hfc
    have h1c : ∀ j, j < c * 3 → (cur.getD (ao + j) undef).oneCell' = true := h1c
    show Calls _ _ _ _ (GrowRes w 47 3 c (insAt cur ao new k 3))
    have hcw : ab < w.heap.size := (Array.getElem?_eq_some_iff.1 hc).1
    have hmlt : (k + 1) * 3 ≤ c * 3 := Nat.mul_le_mul_right _ hlt
    have hkk : (k + 1) * 3 = k * 3 + 3 := by rw [Nat.add_mul]
    have hsub : (c - k) * 3 = c * 3 - k * 3 := Nat.sub_mul ..
    have hik : k + (c + 1 - k) = c + 1 := by omega
    have hold := run_first_row (P := Tryz.prog) (w := w.drew) (a := ⟨ab, ao, none⟩) rfl hc 3 k c (by show ao + k * 3 ≤ _; omega)
    have hold : (Builtin.firstCells i0.size k (.slice (some ⟨ab, ao, none⟩) k c)).run Tryz.prog w.drew = .ok (cur.extract ao (ao + k * 3)).toList.toArray w.drew := by rw [hisz, Array.toArray_toList]; exact hold
    have hrz : ∀ ty, _ := fun ty => Lib.run_append_grow_zeros (P := Tryz.prog) w 23 3 ty 47 i0 z0 .i64 .i64 Tryz.underlying23 Tryz.underlying3 hi hzv (some ⟨ab, ao, none⟩) k c _ hold (c + 1 - k) (by omega) (by omega) (by omega) (by omega)
      (Nat.le_trans (Nat.mul_le_mul_right _ (show c + 1 - k ≤ c + 1 by omega)) (by omega)) (by rw [hik]; exact growslice_fits hcn hb1)
    rw [hik] at hrz
    have hgc := hG _ rfl
    obtain ⟨gc, hgc'⟩ : ∃ gc, grownCap w (c + 1) c 47 = gc := ⟨_, rfl⟩
    rw [hgc'] at hrz hgc
    rw [Array.toArray_toList] at hrz
    obtain ⟨row, hrow⟩ : ∃ row, cur.extract ao (ao + k * 3) ++ Builtin.zeroCells z0.cells (c + 1 - k) ++ Builtin.zeroCells z0.cells (gc - (c + 1)) = row := ⟨_, rfl⟩
    rw [hrow] at hrz
    have hkI : ((c + 1 - k : Nat) : Int) = (c : Int) + 1 - (k : Int) := by omega
    rw [hkI] at hrz
    have hes : (cur.extract ao (ao + k * 3)).size = k * 3 := by simp; omega
    have hmc := Nat.mul_le_mul_right 3 hgc
    rw [Nat.add_mul] at hmc
    have hrs : row.size = gc * 3 := by
      rw [← hrow, Array.size_append, Array.size_append, size_zeroCells, size_zeroCells, hzs, hes, Nat.sub_mul, Nat.sub_mul, Nat.add_mul]
      omega
    have hrg : ∀ j, j < k * 3 → row.getD j undef = cur.getD (ao + j) undef := fun j hj => by
      rw [← hrow, getD_append_l _ _ _ (by rw [Array.size_append, hes]; omega), getD_append_l _ _ _ (by omega), getD_extract_l _ _ _ _ hj]
    clear hrow
    have hA : (w.drew.alloc (.cells row 47)).heap[w.heap.size]? = some (.cells row 47 (0, 0)) := heap_alloc_new w.drew _
    have hAv : (w.drew.alloc (.cells row 47)).heap[vb]? = some (.cells new ev fv) := by exact (Go.Fw.alloc_old w.drew _ vb hvw).trans hv
    have hAc : (w.drew.alloc (.cells row 47)).heap[ab]? = some (.cells cur ec fc) := by exact (Go.Fw.alloc_old w.drew _ ab hcw).trans hc
    obtain ⟨row2, hrow2⟩ : ∃ r, (lay row.toList (k * 3) (new.extract 0 (0 + 3)).toList).toArray = r := ⟨_, rfl⟩
    have hs2 : row2.size = row.size := by rw [← hrow2]; exact size_lay_in _ _ _ _ _ (by omega) (by omega)
    have hg2 : ∀ j, row2.getD j undef = if k * 3 ≤ j ∧ j < k * 3 + 3 then new.getD (0 + (j - k * 3)) undef else row.getD j undef := fun j => by rw [← hrow2]; exact getD_lay_in _ _ _ _ _ _ (by omega) (by omega)
    obtain ⟨row3, hrow3⟩ : ∃ r, (lay row2.toList (k * 3 + 3) (cur.extract (ao + k * 3) (ao + k * 3 + (c - k) * 3)).toList).toArray = r := ⟨_, rfl⟩
    have hs3 : row3.size = row.size := by rw [← hrow3, ← hs2]; exact size_lay_in _ _ _ _ _ (by omega) (by omega)
    have hg3 : ∀ j, row3.getD j undef = if k * 3 + 3 ≤ j ∧ j < k * 3 + 3 + (c - k) * 3 then cur.getD (ao + k * 3 + (j - (k * 3 + 3))) undef else row2.getD j undef := fun j => by rw [← hrow3]; exact getD_lay_in _ _ _ _ _ _ (by omega) (by omega)
    have hcpA : ∀ ty dc, (Builtin.copy_ #[23, 23] ty #[.slice (some ⟨w.heap.size, k * 3, none⟩) (c + 1 - k) dc, .slice (some ⟨vb, 0, none⟩) 1 vc]).run Tryz.prog (w.drew.alloc (.cells row 47)) = .ok (goInt ((1 : Nat) : Int)) ((w.drew.alloc (.cells row 47)).setRow w.heap.size row2) := fun ty dc => by
      have := run_copy_rows (P := Tryz.prog) (w.drew.alloc (.cells row 47)) 23 23 ty 47 i0 w.heap.size (k * 3) (c + 1 - k) dc ⟨vb, 0, none⟩ 1 vc 1 new row ev 47 fv (0, 0) Tryz.underlying23 hi (by simp only [Nat.min_def]; split <;> omega) rfl hAv (by rw [hisz]; show 0 + 1 * 3 ≤ _; omega) hA (fun o ho => by simp) (by rw [hisz]; omega) (fun j hj => by rw [hisz] at hj; show (new.getD (0 + j) undef).oneCell' = true; rw [Nat.zero_add]; exact h1n _ (by omega))
      rw [hisz, Nat.one_mul] at this
      rw [this]
      exact congrArg (fun r => Result.ok (goInt ((1 : Nat) : Int)) ((w.drew.alloc (.cells row 47)).setRow w.heap.size r)) hrow2
    obtain ⟨W2, hW2⟩ : ∃ W2, (w.drew.alloc (.cells row 47)).setRow w.heap.size row2 = W2 := ⟨_, rfl⟩
    rw [hW2] at hcpA
    have hcpA : ∀ ty dc, (Builtin.copy_ #[23, 23] ty #[.slice (some ⟨w.heap.size, k * 3, none⟩) (c + 1 - k) dc, .slice (some ⟨vb, 0, none⟩) 1 vc]).run Tryz.prog (w.alloc (.cells row 47)).drew = .ok (goInt ((1 : Nat) : Int)) W2 := hcpA
    have hB : W2.drew.heap[w.heap.size]? = some (.cells row2 47 (0, 0)) := by rw [← hW2]; exact setRow_heap _ _ _ _ _ _ hA
    have hBc : W2.drew.heap[ab]? = some (.cells cur ec fc) := by rw [← hW2]; exact (setRow_other _ _ _ _ (by omega)).trans hAc
    have hcpB : ∀ ty dc sc, (Builtin.copy_ #[23, 23] ty #[.slice (some ⟨w.heap.size, k * 3 + 3, none⟩) (c - k) dc, .slice (some ⟨ab, ao + k * 3, none⟩) (c - k) sc]).run Tryz.prog W2.drew = .ok (goInt ((c - k : Nat) : Int)) (W2.drew.setRow w.heap.size row3) := fun ty dc sc => by
      have := run_copy_rows (P := Tryz.prog) W2.drew 23 23 ty 47 i0 w.heap.size (k * 3 + 3) (c - k) dc ⟨ab, ao + k * 3, none⟩ (c - k) sc (c - k) cur row2 ec 47 fc (0, 0) Tryz.underlying23 hi (by simp only [Nat.min_def]; split <;> omega) rfl hBc (by rw [hisz]; show ao + k * 3 + _ ≤ _; omega) hB (fun o ho => by simp) (by rw [hisz]; omega) (fun j hj => by rw [hisz] at hj; show (cur.getD (ao + k * 3 + j) undef).oneCell' = true; rw [Nat.add_assoc]; exact h1c _ (by omega))
      rw [hisz] at this
      rw [this, ← hrow3]
    have hheap : (W2.drew.setRow w.heap.size row3).heap = w.heap.push (.cells row3 47 (0, 0)) := by
      have e1 : (W2.drew.setRow w.heap.size row3).heap = (((w.drew.alloc (.cells row 47)).setRow w.heap.size row2).setRow w.heap.size row3).heap := by rw [← hW2]; rfl
      rw [e1, setRow_setRow]
      exact alloc_setRow w.drew row row3 47
    have hres : GrowRes w 47 3 c (insAt cur ao new k 3) (.returned (.slice (some ⟨w.heap.size, 0, none⟩) (c + 1) gc)) (W2.drew.setRow w.heap.size row3) := by
      refine ⟨gc, row3, hgc, rfl, hheap, by rw [hs3, hrs], fun j hj => ?_, by rw [← hW2]; exact ⟨rfl, rfl, rfl⟩⟩
      rw [hg3, hg2]
      unfold insAt
      rw [Nat.add_mul] at hj
      by_cases hj1 : j < k * 3
      · rw [if_neg (by omega), if_neg (by omega), if_pos hj1, hrg j hj1]
      · by_cases hj2 : j < k * 3 + 3
        · rw [if_neg (by omega), if_pos (by omega), if_neg hj1, if_pos hj2, Nat.zero_add]
        · rw [if_pos (by omega), if_neg hj1, if_neg hj2]
          congr 1
          omega
    clear hrow2 hrow3 hg2 hg3 hrg hB hBc hA hAv hAc hheap hW2 hold hG
    have hz4 : ¬ ((k : Int) = (c : Int)) := by omega
    have hz5 : (c : Int) < (c : Int) + 1 := by omega
    have hw1' : IntKind.i64.wrap ((k : Int) + 1) = (k : Int) + 1 := by rw [IntKind.wrap_i64]; omega
    have hb1' : (0 : Int) ≤ (k : Int) + 1 := by omega
    have hin' : k ≤ c := by omega
    have htn' : ((k : Int) + 1).toNat = k + 1 := by omega
    have hG1 : ¬ (gc = k) := by omega
    have hG2 : ¬ (gc = k + 1) := by omega
    have hb2' : ¬ (c = k + 1) ∨ c = k + 1 := by omega
    have hb3' : (k : Int) ≤ (c : Int) := by omega
    have hb3'' : (k : Int) ≤ (c : Int) + 1 := by omega
    have hb4' : ¬ (c = k) := by omega
    have hck : c + 1 - (k + 1) = c - k := by omega
    have mixed : Tryz.prog.follows .mixedOrders = true := by kernel_rfl
    go_enter Tryz.func31, Tryz.ntmps31
    go_wp2_with (first
      | (at_builtin; refine Lib.wpList_append_run _ rfl _ _ 23 3 rfl _ _ rfl rfl _ _ (hrz _) ?_)
      | (at_builtin; refine wpList_copy_runQ _ rfl _ _ 23 23 rfl _ _ rfl rfl (hcpA _ _) ?_))
    go_region_law_o (refine step_copy_runQ rfl _ _ 23 23 rfl _ _ (by simp [Act.eval, Act.put]) (by simp [Act.eval, Act.put]) (hcpB _ _ _) ?_)
    go_wp2
    go_ret
    exact hres
theorem ins31 : InsC Tryz.prog 31 47 := ⟨⟨_, Tryz.func31, by kernel_rfl, by kernel_rfl⟩, ins31.grow, ins31.room⟩
end Go.Proofs.YtgipbdecogfgjaaGreatDoor
end
section
set_option linter.unusedVariables false
set_option linter.unusedSimpArgs false
set_option maxRecDepth 100000
namespace Go.Proofs.YtgipbdecogfgjaaGreatDoor
open Go Go.Fw Go.RowKit Go.Lib
theorem del33.info : (Tryz.prog.info? 47).bind (fun i => i.zero.map fun z => (z.cells.size, i.size)) = some (3, 3) := by kernel_rfl
theorem del33.ones : ((Tryz.prog.info? 47).bind (·.zero)).map (fun z => z.cells.toList.all fun v => v.oneCell') = some true := by kernel_rfl
set_option maxHeartbeats 4000000 in
theorem del33.walk (w : World) (b n k c : Nat) (cur : Array Value) (eb : TypeId) (fb : Nat × Nat) (hkn : k < n) (hnc : n ≤ c) (hbig : n ≤ 140737488355328) (hb : w.heap[b]? = some (.cells cur eb fb)) (hfb : ∀ o, o < cur.size + 1 → ¬ (fb.1 ≤ o ∧ o < fb.2))
    (hfit : c * Tryz.prog.cellsOf 47 ≤ cur.size) (h1 : ∀ j, j < n * Tryz.prog.cellsOf 47 → (cur.getD j undef).oneCell' = true) :
    Calls Tryz.prog 33 #[.slice (some ⟨b, 0, none⟩) n c, .int .i64 k, .int .i64 (k + 1)] w (DelRes w b n c cur.size (Tryz.prog.cellsOf 47) (delAt cur k (Tryz.prog.cellsOf 47))) := by
  obtain ⟨i0, hi, hh⟩ := Option.bind_eq_some_iff.1 del33.info
  obtain ⟨z0, hzv, hh⟩ := Option.map_eq_some_iff.1 hh
  simp only [Prod.mk.injEq] at hh
  obtain ⟨hzs, hisz⟩ := hh
  have hone : z0.cells.toList.all (fun v => v.oneCell') = true := by
    have := del33.ones
    rw [hi] at this
    simp only [Option.bind_some, hzv, Option.map_some, Option.some.injEq] at this
    exact this
  have hz0 : Tryz.prog.cellsOf 47 = 3 := by kernel_rfl
  rw [hz0] at hfit h1 ⊢
  have uS : ∀ w, Sem.run Tryz.prog (underlying 23) w = .ok (TypeDesc.slice 47) w := run_underlying Tryz.underlying23
  have zE : ∀ w, (Go.sizeOf 47).run Tryz.prog w = .ok 3 w := fun w => by simp [sizeOf, typeInfo, hi, hisz]
  obtain ⟨j, hj⟩ : ∃ j, j = k + 1 := ⟨_, rfl⟩
  have hjI : ((k : Nat) : Int) + 1 = ((j : Nat) : Int) := by omega
  rw [hjI]
  have hjn : j ≤ n := by omega
  have hne : ¬ k = j := by omega
  have hneI : ¬ ((k : Nat) : Int) = ((j : Nat) : Int) := by omega
  have m1 : n * 3 ≤ c * 3 := Nat.mul_le_mul_right _ hnc
  have m2 : j * 3 ≤ n * 3 := Nat.mul_le_mul_right _ hjn
  have m3 : j * 3 = k * 3 + 3 := by rw [hj, Nat.add_mul, Nat.one_mul]
  have m4 : (n - j) * 3 = n * 3 - j * 3 := Nat.sub_mul ..
  have m5 : (n - 1) * 3 = n * 3 - 3 := by rw [Nat.sub_mul, Nat.one_mul]
  obtain ⟨row1, hrow1⟩ : ∃ row, (lay cur.toList (k * 3) (cur.extract (j * 3) (j * 3 + (n - j) * 3)).toList).toArray = row := ⟨_, rfl⟩
  have hs1 : row1.size = cur.size := by rw [← hrow1]; exact size_lay_in _ _ _ _ _ (by omega) (by omega)
  have hg1 : ∀ i, row1.getD i undef = if k * 3 ≤ i ∧ i < k * 3 + (n - j) * 3 then cur.getD (j * 3 + (i - k * 3)) undef else cur.getD i undef := fun i => by rw [← hrow1]; exact getD_lay_in _ _ _ _ _ _ (by omega) (by omega)
  have hap : ∀ ty o c2, o + (n - j) * 3 ≤ cur.size → cur.extract o (o + (n - j) * 3) = cur.extract (j * 3) (j * 3 + (n - j) * 3) → (Builtin.append_ #[23, 23] ty #[.slice (some ⟨b, 0, none⟩) k c, .slice (some ⟨b, o, none⟩) (n - j) c2]).run Tryz.prog w.drew = .ok (.slice (some ⟨b, 0, none⟩) (k + (n - j)) c) (w.drew.setRow b row1) := fun ty o c2 ho he => by
    have hst := run_storeCells_row (P := Tryz.prog) b (k * 3) eb fb (cur.extract (j * 3) (j * 3 + (n - j) * 3)).toList 0 cur w.drew hb (fun o ho => hfb o (by omega)) (by simp; omega) (fun v hv => by
      obtain ⟨i, hi⟩ := List.mem_iff_getElem?.1 hv
      rw [Array.getElem?_toList, Array.getElem?_extract] at hi
      split at hi
      · have := h1 (j * 3 + i) (by omega)
        rw [Array.getD_eq_getD_getElem?, hi] at this
        exact this
      · cases hi)
    have hf := run_first_row (P := Tryz.prog) (w := w.drew) (a := ⟨b, o, none⟩) rfl hb 3 (n - j) c2 ho
    have hf : (Builtin.firstCells i0.size (n - j) (.slice (some ⟨b, o, none⟩) (n - j) c2)).run Tryz.prog w.drew = .ok (cur.extract (j * 3) (j * 3 + (n - j) * 3)) w.drew := by
      rw [hisz, ← he]; exact hf
    have := run_append_room' (P := Tryz.prog) w.drew 23 23 ty 47 i0 _ Tryz.underlying23 Tryz.underlying23 (.inr ⟨_, rfl⟩) hi ⟨b, 0, none⟩ k c (n - j) (.slice (some ⟨b, o, none⟩) (n - j) c2) _ (fun w => by simp [Builtin.lenOf]) hf (by omega) (w' := w.drew.setRow b (lay cur.toList (k * 3) (cur.extract (j * 3) (j * 3 + (n - j) * 3)).toList).toArray) (by
      rw [hisz, Go.Fw.addr_add _ rfl]
      simpa using hst)
    rw [this, hrow1]
  have hw1 : (w.drew.setRow b row1).heap[b]? = some (.cells row1 eb fb) := setRow_heap w.drew b cur row1 eb fb hb
  obtain ⟨zs, hzz⟩ : ∃ zs, Builtin.zeroCells z0.cells 1 = zs := ⟨_, rfl⟩
  have hzsz : zs.size = 3 := by rw [← hzz, size_zeroCells, hzs]
  have hzo : ∀ v ∈ zs.toList, v.oneCell' = true := fun v hv => by
    rw [← hzz] at hv
    unfold Builtin.zeroCells at hv
    simp only [Array.toList_map, List.mem_map] at hv
    obtain ⟨i, _, rfl⟩ := hv
    refine List.all_eq_true.1 hone _ ?_
    rw [getElem!_pos z0.cells (i % z0.cells.size) (Nat.mod_lt _ (by omega))]
    exact Array.mem_toList_iff.2 (Array.getElem_mem _)
  obtain ⟨row2, hrow2⟩ : ∃ row, (lay row1.toList ((n - 1) * 3) zs.toList).toArray = row := ⟨_, rfl⟩
  have hs2 : row2.size = cur.size := by
    rw [← hrow2]
    simp only [List.size_toArray]
    rw [lay_length _ _ _ (by simp; omega)]
    simpa using hs1
  have hg2 : ∀ i, i < (n - 1) * 3 → row2.getD i undef = row1.getD i undef := fun i hi => by
    rw [← hrow2, lay_getD _ _ _ (by omega), if_neg (by omega)]
  have hcl : ∀ ty c3, (Builtin.clear_ #[23] ty #[.slice (some ⟨b, (n - 1) * 3, none⟩) 1 c3]).run Tryz.prog (w.drew.setRow b row1) = .ok (.tuple #[]) ((w.drew.setRow b row1).setRow b row2) := fun ty c3 => by
    have hst := run_storeCells_row (P := Tryz.prog) b ((n - 1) * 3) eb fb zs.toList 0 row1 (w.drew.setRow b row1) hw1 (fun o ho => hfb o (by omega)) (by simp; omega) hzo
    rw [Nat.add_zero] at hst
    have hze : (zeroValue 47).run Tryz.prog (w.drew.setRow b row1) = .ok z0 (w.drew.setRow b row1) := by simp [zeroValue, typeInfo, hi, hzv]
    rw [← hrow2]
    simp [Builtin.clear_, uS, hze, hzz, hst]
  have hres : DelRes w b n c cur.size 3 (delAt cur k 3) (.returned (.slice (some ⟨b, 0, none⟩) (n - 1) c)) ((w.drew.setRow b row1).setRow b row2) := by
    refine ⟨row2, rfl, ?_, hs2, fun i hi => ?_, ⟨rfl, rfl, rfl⟩⟩
    · rw [setRow_setRow]; rfl
    · rw [hg2 i hi, hg1]
      unfold delAt
      by_cases hik : i < k * 3
      · rw [if_neg (by omega), if_pos hik]
      · rw [if_pos (by omega), if_neg hik]
        congr 1
        omega
  have hkj : k + (n - j) = n - 1 := by omega
  rw [hkj] at hap
  have hself : n - j = 0 → w.drew.setRow b row1 = w.drew := fun h0 => by
    have : row1 = cur := Array.ext hs1 fun i g1 g2 => by
      have := hg1 i
      rw [if_neg (by rw [h0, Nat.zero_mul]; omega)] at this
      rw [Array.getD_eq_getD_getElem?, Array.getD_eq_getD_getElem?, Array.getElem?_eq_getElem g1, Array.getElem?_eq_getElem g2] at this
      exact this
    rw [this]
    exact setRow_self w.drew b cur eb fb hb
  obtain ⟨W1, hW1⟩ : ∃ W1, w.drew.setRow b row1 = W1 := ⟨_, rfl⟩
  rw [hW1] at hap hcl hres hself
  obtain ⟨W2, hW2⟩ : ∃ W2, W1.setRow b row2 = W2 := ⟨_, rfl⟩
  rw [hW2] at hcl hres
  have mixed : Tryz.prog.follows .mixedOrders = true := by kernel_rfl
  have hkc : k ≤ c := by omega
  have hjc : j ≤ c := by omega
  have hn1 : n - 1 ≤ n := by omega
  have hn1c : n - 1 ≤ c := by omega
  have hnn : ¬ c = n - 1 := by omega
  have hkj' : k ≤ j := by omega
  have hnk : ¬ n = k := by omega
  have hc0 : ¬ c = 0 := by omega
  have hl1 : n - (n - 1) = 1 := by omega
  have hsl : (Instr.sliceAt 23 (.slice (some ⟨b, 0, none⟩) n c) (some (.int .i64 k)) (some (.int .i64 j)) (some (.int .i64 n))).run Tryz.prog w = .ok (.slice (some ⟨b, 0 + k * 3, none⟩) (j - k) (n - k)) w := by
    simp [Instr.sliceAt, Instr.slice, Instr.sliceBounds, Instr.sliceBound, asIntOf, uS, zE, hnc, hjn, hkj', hnk, Go.Fw.addr_add]
  by_cases hck : c = j
  · have hj0 : n - j = 0 := by omega
    obtain rfl : w.drew = W1 := (hself hj0).symm
    have hk1 : n - 1 = k := by omega
    rw [hk1] at hcl hres
    have hl2 : c - k = 1 := by omega
    obtain rfl : c = n := by omega
    rw [show (1 : Nat) = c - k by omega] at hcl
    clear hj hjI
    subst hck
    clear m1 m2 m3 m4 m5 hrow1 hs1 hg1 hrow2 hs2 hg2 hzo hW2 hw1 hb hfb hself hn1 hn1c hnn hnk hl1 hl2 hk1 hj0 hne hneI hap hkj hjn hjc hkj'
    have hne : ¬ k = c := by omega
    have hkc1 : k ≤ c := by omega
    go_enter Tryz.func33, Tryz.ntmps33
    go_wp2
    go_region_law_o (fail)
    go_wp2_with (at_builtin; refine wpList_clear_runQ _ rfl _ 23 rfl _ rfl (hcl _ _) ?_)
    go_ret
    exact hres
  · have hap := fun ty c2 => hap ty (j * 3) c2 (by omega) rfl
    clear hj hjI m1 m2 m3 m4 m5 hrow1 hs1 hg1 hrow2 hs2 hg2 hzo hW1 hW2 hw1 hb hfb hself
    go_enter Tryz.func33, Tryz.ntmps33
    go_wp2
    go_region_law_o (refine step_append_runQ rfl _ _ 23 23 rfl _ _ (by simp [Act.eval, Act.put]) (by simp [Act.eval, Act.put]) (hap _ (c - j)) ?_)
    go_wp2_with (at_builtin; refine wpList_clear_runQ _ rfl _ 23 rfl _ rfl (hcl _ _) ?_)
    go_ret
    exact hres
theorem del33 : DelC Tryz.prog 33 47 where
  ent := ⟨_, Tryz.func33, by kernel_rfl, by kernel_rfl⟩
  del := del33.walk
end Go.Proofs.YtgipbdecogfgjaaGreatDoor
end
section
set_option linter.unusedVariables false
set_option linter.unusedSimpArgs false
namespace Go.Proofs.YtgipbdecogfgjaaGreatDoor
open Go Go.Fw
noncomputable abbrev P := Tryz.prog
theorem pick_le {n : Nat} {cs : List D} {A B : Nat → Option (List D)} (h : ∀ g c, A g = some c → B g = some c) : ∀ g c, (bif g == n then some cs else A g) = some c → (bif g == n then some cs else B g) = some c := by
  intro g c
  cases (g == n)
  · exact h g c
  · exact fun h => h
abbrev G0 : Nat → Option (List D) := fun g => bif g == 0 then some [.i .u64 1, .i .u64 10, .i .u64 100, .i .u64 1000, .i .u64 10000, .i .u64 100000, .i .u64 1000000, .i .u64 10000000, .i .u64 100000000, .i .u64 1000000000, .i .u64 10000000000, .i .u64 100000000000, .i .u64 1000000000000, .i .u64 10000000000000, .i .u64 100000000000000, .i .u64 1000000000000000, .i .u64 10000000000000000, .i .u64 100000000000000000, .i .u64 1000000000000000000, .i .u64 10000000000000000000] else bif g == 6 then some [.i .u8 0, .i .u8 0, .i .u8 0, .i .u8 0, .i .u8 0, .i .u8 0, .i .u8 0, .i .u8 0, .i .u8 0, .i .u8 1, .i .u8 1, .i .u8 1, .i .u8 1, .i .u8 1, .i .u8 0, .i .u8 0, .i .u8 0, .i .u8 0, .i .u8 0, .i .u8 0, .i .u8 0, .i .u8 0, .i .u8 0, .i .u8 0, .i .u8 0, .i .u8 0, .i .u8 0, .i .u8 0, .i .u8 0, .i .u8 0, .i .u8 0, .i .u8 0, .i .u8 1, .i .u8 0, .i .u8 0, .i .u8 0, .i .u8 0, .i .u8 0, .i .u8 0, .i .u8 0, .i .u8 0, .i .u8 0, .i .u8 0, .i .u8 0, .i .u8 0, .i .u8 0, .i .u8 0, .i .u8 0, .i .u8 0, .i .u8 0, .i .u8 0, .i .u8 0, .i .u8 0, .i .u8 0, .i .u8 0, .i .u8 0, .i .u8 0, .i .u8 0, .i .u8 0, .i .u8 0, .i .u8 0, .i .u8 0, .i .u8 0, .i .u8 0, .i .u8 0, .i .u8 0, .i .u8 0, .i .u8 0, .i .u8 0, .i .u8 0, .i .u8 0, .i .u8 0, .i .u8 0, .i .u8 0, .i .u8 0, .i .u8 0, .i .u8 0, .i .u8 0, .i .u8 0, .i .u8 0, .i .u8 0, .i .u8 0, .i .u8 0, .i .u8 0, .i .u8 0, .i .u8 0, .i .u8 0, .i .u8 0, .i .u8 0, .i .u8 0, .i .u8 0, .i .u8 0, .i .u8 0, .i .u8 0, .i .u8 0, .i .u8 0, .i .u8 0, .i .u8 0, .i .u8 0, .i .u8 0, .i .u8 0, .i .u8 0, .i .u8 0, .i .u8 0, .i .u8 0, .i .u8 0, .i .u8 0, .i .u8 0, .i .u8 0, .i .u8 0, .i .u8 0, .i .u8 0, .i .u8 0, .i .u8 0, .i .u8 0, .i .u8 0, .i .u8 0, .i .u8 0, .i .u8 0, .i .u8 0, .i .u8 0, .i .u8 0, .i .u8 0, .i .u8 0, .i .u8 0, .i .u8 0, .i .u8 0, .i .u8 0, .i .u8 0, .i .u8 0, .i .u8 0, .i .u8 0, .i .u8 0, .i .u8 0, .i .u8 0, .i .u8 0, .i .u8 0, .i .u8 0, .i .u8 0, .i .u8 0, .i .u8 0, .i .u8 0, .i .u8 0, .i .u8 0, .i .u8 0, .i .u8 0, .i .u8 0, .i .u8 0, .i .u8 0, .i .u8 0, .i .u8 0, .i .u8 0, .i .u8 0, .i .u8 0, .i .u8 0, .i .u8 0, .i .u8 0, .i .u8 0, .i .u8 0, .i .u8 0, .i .u8 0, .i .u8 0, .i .u8 0, .i .u8 0, .i .u8 0, .i .u8 0, .i .u8 0, .i .u8 0, .i .u8 0, .i .u8 0, .i .u8 0, .i .u8 0, .i .u8 0, .i .u8 0, .i .u8 0, .i .u8 0, .i .u8 0, .i .u8 0, .i .u8 0, .i .u8 0, .i .u8 0, .i .u8 0, .i .u8 0, .i .u8 0, .i .u8 0, .i .u8 0, .i .u8 0, .i .u8 0, .i .u8 0, .i .u8 0, .i .u8 0, .i .u8 0, .i .u8 0, .i .u8 0, .i .u8 0, .i .u8 0, .i .u8 0, .i .u8 0, .i .u8 0, .i .u8 0, .i .u8 0, .i .u8 0, .i .u8 0, .i .u8 0, .i .u8 0, .i .u8 0, .i .u8 0, .i .u8 0, .i .u8 0, .i .u8 0, .i .u8 0, .i .u8 0, .i .u8 0, .i .u8 0, .i .u8 0, .i .u8 0, .i .u8 0, .i .u8 0, .i .u8 0, .i .u8 0, .i .u8 0, .i .u8 0, .i .u8 0, .i .u8 0, .i .u8 0, .i .u8 0, .i .u8 0, .i .u8 0, .i .u8 0, .i .u8 0, .i .u8 0, .i .u8 0, .i .u8 0, .i .u8 0, .i .u8 0, .i .u8 0, .i .u8 0, .i .u8 0, .i .u8 0, .i .u8 0, .i .u8 0, .i .u8 0, .i .u8 0, .i .u8 0, .i .u8 0, .i .u8 0, .i .u8 0, .i .u8 0, .i .u8 0, .i .u8 0, .i .u8 0, .i .u8 0, .i .u8 0, .i .u8 0, .i .u8 0, .i .u8 0] else none
abbrev G1 : Nat → Option (List D) := fun g => bif g == 0 then some [.i .u64 1, .i .u64 10, .i .u64 100, .i .u64 1000, .i .u64 10000, .i .u64 100000, .i .u64 1000000, .i .u64 10000000, .i .u64 100000000, .i .u64 1000000000, .i .u64 10000000000, .i .u64 100000000000, .i .u64 1000000000000, .i .u64 10000000000000, .i .u64 100000000000000, .i .u64 1000000000000000, .i .u64 10000000000000000, .i .u64 100000000000000000, .i .u64 1000000000000000000, .i .u64 10000000000000000000] else bif g == 6 then some [.i .u8 0, .i .u8 0, .i .u8 0, .i .u8 0, .i .u8 0, .i .u8 0, .i .u8 0, .i .u8 0, .i .u8 0, .i .u8 1, .i .u8 1, .i .u8 1, .i .u8 1, .i .u8 1, .i .u8 0, .i .u8 0, .i .u8 0, .i .u8 0, .i .u8 0, .i .u8 0, .i .u8 0, .i .u8 0, .i .u8 0, .i .u8 0, .i .u8 0, .i .u8 0, .i .u8 0, .i .u8 0, .i .u8 0, .i .u8 0, .i .u8 0, .i .u8 0, .i .u8 1, .i .u8 0, .i .u8 0, .i .u8 0, .i .u8 0, .i .u8 0, .i .u8 0, .i .u8 0, .i .u8 0, .i .u8 0, .i .u8 0, .i .u8 0, .i .u8 0, .i .u8 0, .i .u8 0, .i .u8 0, .i .u8 0, .i .u8 0, .i .u8 0, .i .u8 0, .i .u8 0, .i .u8 0, .i .u8 0, .i .u8 0, .i .u8 0, .i .u8 0, .i .u8 0, .i .u8 0, .i .u8 0, .i .u8 0, .i .u8 0, .i .u8 0, .i .u8 0, .i .u8 0, .i .u8 0, .i .u8 0, .i .u8 0, .i .u8 0, .i .u8 0, .i .u8 0, .i .u8 0, .i .u8 0, .i .u8 0, .i .u8 0, .i .u8 0, .i .u8 0, .i .u8 0, .i .u8 0, .i .u8 0, .i .u8 0, .i .u8 0, .i .u8 0, .i .u8 0, .i .u8 0, .i .u8 0, .i .u8 0, .i .u8 0, .i .u8 0, .i .u8 0, .i .u8 0, .i .u8 0, .i .u8 0, .i .u8 0, .i .u8 0, .i .u8 0, .i .u8 0, .i .u8 0, .i .u8 0, .i .u8 0, .i .u8 0, .i .u8 0, .i .u8 0, .i .u8 0, .i .u8 0, .i .u8 0, .i .u8 0, .i .u8 0, .i .u8 0, .i .u8 0, .i .u8 0, .i .u8 0, .i .u8 0, .i .u8 0, .i .u8 0, .i .u8 0, .i .u8 0, .i .u8 0, .i .u8 0, .i .u8 0, .i .u8 0, .i .u8 0, .i .u8 0, .i .u8 0, .i .u8 0, .i .u8 0, .i .u8 0, .i .u8 0, .i .u8 0, .i .u8 0, .i .u8 0, .i .u8 0, .i .u8 0, .i .u8 0, .i .u8 0, .i .u8 0, .i .u8 0, .i .u8 0, .i .u8 0, .i .u8 0, .i .u8 0, .i .u8 0, .i .u8 0, .i .u8 0, .i .u8 0, .i .u8 0, .i .u8 0, .i .u8 0, .i .u8 0, .i .u8 0, .i .u8 0, .i .u8 0, .i .u8 0, .i .u8 0, .i .u8 0, .i .u8 0, .i .u8 0, .i .u8 0, .i .u8 0, .i .u8 0, .i .u8 0, .i .u8 0, .i .u8 0, .i .u8 0, .i .u8 0, .i .u8 0, .i .u8 0, .i .u8 0, .i .u8 0, .i .u8 0, .i .u8 0, .i .u8 0, .i .u8 0, .i .u8 0, .i .u8 0, .i .u8 0, .i .u8 0, .i .u8 0, .i .u8 0, .i .u8 0, .i .u8 0, .i .u8 0, .i .u8 0, .i .u8 0, .i .u8 0, .i .u8 0, .i .u8 0, .i .u8 0, .i .u8 0, .i .u8 0, .i .u8 0, .i .u8 0, .i .u8 0, .i .u8 0, .i .u8 0, .i .u8 0, .i .u8 0, .i .u8 0, .i .u8 0, .i .u8 0, .i .u8 0, .i .u8 0, .i .u8 0, .i .u8 0, .i .u8 0, .i .u8 0, .i .u8 0, .i .u8 0, .i .u8 0, .i .u8 0, .i .u8 0, .i .u8 0, .i .u8 0, .i .u8 0, .i .u8 0, .i .u8 0, .i .u8 0, .i .u8 0, .i .u8 0, .i .u8 0, .i .u8 0, .i .u8 0, .i .u8 0, .i .u8 0, .i .u8 0, .i .u8 0, .i .u8 0, .i .u8 0, .i .u8 0, .i .u8 0, .i .u8 0, .i .u8 0, .i .u8 0, .i .u8 0, .i .u8 0, .i .u8 0, .i .u8 0, .i .u8 0, .i .u8 0, .i .u8 0, .i .u8 0, .i .u8 0, .i .u8 0, .i .u8 0, .i .u8 0, .i .u8 0, .i .u8 0, .i .u8 0, .i .u8 0, .i .u8 0, .i .u8 0, .i .u8 0, .i .u8 0, .i .u8 0, .i .u8 0] else bif g == 1 then some [.er true] else bif g == 2 then some [.er true] else none
theorem g01 : ∀ g cs, G0 g = some cs → G1 g = some cs := pick_le (pick_le (fun _ _ h => by cases h))
abbrev T_api_Account : Ty := (.g (.p (.i .i64) .s))
abbrev T_api_Balance : Ty := (.g (.p T_api_Account (.i .i64)))
abbrev T_api_Spec : Ty := (.g (.p (.i .i64) (.p (.i .i64) (.i .i64))))
abbrev T_api_Post : Ty := (.g (.p (.i .i64) (.p (.i .i64) (.p .s (.p .s (.p .s (.i .i64)))))))
abbrev T_api_Entry : Ty := (.g (.p (.i .i64) (.p .s (.l T_api_Balance))))
def add64 : List D → Option (Bool × D) := fun ds => match ds with
  | [.i .u64 x, .i .u64 y, .i .u64 c] => some (decide (0 ≤ x) && decide (0 ≤ y) && decide (0 ≤ c) && decide (c ≤ 1), .tp [.i .u64 ((x + y + c) % 18446744073709551616), .i .u64 ((x + y + c) / 18446744073709551616)])
  | _ => none
theorem add64_ok : ExtOK P 49 (bare add64) := by
  intro ds r h w I vs hsz hv
  unfold bare add64 at h
  split at h
  · rename_i b q hq
    obtain ⟨hb, h⟩ := cond_some h
    injection h with h
    subst h
    split at hq
    · rename_i x y c
      injection hq with hq
      injection hq with hq1 hq2
      subst hq2
      rw [hb] at hq1
      simp only [Bool.and_eq_true, decide_eq_true_eq] at hq1
      have e0 := hv 0 _ rfl
      have e1 := hv 1 _ rfl
      have e2 := hv 2 _ rfl
      have hvs : vs = #[.int .u64 x, .int .u64 y, .int .u64 c] := by
        have : vs = #[vs.getD 0 undef, vs.getD 1 undef, vs.getD 2 undef] := by
          apply Array.ext
          · simpa using hsz
          · intro i hi hi'
            simp at hi'
            have : i = 0 ∨ i = 1 ∨ i = 2 := by omega
            rcases this with rfl | rfl | rfl <;> simp [Array.getD_eq_getD_getElem?, Array.getElem?_eq_getElem hi]
        rw [this]
        generalize vs.getD 0 undef = a0 at e0
        generalize vs.getD 1 undef = a1 at e1
        generalize vs.getD 2 undef = a2 at e2
        cases e0; cases e1; cases e2
        rfl
      refine ⟨_, by rw [hvs, run_callFunc_extern Tryz.func49 (by kernel_rfl) (by kernel_rfl) (by kernel_rfl) (e := add64Entry) (by kernel_rfl), run_add64 x y c (by omega) (by omega) (by omega) (by omega)]; rfl, ?_⟩
      refine .tp _ _ rfl fun j d hj => ?_
      match j, hj with
      | 0, hj => simp at hj; subst hj; exact .i _ _
      | 1, hj => simp at hj; subst hj; exact .i _ _
      | j + 2, hj => simp at hj
    · cases hq
  · cases h
def cntB : List D → Option (Bool × D) := fun ds => match ds with
  | [.s x, .i .u8 y] => some (true, .i .i64 (((Lib.countByte x.data.toList y.toNat.toUInt8 : Nat) : Int)))
  | _ => none
theorem cntB_ok : ExtOK P 152 (bare cntB) := by
  intro ds r h w I vs hsz hv
  unfold bare cntB at h
  split at h
  · rename_i b q hq
    obtain ⟨hb, h⟩ := cond_some h
    injection h with h
    subst h
    split at hq
    · rename_i x y
      injection hq with hq
      injection hq with hq1 hq2
      subst hq2
      have e0 := hv 0 _ rfl
      have e1 := hv 1 _ rfl
      have hvs : vs = #[vs.getD 0 undef, vs.getD 1 undef] := by
        apply Array.ext
        · simpa using hsz
        · intro i hi hi'
          simp at hi'
          have : i = 0 ∨ i = 1 := by omega
          rcases this with rfl | rfl <;> simp [Array.getD_eq_getD_getElem?, Array.getElem?_eq_getElem hi]
      generalize vs.getD 0 undef = a0 at e0 hvs
      generalize vs.getD 1 undef = a1 at e1 hvs
      cases e0; cases e1
      refine ⟨_, by rw [hvs, run_callFunc_extern Tryz.func152 (by kernel_rfl) (by kernel_rfl) (by kernel_rfl) (e := Extern.BytealgCount.count) (by kernel_rfl), Lib.run_countString]; rfl, ?_⟩
      exact .i _ _
    · cases hq
  · cases h
def idxB : List D → Option (Bool × D) := fun ds => match ds with
  | [.s x, .i .u8 y] => some (true, .i .i64 (Lib.indexByte x.data.toList y.toNat.toUInt8))
  | _ => none
theorem idxB_ok : ExtOK P 163 (bare idxB) := by
  intro ds r h w I vs hsz hv
  unfold bare idxB at h
  split at h
  · rename_i b q hq
    obtain ⟨hb, h⟩ := cond_some h
    injection h with h
    subst h
    split at hq
    · rename_i x y
      injection hq with hq
      injection hq with hq1 hq2
      subst hq2
      have e0 := hv 0 _ rfl
      have e1 := hv 1 _ rfl
      have hvs : vs = #[vs.getD 0 undef, vs.getD 1 undef] := by
        apply Array.ext
        · simpa using hsz
        · intro i hi hi'
          simp at hi'
          have : i = 0 ∨ i = 1 := by omega
          rcases this with rfl | rfl <;> simp [Array.getD_eq_getD_getElem?, Array.getElem?_eq_getElem hi]
      generalize vs.getD 0 undef = a0 at e0 hvs
      generalize vs.getD 1 undef = a1 at e1 hvs
      cases e0; cases e1
      refine ⟨_, by rw [hvs, run_callFunc_extern Tryz.func163 (by kernel_rfl) (by kernel_rfl) (by kernel_rfl) (e := Extern.BytealgIndexByte.indexByte) (by kernel_rfl), Lib.run_indexByteString]; rfl, ?_⟩
      exact .i _ _
    · cases hq
  · cases h
abbrev E0 : FuncId → Option (List D → Option (Bool × D)) := fun g => bif g == 49 then some add64 else bif g == 152 then some cntB else bif g == 163 then some idxB else none
theorem e0_ok : ∀ g f, E0 g = some f → ExtOK P g (bare f) := by
  intro g f h
  unfold E0 at h
  cases hg49 : (g == 49) with
  | true =>
    rw [hg49] at h
    injection h with h
    subst h
    have : g = 49 := by simpa using hg49
    subst this
    exact add64_ok
  | false =>
  rw [hg49] at h
  simp only [cond_false] at h
  cases hg152 : (g == 152) with
  | true =>
    rw [hg152] at h
    injection h with h
    subst h
    have : g = 152 := by simpa using hg152
    subst this
    exact cntB_ok
  | false =>
  rw [hg152] at h
  simp only [cond_false] at h
  cases hg163 : (g == 163) with
  | true =>
    rw [hg163] at h
    injection h with h
    subst h
    have : g = 163 := by simpa using hg163
    subst this
    exact idxB_ok
  | false =>
  rw [hg163] at h
  simp only [cond_false] at h
  cases h
abbrev J0 : FuncId → Option TypeId := fun g => bif g == 31 then some 47 else bif g == 33 then some 1000047 else none
theorem j0_ok : InsAll P J0 := by
  intro g e h
  unfold J0 at h
  cases hg31 : (g == 31) with
  | true =>
    rw [hg31] at h
    injection h with h
    subst h
    have : g = 31 := by simpa using hg31
    subst this
    exact ⟨fun _ => ⟨ins31, by decide +kernel⟩, fun h => absurd (by decide) h⟩
  | false =>
  rw [hg31] at h
  simp only [cond_false] at h
  cases hg33 : (g == 33) with
  | true =>
    rw [hg33] at h
    injection h with h
    subst h
    have : g = 33 := by simpa using hg33
    subst this
    exact ⟨fun h => absurd h (by decide), fun _ => ⟨del33, by decide +kernel⟩⟩
  | false =>
  rw [hg33] at h
  simp only [cond_false] at h
  cases h
end Go.Proofs.YtgipbdecogfgjaaGreatDoor
end
section
set_option linter.unusedVariables false
set_option maxRecDepth 100000
namespace Go.Proofs.YtgipbdecogfgjaaGreatDoor
open Go Go.Fw
abbrev digit_All.As : Shs := (.cons (.x .s) .nil)
abbrev digit_All.m : Back := [(false, .b)]
noncomputable abbrev digit_All.H : HK := hk P G0 E0 J0 [] noLoops 4
theorem digit_All.rows : TabOK P G0 (tabF []) := rows_ok (ws := []) trivial
theorem digit_All.hok : HKOK P digit_All.H := hk_ok e0_ok j0_ok digit_All.rows (fun g n => noLoops_ok g n) 4
noncomputable abbrev digit_All.sh3 : SSh := ⟨[(0, (.x .s)), (5, (.x (.i .i64))), (6, (.x (.i .i64)))], []⟩
noncomputable abbrev digit_All.os3 : PEnds := [(.ret, ⟨[(2, (.x .b))], []⟩), ((.exit 0), ⟨[], []⟩)]
noncomputable def digit_All.t3 (s : (ByteArray × (Int × Int))) : Option ((ByteArray × (Int × Int)) ⊕ (Bool ⊕ Unit)) := (bif (decide ((s.2.2 < s.2.1))) then (bif ((decide (((0 : Int) ≤ s.2.2))) && (decide ((s.2.2 < (s.1.size : Int))))) then (bif (decide (((bt s.1 (Int.toNat s.2.2)) < (48 : Int)))) then (some (.inr (.inl false))) else (bif ((decide (((0 : Int) ≤ s.2.2))) && (decide ((s.2.2 < (s.1.size : Int))))) then (bif (decide (((bt s.1 (Int.toNat s.2.2)) > (57 : Int)))) then (some (.inr (.inl false))) else (some (.inl (s.1, (s.2.1, (IntKind.wrap .i64 (s.2.2 + (1 : Int)))))))) else none)) else none) else (some (.inr (.inr ()))))
theorem digit_All.t3_ok : ∀ s : Vals digit_All.sh3.tys, turnK P digit_All.H (lp []) (bodyAt (codeOf P 35) 3) 0 digit_All.sh3 digit_All.os3 s some = digit_All.t3 s := fun s => by kernel_rfl
noncomputable def digit_All.l3 : (ByteArray × (Int × Int)) → Option (Bool ⊕ Unit) := rounds digit_All.t3
noncomputable def digit_All.f (a : ByteArray) : Option Bool := (((digit_All.l3 (a, ((a.size : Int), (0 : Int))))).bind fun x1 => (match x1 with | .inl x2 => (some x2) | .inr x2 => (some true)))
theorem digit_All.ok : ∀ a : Vals digit_All.As.tys, fnK P digit_All.H (lp [(3, (NodeT.summ ⟨digit_All.sh3, digit_All.os3, digit_All.l3⟩ 0))]) 35 digit_All.As digit_All.m a some = digit_All.f a := fun a => by kernel_rfl
noncomputable abbrev digit_All.row : Row := fnRow 35 digit_All.As digit_All.m digit_All.f
theorem digit_All.row_ok : RowOK P G0 digit_All.row := row_told digit_All.hok (lp_of (l := [(3, (NodeT.summ ⟨digit_All.sh3, digit_All.os3, digit_All.l3⟩ 0))]) ⟨(loop_sum digit_All.hok (by kernel_rfl) (by kernel_rfl) (l := []) trivial digit_All.sh3 digit_All.os3 (by kernel_rfl) digit_All.t3 digit_All.t3_ok), trivial⟩) (fun _ => rfl) digit_All.ok
abbrev digit_sum.As : Shs := (.cons (.x .s) .nil)
abbrev digit_sum.m : Back := [(false, (.i .i64))]
noncomputable abbrev digit_sum.H : HK := hk P G0 E0 J0 [] noLoops 4
theorem digit_sum.rows : TabOK P G0 (tabF []) := rows_ok (ws := []) trivial
theorem digit_sum.hok : HKOK P digit_sum.H := hk_ok e0_ok j0_ok digit_sum.rows (fun g n => noLoops_ok g n) 4
noncomputable abbrev digit_sum.sh5 : SSh := ⟨[(0, (.x .s)), (3, (.fn 74 .nil)), (4, (.x (.i .i64))), (8, (.x (.i .i64))), (9, (.x (.i .i64)))], []⟩
noncomputable abbrev digit_sum.os5 : PEnds := [((.exit 0), ⟨[(4, (.x (.i .i64)))], []⟩)]
noncomputable def digit_sum.t5 (s : (ByteArray × (Int × (Int × Int)))) : Option ((ByteArray × (Int × (Int × Int))) ⊕ (Int)) := (bif (decide ((s.2.2.2 < s.2.2.1))) then (bif ((decide (((0 : Int) ≤ (IntKind.wrap .i64 ((IntKind.wrap .i64 ((s.1.size : Int) - (1 : Int))) - s.2.2.2))))) && (decide (((IntKind.wrap .i64 ((IntKind.wrap .i64 ((s.1.size : Int) - (1 : Int))) - s.2.2.2)) < (s.1.size : Int))))) then (bif ((Int.tmod s.2.2.2 (2 : Int)) == (1 : Int)) then (some (.inl (s.1, ((IntKind.wrap .i64 (s.2.1 + (IntKind.wrap .i64 ((IntKind.wrap .i64 ((2 : Int) * (IntKind.wrap .i64 (IntKind.wrap .u8 ((bt s.1 (Int.toNat (IntKind.wrap .i64 ((IntKind.wrap .i64 ((s.1.size : Int) - (1 : Int))) - s.2.2.2)))) - (48 : Int)))))) - (IntKind.wrap .i64 ((9 : Int) * (IntKind.wrap .i64 (Int.tdiv (IntKind.wrap .i64 (IntKind.wrap .u8 ((bt s.1 (Int.toNat (IntKind.wrap .i64 ((IntKind.wrap .i64 ((s.1.size : Int) - (1 : Int))) - s.2.2.2)))) - (48 : Int)))) (5 : Int))))))))), (s.2.2.1, (IntKind.wrap .i64 (s.2.2.2 + (1 : Int)))))))) else (some (.inl (s.1, ((IntKind.wrap .i64 (s.2.1 + (IntKind.wrap .i64 (IntKind.wrap .u8 ((bt s.1 (Int.toNat (IntKind.wrap .i64 ((IntKind.wrap .i64 ((s.1.size : Int) - (1 : Int))) - s.2.2.2)))) - (48 : Int)))))), (s.2.2.1, (IntKind.wrap .i64 (s.2.2.2 + (1 : Int))))))))) else none) else (some (.inr s.2.1)))
theorem digit_sum.t5_ok : ∀ s : Vals digit_sum.sh5.tys, turnK P digit_sum.H (lp []) (bodyAt (codeOf P 56) 5) 0 digit_sum.sh5 digit_sum.os5 s some = digit_sum.t5 s := fun s => by kernel_rfl
noncomputable def digit_sum.l5 : (ByteArray × (Int × (Int × Int))) → Option (Int) := rounds digit_sum.t5
noncomputable def digit_sum.f (a : ByteArray) : Option Int := (((digit_sum.l5 (a, ((0 : Int), ((a.size : Int), (0 : Int)))))).bind fun x1 => (some x1))
theorem digit_sum.ok : ∀ a : Vals digit_sum.As.tys, fnK P digit_sum.H (lp [(5, (NodeT.summ ⟨digit_sum.sh5, digit_sum.os5, digit_sum.l5⟩ 0))]) 56 digit_sum.As digit_sum.m a some = digit_sum.f a := fun a => by kernel_rfl
noncomputable abbrev digit_sum.row : Row := fnRow 56 digit_sum.As digit_sum.m digit_sum.f
theorem digit_sum.row_ok : RowOK P G0 digit_sum.row := row_told digit_sum.hok (lp_of (l := [(5, (NodeT.summ ⟨digit_sum.sh5, digit_sum.os5, digit_sum.l5⟩ 0))]) ⟨(loop_sum digit_sum.hok (by kernel_rfl) (by kernel_rfl) (l := []) trivial digit_sum.sh5 digit_sum.os5 (by kernel_rfl) digit_sum.t5 digit_sum.t5_ok), trivial⟩) (fun _ => rfl) digit_sum.ok
abbrev digit_Sound.As : Shs := (.cons (.x .s) .nil)
abbrev digit_Sound.m : Back := [(false, .b)]
noncomputable abbrev digit_Sound.H : HK := hk P G0 E0 J0 [digit_All.row, digit_sum.row] noLoops 4
theorem digit_Sound.rows : TabOK P G0 (tabF [digit_All.row, digit_sum.row]) := rows_ok (ws := [digit_All.row, digit_sum.row]) ⟨digit_All.row_ok, ⟨digit_sum.row_ok, trivial⟩⟩
theorem digit_Sound.hok : HKOK P digit_Sound.H := hk_ok e0_ok j0_ok digit_Sound.rows (fun g n => noLoops_ok g n) 4
noncomputable def digit_Sound.f (a : ByteArray) : Option Bool := (bif (decide (((a.size : Int) ≥ (2 : Int)))) then (((digit_All.f a)).bind fun x1 => (bif x1 then (((digit_sum.f a)).bind fun x2 => (some ((Int.tmod x2 (10 : Int)) == (0 : Int)))) else (some false))) else (some false))
theorem digit_Sound.ok : ∀ a : Vals digit_Sound.As.tys, fnK P digit_Sound.H (lp []) 34 digit_Sound.As digit_Sound.m a some = digit_Sound.f a := fun a => by kernel_rfl
noncomputable abbrev digit_Sound.row : Row := fnRow 34 digit_Sound.As digit_Sound.m digit_Sound.f
theorem digit_Sound.row_ok : RowOK P G0 digit_Sound.row := row_told digit_Sound.hok (lp_of (l := []) trivial) (fun _ => rfl) digit_Sound.ok
end Go.Proofs.YtgipbdecogfgjaaGreatDoor
end
section
set_option linter.unusedVariables false
set_option linter.unusedSimpArgs false
namespace Go.Proofs.YtgipbdecogfgjaaGreatDoor
open Go Go.Fw
def digC (s : ByteArray) (i : Nat) : Bool := decide (48 ≤ bt s i) && decide (bt s i ≤ 57)
def digitsB (s : ByteArray) : Bool := (List.range s.size).all (digC s)
theorem digit_All_is (s : ByteArray) (hs : s.size ≤ 4611686018427387904) : digit_All.f s = some (digitsB s) := by
  have h := rounds_all (t := digit_All.t3) (fun i => (s, ((s.size : Int), (i : Int)))) (digC s) (.inl false) (.inr ()) s.size (fun i hi => by
    have := bt_bound s i
    have := wrap_up (n := i) (by omega)
    grind [digit_All.t3, digC]) (by simp [digit_All.t3])
  unfold digit_All.f digit_All.l3
  rw [show ((0 : Int)) = ((0 : Nat) : Int) from rfl, h]
  unfold digitsB
  cases (List.range s.size).all (digC s) <;> rfl
theorem digits_at {s : ByteArray} (h : digitsB s = true) {i : Nat} (hi : i < s.size) : 48 ≤ bt s i ∧ bt s i ≤ 57 := by
  unfold digitsB at h
  rw [List.all_eq_true] at h
  simpa [digC] using h i (List.mem_range.2 hi)
def term (s : ByteArray) (j : Nat) : Int := bif (s.size - j) % 2 == 0 then (bif decide (2 * (bt s j - 48) > 9) then 2 * (bt s j - 48) - 9 else 2 * (bt s j - 48)) else bt s j - 48
def luhn (s : ByteArray) : Int := sumTo (term s) s.size
theorem term_bound {s : ByteArray} (h : digitsB s = true) {j : Nat} (hj : j < s.size) : 0 ≤ term s j ∧ term s j ≤ 9 := by
  have := digits_at h hj
  grind [term]
theorem digit_sum_is (s : ByteArray) (hs : s.size ≤ 576460752303423488) (hd : digitsB s = true) : digit_sum.f s = some (luhn s) := by
  have hb : ∀ n, n ≤ s.size → 0 ≤ sumTo (fun j => term s (s.size - 1 - j)) n ∧ sumTo (fun j => term s (s.size - 1 - j)) n ≤ 9 * n := fun n hn => sumTo_bound fun j hj => term_bound hd (by omega)
  have h := rounds_to (t := digit_sum.t5) (fun i => (s, (sumTo (fun j => term s (s.size - 1 - j)) i, ((s.size : Int), (i : Int))))) s.size (fun i hi => by
    have h1 := digits_at hd (i := s.size - 1 - i) (by omega)
    have h2 := wrap_up (n := i) (by omega)
    have h3 : IntKind.wrap .i64 ((s.size : Int) - 1) = (s.size : Int) - 1 := wrap_i64 (by omega) (by omega)
    have h4 : IntKind.wrap .i64 ((s.size : Int) - 1 - i) = ((s.size - 1 - i : Nat) : Int) := by rw [wrap_i64 (by omega) (by omega)]; omega
    have h5 : term s (s.size - 1 - i) = bif (i : Int).tmod 2 == 1 then 2 * (bt s (s.size - 1 - i) - 48) - 9 * ((bt s (s.size - 1 - i) - 48) / 5) else bt s (s.size - 1 - i) - 48 := by
      have e : ((i : Int).tmod 2 == 1) = ((s.size - (s.size - 1 - i)) % 2 == 0) := by
        rw [Int.tmod_eq_emod_of_nonneg (by omega)]
        rw [Bool.eq_iff_iff]; simp only [beq_iff_eq]; omega
      rw [e]
      unfold term
      cases ((s.size - (s.size - 1 - i)) % 2 == 0) with
      | false => rfl
      | true =>
        simp only [cond_true]
        by_cases hx : 2 * (bt s (s.size - 1 - i) - 48) > 9
        · rw [decide_eq_true hx]; simp only [cond_true]; omega
        · rw [decide_eq_false hx]; simp only [cond_false]; omega
    have hbi := hb i (by omega)
    have hbt := term_bound hd (j := s.size - 1 - i) (by omega)
    simp only [digit_sum.t5, h3, h4, Int.toNat_natCast, sumTo, h2]
    rw [h5] at hbt ⊢
    generalize sumTo (fun j => term s (s.size - 1 - j)) i = T at hbi ⊢
    generalize bt s (s.size - 1 - i) = d at h1 hbt ⊢
    have w1 : IntKind.wrap .u8 (d - 48) = d - 48 := by rw [wrap_u8]; omega
    have w2 : IntKind.wrap .i64 (d - 48) = d - 48 := wrap_i64 (by omega) (by omega)
    have w3 : IntKind.wrap .i64 (2 * (d - 48)) = 2 * (d - 48) := wrap_i64 (by omega) (by omega)
    have w4 : Int.tdiv (d - 48) 5 = (d - 48) / 5 := Int.tdiv_eq_ediv_of_nonneg (by omega)
    have w5 : IntKind.wrap .i64 ((d - 48) / 5) = (d - 48) / 5 := wrap_i64 (by omega) (by omega)
    have w6 : IntKind.wrap .i64 (9 * ((d - 48) / 5)) = 9 * ((d - 48) / 5) := wrap_i64 (by omega) (by omega)
    have w7 : IntKind.wrap .i64 (2 * (d - 48) - 9 * ((d - 48) / 5)) = 2 * (d - 48) - 9 * ((d - 48) / 5) := wrap_i64 (by omega) (by omega)
    have w8 : IntKind.wrap .i64 (T + (2 * (d - 48) - 9 * ((d - 48) / 5))) = T + (2 * (d - 48) - 9 * ((d - 48) / 5)) := wrap_i64 (by omega) (by omega)
    have w9 : IntKind.wrap .i64 (T + (d - 48)) = T + (d - 48) := wrap_i64 (by omega) (by omega)
    rw [w1, w2, w3, w4, w5, w6, w7, w8, w9]
    have g1 : decide ((i : Int) < (s.size : Int)) = true := decide_eq_true (by omega)
    have g2 : decide ((0 : Int) ≤ ((s.size - 1 - i : Nat) : Int)) = true := decide_eq_true (by omega)
    have g3 : decide (((s.size - 1 - i : Nat) : Int) < (s.size : Int)) = true := decide_eq_true (by omega)
    rw [g1, g2, g3]
    cases ((i : Int).tmod 2 == 1) <;> rfl)
  unfold digit_sum.f digit_sum.l5
  have h0 : (s, ((0 : Int), ((s.size : Int), (0 : Int)))) = (s, (sumTo (fun j => term s (s.size - 1 - j)) 0, ((s.size : Int), ((0 : Nat) : Int)))) := rfl
  rw [h0, h, sumTo_back, rounds_end (r := luhn s) (by simp [digit_sum.t5, luhn])]
  rfl
theorem digit_Sound_is (s : ByteArray) (hs : s.size ≤ 576460752303423488) : digit_Sound.f s = some (decide (2 ≤ s.size) && (digitsB s && (luhn s % 10 == 0))) := by
  have hl : digitsB s = true → 0 ≤ luhn s := fun hd => (sumTo_bound (f := term s) (b := 9) (n := s.size) fun j hj => term_bound hd hj).1
  unfold digit_Sound.f
  rw [digit_All_is s (by omega)]
  by_cases h2 : 2 ≤ s.size
  · rw [show decide ((s.size : Int) ≥ 2) = true from decide_eq_true (by omega), decide_eq_true h2]
    cases hd : digitsB s with
    | false => rfl
    | true => simp only [Option.bind_some, cond_true, digit_sum_is s hs hd, Bool.true_and, Int.tmod_eq_emod_of_nonneg (hl hd)]
  · rw [show decide ((s.size : Int) ≥ 2) = false from decide_eq_false (by omega), decide_eq_false h2]; rfl
end Go.Proofs.YtgipbdecogfgjaaGreatDoor
end
section
set_option linter.unusedVariables false
set_option maxRecDepth 100000
namespace Go.Proofs.YtgipbdecogfgjaaGreatDoor
open Go Go.Fw
abbrev hold_Ref.As : Shs := (.cons (.x .s) .nil)
abbrev hold_Ref.m : Back := [(false, .b)]
noncomputable abbrev hold_Ref.H : HK := hk P G0 E0 J0 [] noLoops 4
theorem hold_Ref.rows : TabOK P G0 (tabF []) := rows_ok (ws := []) trivial
theorem hold_Ref.hok : HKOK P hold_Ref.H := hk_ok e0_ok j0_ok hold_Ref.rows (fun g n => noLoops_ok g n) 4
noncomputable abbrev hold_Ref.sh3 : SSh := ⟨[(0, (.x .s)), (6, (.x (.i .i64))), (7, (.x (.i .i64)))], []⟩
noncomputable abbrev hold_Ref.os3 : PEnds := [(.ret, ⟨[(2, (.x .b))], []⟩), ((.exit 0), ⟨[(0, (.x .s))], []⟩)]
noncomputable def hold_Ref.t3 (s : (ByteArray × (Int × Int))) : Option ((ByteArray × (Int × Int)) ⊕ (Bool ⊕ ByteArray)) := (bif (decide ((s.2.2 < s.2.1))) then (bif ((decide (((0 : Int) ≤ s.2.2))) && (decide ((s.2.2 < (s.1.size : Int))))) then (bif (decide (((bt s.1 (Int.toNat s.2.2)) < (48 : Int)))) then (bif (decide (((bt s.1 (Int.toNat s.2.2)) < (65 : Int)))) then (some (.inr (.inl false))) else (bif (decide (((bt s.1 (Int.toNat s.2.2)) > (90 : Int)))) then (some (.inr (.inl false))) else (some (.inl (s.1, (s.2.1, (IntKind.wrap .i64 (s.2.2 + (1 : Int))))))))) else (bif (decide (((bt s.1 (Int.toNat s.2.2)) > (57 : Int)))) then (bif (decide (((bt s.1 (Int.toNat s.2.2)) < (65 : Int)))) then (some (.inr (.inl false))) else (bif (decide (((bt s.1 (Int.toNat s.2.2)) > (90 : Int)))) then (some (.inr (.inl false))) else (some (.inl (s.1, (s.2.1, (IntKind.wrap .i64 (s.2.2 + (1 : Int))))))))) else (some (.inl (s.1, (s.2.1, (IntKind.wrap .i64 (s.2.2 + (1 : Int))))))))) else none) else (some (.inr (.inr s.1))))
theorem hold_Ref.t3_ok : ∀ s : Vals hold_Ref.sh3.tys, turnK P hold_Ref.H (lp []) (bodyAt (codeOf P 13) 3) 0 hold_Ref.sh3 hold_Ref.os3 s some = hold_Ref.t3 s := fun s => by kernel_rfl
noncomputable def hold_Ref.l3 : (ByteArray × (Int × Int)) → Option (Bool ⊕ ByteArray) := rounds hold_Ref.t3
noncomputable def hold_Ref.f (a : ByteArray) : Option Bool := (((hold_Ref.l3 (a, ((a.size : Int), (0 : Int))))).bind fun x1 => (match x1 with | .inl x2 => (some x2) | .inr x2 => (some ((x2.size : Int) == (12 : Int)))))
theorem hold_Ref.ok : ∀ a : Vals hold_Ref.As.tys, fnK P hold_Ref.H (lp [(3, (NodeT.summ ⟨hold_Ref.sh3, hold_Ref.os3, hold_Ref.l3⟩ 0))]) 13 hold_Ref.As hold_Ref.m a some = hold_Ref.f a := fun a => by kernel_rfl
noncomputable abbrev hold_Ref.row : Row := fnRow 13 hold_Ref.As hold_Ref.m hold_Ref.f
theorem hold_Ref.row_ok : RowOK P G0 hold_Ref.row := row_told hold_Ref.hok (lp_of (l := [(3, (NodeT.summ ⟨hold_Ref.sh3, hold_Ref.os3, hold_Ref.l3⟩ 0))]) ⟨(loop_sum hold_Ref.hok (by kernel_rfl) (by kernel_rfl) (l := []) trivial hold_Ref.sh3 hold_Ref.os3 (by kernel_rfl) hold_Ref.t3 hold_Ref.t3_ok), trivial⟩) (fun _ => rfl) hold_Ref.ok
abbrev chart_May.As : Shs := (.cons (.x T_api_Account) .nil)
abbrev chart_May.m : Back := [(false, .b)]
noncomputable abbrev chart_May.H : HK := hk P G0 E0 J0 [digit_Sound.row, digit_All.row] noLoops 4
theorem chart_May.rows : TabOK P G0 (tabF [digit_Sound.row, digit_All.row]) := rows_ok (ws := [digit_Sound.row, digit_All.row]) ⟨digit_Sound.row_ok, ⟨digit_All.row_ok, trivial⟩⟩
theorem chart_May.hok : HKOK P chart_May.H := hk_ok e0_ok j0_ok chart_May.rows (fun g n => noLoops_ok g n) 4
noncomputable def chart_May.f (a : (Int × ByteArray)) : Option Bool := (bif (a.1 == (1 : Int)) then (bif ((a.2.size : Int) == (16 : Int)) then (((digit_Sound.f a.2)).bind fun x1 => (some x1)) else (some false)) else (bif (a.1 == (2 : Int)) then (bif ((a.2.size : Int) == (6 : Int)) then (((digit_All.f a.2)).bind fun x1 => (some x1)) else (some false)) else (bif (a.1 == (3 : Int)) then (bif (a.1 == (3 : Int)) then (some ((ByteArray.toList a.2) == [])) else (some false)) else (bif (a.1 == (4 : Int)) then (some ((ByteArray.toList a.2) == [])) else (some false)))))
theorem chart_May.ok : ∀ a : Vals chart_May.As.tys, fnK P chart_May.H (lp []) 18 chart_May.As chart_May.m a some = chart_May.f a := fun a => by kernel_rfl
noncomputable abbrev chart_May.row : Row := fnRow 18 chart_May.As chart_May.m chart_May.f
theorem chart_May.row_ok : RowOK P G0 chart_May.row := row_told chart_May.hok (lp_of (l := []) trivial) (fun _ => rfl) chart_May.ok
end Go.Proofs.YtgipbdecogfgjaaGreatDoor
end
section
set_option linter.unusedVariables false
set_option linter.unusedSimpArgs false
namespace Go.Proofs.YtgipbdecogfgjaaGreatDoor
open Go Go.Fw
def refC (s : ByteArray) (i : Nat) : Bool := (decide (48 ≤ bt s i) && decide (bt s i ≤ 57)) || (decide (65 ≤ bt s i) && decide (bt s i ≤ 90))
def refB (s : ByteArray) : Bool := s.size == 12 && (List.range s.size).all (refC s)
theorem hold_Ref_is (s : ByteArray) (hs : s.size ≤ 4611686018427387904) : hold_Ref.f s = some (refB s) := by
  have h := rounds_all (t := hold_Ref.t3) (fun i => (s, ((s.size : Int), (i : Int)))) (refC s) (.inl false) (.inr s) s.size (fun i hi => by
    have := bt_bound s i
    have := wrap_up (n := i) (by omega)
    grind [hold_Ref.t3, refC]) (by simp [hold_Ref.t3])
  unfold hold_Ref.f hold_Ref.l3
  rw [show ((0 : Int)) = ((0 : Nat) : Int) from rfl, h]
  unfold refB
  have e : ((s.size : Int) == 12) = (s.size == 12) := by rw [Bool.eq_iff_iff]; simp only [beq_iff_eq]; omega
  cases (List.range s.size).all (refC s) <;> simp [e]
def soundB (s : ByteArray) : Bool := decide (2 ≤ s.size) && (digitsB s && (luhn s % 10 == 0))
def cardB (s : ByteArray) : Bool := s.size == 16 && soundB s
def acqB (s : ByteArray) : Bool := s.size == 6 && digitsB s
theorem size_is {s : ByteArray} (n : Nat) : ((s.size : Int) == (n : Int)) = (s.size == n) := by rw [Bool.eq_iff_iff]; simp only [beq_iff_eq]; omega
theorem card_is (s : ByteArray) : chart_May.f (1, s) = some (cardB s) := by
  have e := size_is (s := s) 16
  unfold chart_May.f cardB
  by_cases h : s.size = 16
  · have := digit_Sound_is s (by omega)
    rw [show ((s.size : Int) == 16) = true from by simp; omega, show (s.size == 16) = true from by simp [h]]
    simp only [this, beq_self_eq_true, cond_true, Option.bind_some, Bool.true_and]
    rfl
  · rw [show ((s.size : Int) == 16) = false from by simp; omega, show (s.size == 16) = false from by simp [h]]
    rfl
theorem acq_is (s : ByteArray) : chart_May.f (2, s) = some (acqB s) := by
  unfold chart_May.f acqB
  by_cases h : s.size = 6
  · have := digit_All_is s (by omega)
    rw [show ((s.size : Int) == 6) = true from by simp; omega, show (s.size == 6) = true from by simp [h]]
    simp [this]
  · rw [show ((s.size : Int) == 6) = false from by simp; omega, show (s.size == 6) = false from by simp [h]]
    rfl
end Go.Proofs.YtgipbdecogfgjaaGreatDoor
end
section
set_option linter.unusedVariables false
set_option maxRecDepth 100000
namespace Go.Proofs.YtgipbdecogfgjaaGreatDoor
open Go Go.Fw
abbrev money_Sum.As : Shs := (.cons (.x (.l (.i .i64))) .nil)
abbrev money_Sum.m : Back := [(false, (.i .i64)), (false, (.i .i64))]
noncomputable abbrev money_Sum.H : HK := hk P G0 E0 J0 [] noLoops 4
theorem money_Sum.rows : TabOK P G0 (tabF []) := rows_ok (ws := []) trivial
theorem money_Sum.hok : HKOK P money_Sum.H := hk_ok e0_ok j0_ok money_Sum.rows (fun g n => noLoops_ok g n) 4
noncomputable abbrev money_Sum.sh4 : SSh := ⟨[(4, (.x (.i .i64))), (5, (.x (.i .u64))), (10, (.x (.l (.i .i64)))), (11, (.x (.i .i64))), (12, (.x (.i .i64)))], []⟩
noncomputable abbrev money_Sum.os4 : PEnds := [((.exit 0), ⟨[(4, (.x (.i .i64))), (5, (.x (.i .u64)))], []⟩)]
noncomputable def money_Sum.t4 (s : (Int × (Int × ((List Int) × (Int × Int))))) : Option ((Int × (Int × ((List Int) × (Int × Int)))) ⊕ ((Int × Int))) := (bif (decide ((s.2.2.2.2 < s.2.2.2.1))) then (bif ((decide (((0 : Int) ≤ s.2.2.2.2))) && (decide ((s.2.2.2.2 < ((List.length s.2.2.1) : Int))))) then (bif ((((decide (((0 : Int) ≤ s.2.1))) && (decide (((0 : Int) ≤ (IntKind.wrap .u64 (List.getD s.2.2.1 (Int.toNat s.2.2.2.2) (0 : Int))))))) && true) && true) then (some (.inl ((IntKind.wrap .i64 (s.1 + (IntKind.wrap .i64 ((Int.fdiv (List.getD s.2.2.1 (Int.toNat s.2.2.2.2) (0 : Int)) (9223372036854775808 : Int)) + (IntKind.wrap .i64 (HDiv.hDiv ((s.2.1 + (IntKind.wrap .u64 (List.getD s.2.2.1 (Int.toNat s.2.2.2.2) (0 : Int)))) + (0 : Int)) (18446744073709551616 : Int))))))), ((HMod.hMod ((s.2.1 + (IntKind.wrap .u64 (List.getD s.2.2.1 (Int.toNat s.2.2.2.2) (0 : Int)))) + (0 : Int)) (18446744073709551616 : Int)), (s.2.2.1, (s.2.2.2.1, (IntKind.wrap .i64 (s.2.2.2.2 + (1 : Int))))))))) else none) else none) else (some (.inr (s.1, s.2.1))))
theorem money_Sum.t4_ok : ∀ s : Vals money_Sum.sh4.tys, turnK P money_Sum.H (lp []) (bodyAt (codeOf P 26) 4) 0 money_Sum.sh4 money_Sum.os4 s some = money_Sum.t4 s := fun s => by kernel_rfl
noncomputable def money_Sum.l4 : (Int × (Int × ((List Int) × (Int × Int)))) → Option ((Int × Int)) := rounds money_Sum.t4
noncomputable def money_Sum.f (a : (List Int)) : Option (Int × Int) := (((money_Sum.l4 ((0 : Int), ((0 : Int), (a, (((List.length a) : Int), (0 : Int))))))).bind fun x1 => (bif (x1.1 != (Int.fdiv (IntKind.wrap .i64 x1.2) (9223372036854775808 : Int))) then (some ((0 : Int), (2 : Int))) else (some ((IntKind.wrap .i64 x1.2), (0 : Int)))))
theorem money_Sum.ok : ∀ a : Vals money_Sum.As.tys, fnK P money_Sum.H (lp [(4, (NodeT.summ ⟨money_Sum.sh4, money_Sum.os4, money_Sum.l4⟩ 0))]) 26 money_Sum.As money_Sum.m a some = money_Sum.f a := fun a => by kernel_rfl
noncomputable abbrev money_Sum.row : Row := fnRow 26 money_Sum.As money_Sum.m money_Sum.f
theorem money_Sum.row_ok : RowOK P G0 money_Sum.row := row_told money_Sum.hok (lp_of (l := [(4, (NodeT.summ ⟨money_Sum.sh4, money_Sum.os4, money_Sum.l4⟩ 0))]) ⟨(loop_sum money_Sum.hok (by kernel_rfl) (by kernel_rfl) (l := []) trivial money_Sum.sh4 money_Sum.os4 (by kernel_rfl) money_Sum.t4 money_Sum.t4_ok), trivial⟩) (fun _ => rfl) money_Sum.ok
end Go.Proofs.YtgipbdecogfgjaaGreatDoor
end
section
set_option linter.unusedVariables false
set_option linter.unusedSimpArgs false
namespace Go.Proofs.YtgipbdecogfgjaaGreatDoor
open Go Go.Fw
def fits (n : Int) : Bool := decide (-9223372036854775808 ≤ n) && decide (n ≤ 9223372036854775807)
def Amounts (l : List Int) : Prop := ∀ a ∈ l, -9223372036854775808 ≤ a ∧ a ≤ 9223372036854775807
theorem Amounts.at {l : List Int} (h : Amounts l) {i : Nat} (hi : i < l.length) : -9223372036854775808 ≤ l.getD i 0 ∧ l.getD i 0 ≤ 9223372036854775807 := by
  rw [getD_at hi]
  exact h _ (List.getElem_mem hi)
def upTo (l : List Int) (i : Nat) : Int := (l.take i).sum
theorem upTo_succ {l : List Int} {i : Nat} (h : i < l.length) : upTo l (i + 1) = upTo l i + l.getD i 0 := by
  unfold upTo
  rw [take_up 0 h, List.sum_append]
  simp
theorem upTo_bound {l : List Int} (h : Amounts l) : ∀ i : Nat, i ≤ l.length → -9223372036854775808 * (i : Int) ≤ upTo l i ∧ upTo l i ≤ 9223372036854775807 * (i : Int)
  | 0, _ => by simp [upTo]
  | i + 1, hi => by
    have ih := upTo_bound h i (by omega)
    have := h.at (i := i) (by omega)
    rw [upTo_succ (by omega)]
    omega
theorem wrap_back {n : Int} (h0 : 0 ≤ n) (h1 : n < 18446744073709551616) : IntKind.wrap .i64 n = if n ≥ 9223372036854775808 then n - 18446744073709551616 else n := by
  rw [IntKind.wrap_i64]; split <;> omega
def sumS (n : Int) : Int × Int := bif fits n then (n, 0) else (0, 2)
theorem money_Sum_is {l : List Int} (hs : l.length ≤ 4611686018427387904) (ha : Amounts l) : money_Sum.f l = some (sumS l.sum) := by
  have h := rounds_to (t := money_Sum.t4) (fun i => (upTo l i / 18446744073709551616, (upTo l i % 18446744073709551616, (l, ((l.length : Int), (i : Int)))))) l.length (fun i hi => by
    have h2 := wrap_up (n := i) (by omega)
    obtain ⟨hb1, hb2⟩ := upTo_bound ha i (by omega)
    obtain ⟨ha1, ha2⟩ := ha.at (i := i) (by omega)
    simp only [money_Sum.t4, Int.toNat_natCast, h2]
    rw [upTo_succ (by omega)]
    obtain ⟨a, hg⟩ : ∃ a, l.getD i 0 = a := ⟨_, rfl⟩
    obtain ⟨T, hT⟩ : ∃ T, upTo l i = T := ⟨_, rfl⟩
    simp only [hg, hT] at ha1 ha2 hb1 hb2 ⊢
    have d1 : (decide ((i : Int) < (l.length : Int))) = true := decide_eq_true (by omega)
    have d3 : decide ((0 : Int) ≤ (i : Int)) = true := decide_eq_true (by omega)
    have d4 : decide ((0 : Int) ≤ T % 18446744073709551616) = true := decide_eq_true (by omega)
    have d5 : decide ((0 : Int) ≤ IntKind.wrap .u64 a) = true := decide_eq_true (by rw [wrap_u64]; omega)
    have c5 : (T % 18446744073709551616 + IntKind.wrap .u64 a + 0) % 18446744073709551616 = (T + a) % 18446744073709551616 := by rw [wrap_u64]; omega
    have c4 : IntKind.wrap .i64 (T / 18446744073709551616 + IntKind.wrap .i64 (Int.fdiv a 9223372036854775808 + IntKind.wrap .i64 ((T % 18446744073709551616 + IntKind.wrap .u64 a + 0) / 18446744073709551616))) = (T + a) / 18446744073709551616 := by
      rw [wrap_u64, Int.fdiv_eq_ediv_of_nonneg a (by omega)]
      have w1 : IntKind.wrap .i64 ((T % 18446744073709551616 + a % 18446744073709551616 + 0) / 18446744073709551616) = (T % 18446744073709551616 + a % 18446744073709551616 + 0) / 18446744073709551616 := wrap_i64 (by omega) (by omega)
      rw [w1]
      have w2 : IntKind.wrap .i64 (a / 9223372036854775808 + (T % 18446744073709551616 + a % 18446744073709551616 + 0) / 18446744073709551616) = a / 9223372036854775808 + (T % 18446744073709551616 + a % 18446744073709551616 + 0) / 18446744073709551616 := wrap_i64 (by omega) (by omega)
      rw [w2, wrap_i64 (by omega) (by omega)]
      omega
    simp only [d1, d3, d4, d5, c4, c5, Bool.and_self, cond_true])
  have e : upTo l l.length = l.sum := by unfold upTo; rw [List.take_length]
  have hb := upTo_bound ha l.length (Nat.le_refl _)
  unfold money_Sum.f money_Sum.l4
  have h0 : ((0 : Int), ((0 : Int), (l, ((l.length : Int), (0 : Int))))) = (upTo l 0 / 18446744073709551616, (upTo l 0 % 18446744073709551616, (l, ((l.length : Int), ((0 : Nat) : Int))))) := rfl
  rw [h0, h, e, rounds_end (r := (l.sum / 18446744073709551616, l.sum % 18446744073709551616)) (by simp [money_Sum.t4])]
  rw [e] at hb
  simp only [Option.bind_some]
  unfold sumS
  generalize l.sum = s at hb ⊢
  have hw := wrap_back (n := s % 18446744073709551616) (by omega) (by omega)
  rw [hw, Int.fdiv_eq_ediv_of_nonneg _ (by omega)]
  by_cases hf : fits s = true
  · have hf' := hf
    simp only [fits, Bool.and_eq_true, decide_eq_true_eq] at hf'
    rw [hf]
    by_cases hn : s % 18446744073709551616 ≥ 9223372036854775808
    · rw [if_pos hn]
      have e : (s / 18446744073709551616 != (s % 18446744073709551616 - 18446744073709551616) / 9223372036854775808) = false := by simp; omega
      have e2 : s % 18446744073709551616 - 18446744073709551616 = s := by omega
      rw [e, e2]; rfl
    · rw [if_neg hn]
      have e : (s / 18446744073709551616 != s % 18446744073709551616 / 9223372036854775808) = false := by simp; omega
      have e2 : s % 18446744073709551616 = s := by omega
      rw [e, e2]; rfl
  · have hf' := hf
    simp only [fits, Bool.and_eq_true, decide_eq_true_eq] at hf'
    rw [Bool.eq_false_iff.mpr hf]
    by_cases hn : s % 18446744073709551616 ≥ 9223372036854775808
    · rw [if_pos hn]
      have e : (s / 18446744073709551616 != (s % 18446744073709551616 - 18446744073709551616) / 9223372036854775808) = true := by simp; omega
      rw [e]; rfl
    · rw [if_neg hn]
      have e : (s / 18446744073709551616 != s % 18446744073709551616 / 9223372036854775808) = true := by simp; omega
      rw [e]; rfl
end Go.Proofs.YtgipbdecogfgjaaGreatDoor
end
section
set_option linter.unusedVariables false
set_option maxRecDepth 100000
namespace Go.Proofs.YtgipbdecogfgjaaGreatDoor
open Go Go.Fw
abbrev money_Add.As : Shs := (.cons (.x (.i .i64)) (.cons (.x (.i .i64)) .nil))
abbrev money_Add.m : Back := [(false, (.i .i64)), (false, (.i .i64))]
noncomputable abbrev money_Add.H : HK := hk P G0 E0 J0 [money_Sum.row] noLoops 4
theorem money_Add.rows : TabOK P G0 (tabF [money_Sum.row]) := rows_ok (ws := [money_Sum.row]) ⟨money_Sum.row_ok, trivial⟩
theorem money_Add.hok : HKOK P money_Add.H := hk_ok e0_ok j0_ok money_Add.rows (fun g n => noLoops_ok g n) 4
noncomputable def money_Add.f (a : (Int × Int)) : Option (Int × Int) := (((money_Sum.f (a.1 :: (a.2 :: [])))).bind fun x2 => (some x2))
theorem money_Add.ok : ∀ a : Vals money_Add.As.tys, fnK P money_Add.H (lp []) 32 money_Add.As money_Add.m a some = money_Add.f a := fun a => by kernel_rfl
noncomputable abbrev money_Add.row : Row := fnRow 32 money_Add.As money_Add.m money_Add.f
theorem money_Add.row_ok : RowOK P G0 money_Add.row := row_told money_Add.hok (lp_of (l := []) trivial) (fun _ => rfl) money_Add.ok
abbrev money_Sub.As : Shs := (.cons (.x (.i .i64)) (.cons (.x (.i .i64)) .nil))
abbrev money_Sub.m : Back := [(false, (.i .i64)), (false, (.i .i64))]
noncomputable abbrev money_Sub.H : HK := hk P G0 E0 J0 [] noLoops 4
theorem money_Sub.rows : TabOK P G0 (tabF []) := rows_ok (ws := []) trivial
theorem money_Sub.hok : HKOK P money_Sub.H := hk_ok e0_ok j0_ok money_Sub.rows (fun g n => noLoops_ok g n) 4
noncomputable def money_Sub.f (a : (Int × Int)) : Option (Int × Int) := (bif (!((decide ((a.1 < (0 : Int)))) == (decide ((a.2 < (0 : Int)))))) then (bif (!((decide (((IntKind.wrap .i64 (a.1 - a.2)) < (0 : Int)))) == (decide ((a.1 < (0 : Int)))))) then (some ((0 : Int), (2 : Int))) else (some ((IntKind.wrap .i64 (a.1 - a.2)), (0 : Int)))) else (some ((IntKind.wrap .i64 (a.1 - a.2)), (0 : Int))))
theorem money_Sub.ok : ∀ a : Vals money_Sub.As.tys, fnK P money_Sub.H (lp []) 23 money_Sub.As money_Sub.m a some = money_Sub.f a := fun a => by kernel_rfl
noncomputable abbrev money_Sub.row : Row := fnRow 23 money_Sub.As money_Sub.m money_Sub.f
theorem money_Sub.row_ok : RowOK P G0 money_Sub.row := row_told money_Sub.hok (lp_of (l := []) trivial) (fun _ => rfl) money_Sub.ok
end Go.Proofs.YtgipbdecogfgjaaGreatDoor
end
section
set_option linter.unusedVariables false
set_option linter.unusedSimpArgs false
namespace Go.Proofs.YtgipbdecogfgjaaGreatDoor
open Go Go.Fw
theorem fits_iff {n : Int} : fits n = true ↔ Am n := by simp [fits, Am]
theorem fits_of {n : Int} (h : Am n) : fits n = true := fits_iff.2 h
theorem fits_not {n : Int} (h : ¬ Am n) : fits n = false := by
  cases hf : fits n with
  | false => rfl
  | true => exact absurd (fits_iff.1 hf) h
theorem sumS_of {n : Int} (h : Am n) : sumS n = (n, 0) := by simp [sumS, fits_of h]
theorem sumS_not {n : Int} (h : ¬ Am n) : sumS n = (0, 2) := by simp [sumS, fits_not h]
theorem am_cons {a : Int} {l : List Int} (h : Am a) (hl : Amounts l) : Amounts (a :: l) := by
  intro b hb
  rcases List.mem_cons.1 hb with rfl | hb
  · exact h
  · exact hl b hb
theorem am_nil : Amounts [] := fun a h => by cases h
theorem money_Add_is {a b : Int} (ha : Am a) (hb : Am b) : money_Add.f (a, b) = some (sumS (a + b)) := by
  unfold money_Add.f
  rw [money_Sum_is (by simp) (am_cons ha (am_cons hb am_nil))]
  simp
theorem money_Sub_is {a b : Int} (ha : Am a) (hb : Am b) : money_Sub.f (a, b) = some (sumS (a - b)) := by
  obtain ⟨h1, h2⟩ := ha
  obtain ⟨h3, h4⟩ := hb
  unfold money_Sub.f
  simp only [IntKind.wrap_i64]
  by_cases hf : Am (a - b)
  · rw [sumS_of hf]
    obtain ⟨h5, h6⟩ := hf
    have e : (a - b + 9223372036854775808) % 18446744073709551616 - 9223372036854775808 = a - b := by omega
    rw [e]
    by_cases c1 : a < 0 <;> by_cases c2 : b < 0 <;> by_cases c3 : a - b < 0 <;> simp [c1, c2, c3] <;> omega
  · rw [sumS_not hf]
    have hf' : a - b < -9223372036854775808 ∨ 9223372036854775807 < a - b := by unfold Am at hf; omega
    obtain ⟨m, hm⟩ : ∃ m, (a - b + 9223372036854775808) % 18446744073709551616 - 9223372036854775808 = m := ⟨_, rfl⟩
    rw [hm]
    have c1 : (decide (a < 0) == decide (b < 0)) = false := by
      by_cases c1 : a < 0 <;> by_cases c2 : b < 0 <;> simp [c1, c2] <;> omega
    have c2 : (decide (m < 0) == decide (a < 0)) = false := by
      by_cases c1 : a < 0 <;> by_cases c2 : m < 0 <;> simp [c1, c2] <;> omega
    simp [c1, c2]
def Told (r : Int × Bool) (n : Int) : Prop := r.2 = fits n ∧ (fits n = true → r.1 = n)
end Go.Proofs.YtgipbdecogfgjaaGreatDoor
end
section
set_option linter.unusedVariables false
set_option linter.unusedSimpArgs false
namespace Go.Fw
section
variable {S R : Type} {t : S → Option (S ⊕ R)}
theorem range_none {n k : Nat} {ex : Nat → Option R} (hk : k ≤ n) (h : ∀ j, j < k → ex j = none) : (List.range k).findSome? ex = none := by
  rw [List.findSome?_eq_none_iff]
  intro j hj
  exact h j (List.mem_range.1 hj)
theorem range_some {n k : Nat} {ex : Nat → Option R} {r : R} (hk : k < n) (h : ∀ j, j < k → ex j = none) (hr : ex k = some r) : (List.range n).findSome? ex = some r := by
  have e : List.range n = List.range k ++ k :: (List.range (n - k - 1)).map (· + (k + 1)) := by
    have h1 : n = k + (1 + (n - k - 1)) := by omega
    rw [h1, List.range_add, List.range_add]
    simp
    intro a _
    omega
  rw [e, List.findSome?_append, range_none (Nat.le_refl k) h]
  simp [hr]
theorem rounds_first (st : Nat → S) (ex : Nat → Option R) (fin : R) (n : Nat) (h : ∀ i, i < n → (∀ j, j < i → ex j = none) → t (st i) = some (match ex i with | some r => .inr r | none => .inl (st (i + 1))))
    (hf : (∀ j, j < n → ex j = none) → t (st n) = some (.inr fin)) : rounds t (st 0) = some (((List.range n).findSome? ex).getD fin) := by
  have go : ∀ k, k ≤ n → (∀ j, j < k → ex j = none) → rounds t (st 0) = rounds t (st k) := by
    intro k
    induction k with
    | zero => intro _ _; rfl
    | succ k ih =>
      intro hk hj
      rw [ih (by omega) fun j h => hj j (by omega)]
      have h1 := h k (by omega) fun j h => hj j (by omega)
      rw [hj k (by omega)] at h1
      exact rounds_next h1
  by_cases ha : ∀ j, j < n → ex j = none
  · rw [go n (Nat.le_refl _) ha, rounds_end (hf ha), range_none (Nat.le_refl n) ha]
    rfl
  · have hex : ∃ k, k < n ∧ (∀ j, j < k → ex j = none) ∧ ∃ r, ex k = some r := by
      clear h hf go
      induction n with
      | zero => exact absurd (fun j hj => by omega) ha
      | succ n ih =>
        by_cases h' : ∀ j, j < n → ex j = none
        · cases hn : ex n with
          | none => exact absurd (fun j hj => by
              by_cases e : j = n
              · rw [e]; exact hn
              · exact h' j (by omega)) ha
          | some r => exact ⟨n, by omega, h', r, hn⟩
        · obtain ⟨k, h1, h2⟩ := ih h'
          exact ⟨k, by omega, h2⟩
    obtain ⟨k, hk, hj, r, hr⟩ := hex
    have h1 := h k hk hj
    rw [hr] at h1
    rw [go k (by omega) hj, rounds_end h1, range_some hk hj hr]
    rfl
theorem rounds_map {α β : Type} (l : List α) (d : α) (g : α → β) (st : List β → Nat → S) (out : List β → R) (h : ∀ i, i < l.length → t (st ((l.take i).map g) i) = some (.inl (st ((l.take i).map g ++ [g (l.getD i d)]) (i + 1))))
    (hf : ∀ acc, acc = l.map g → t (st acc l.length) = some (.inr (out acc))) : rounds t (st [] 0) = some (out (l.map g)) := by
  have := rounds_to (t := t) (fun i => st ((l.take i).map g) i) l.length (fun i hi => by
    rw [h i hi, take_up d hi, List.map_append]; rfl)
  simp only [List.take_zero, List.map_nil, List.take_length] at this
  rw [this]
  exact rounds_end (hf _ rfl)
end
theorem ge0' (i : Nat) : decide ((0 : Int) ≤ (i : Int)) = true := decide_eq_true (by omega)
theorem inb {i n : Nat} (h : i < n) : decide (((i : Nat) : Int) < ((n : Nat) : Int)) = true := decide_eq_true (by omega)
theorem outb (n : Nat) : decide (((n : Nat) : Int) < ((n : Nat) : Int)) = false := decide_eq_false (by omega)
theorem find_not {β : Type} {n : Nat} {p : Nat → Bool} {g : Nat → β} : (∃ i, i < n ∧ (List.range n).findSome? (fun i => bif p i then none else some (g i)) = some (g i) ∧ (List.range n).all p = false) ∨ ((List.range n).findSome? (fun i => bif p i then none else some (g i)) = none ∧ (List.range n).all p = true) := by
  cases hq : (List.range n).findSome? (fun i => bif p i then none else some (g i)) with
  | none =>
    right
    refine ⟨rfl, ?_⟩
    rw [List.all_eq_true]
    intro i hi
    have := (List.findSome?_eq_none_iff.1 hq) i hi
    cases hb : p i
    · rw [hb] at this; cases this
    · rfl
  | some r =>
    left
    obtain ⟨i, hi, hr⟩ := List.exists_of_findSome?_eq_some hq
    cases hb : p i <;> rw [hb] at hr
    · injection hr with hr
      refine ⟨i, List.mem_range.1 hi, by rw [hr], ?_⟩
      rw [← Bool.not_eq_true, List.all_eq_true]
      intro h
      rw [h i hi] at hb
      cases hb
    · cases hr
end Go.Fw
end
section
set_option linter.unusedVariables false
set_option linter.unusedSimpArgs false
namespace Go.Fw
open Go
theorem eq_bs (s : ByteArray) : s = bs s.data.toList := by cases s; simp [bs]
theorem bs_list (l : List UInt8) : (bs l).data.toList = l := by simp [bs]
theorem bs_toList (l : List UInt8) : (bs l).toList = l := by rw [ByteArray.toList_eq, bs_list]
theorem bs_append (l r : List UInt8) : bs l ++ bs r = bs (l ++ r) := by
  apply ByteArray.ext
  rw [ByteArray.data_append]
  simp [bs]
theorem texts_eq (x y : ByteArray) : (ByteArray.toList x == ByteArray.toList y) = decide (x = y) := by
  rw [ByteArray.toList_eq, ByteArray.toList_eq, Bool.eq_iff_iff, beq_iff_eq, decide_eq_true_iff]
  constructor
  · intro h
    cases x; cases y
    simp only [Array.toList_inj] at h
    rw [h]
  · intro h; rw [h]
theorem texts_list (x : ByteArray) (l : List UInt8) : (ByteArray.toList x == l) = decide (x = bs l) := by
  rw [← texts_eq, bs_toList]
theorem texts_nil (x : ByteArray) : (ByteArray.toList x == []) = decide (x = bs []) := by
  rw [← texts_eq, bs_toList]
abbrev dgt (n : Nat) : UInt8 := UInt8.ofNat (48 + n)
def decP : Nat → Nat → List UInt8
  | 0, _ => []
  | k + 1, n => if n = 0 then [] else decP k (n / 10) ++ [dgt (n % 10)]
end Go.Fw
end
section
set_option linter.unusedVariables false
set_option maxRecDepth 100000
namespace Go.Proofs.YtgipbdecogfgjaaGreatDoor
open Go Go.Fw
abbrev entry_ref.As : Shs := (.cons (.x .s) .nil)
abbrev entry_ref.m : Back := [(false, .b)]
noncomputable abbrev entry_ref.H : HK := hk P G0 E0 J0 [] noLoops 4
theorem entry_ref.rows : TabOK P G0 (tabF []) := rows_ok (ws := []) trivial
theorem entry_ref.hok : HKOK P entry_ref.H := hk_ok e0_ok j0_ok entry_ref.rows (fun g n => noLoops_ok g n) 4
noncomputable abbrev entry_ref.shi0 : SSh := ⟨[(1, (.fn 51 .nil)), (2, (.x .b)), (10, (.pt 0 0))], [.it]⟩
noncomputable abbrev entry_ref.osi0 : PEnds := [(.ret, ⟨[(6, (.x (.i .i64)))], []⟩), ((.exit 0), ⟨[], []⟩)]
noncomputable def entry_ref.ti0 (s : (Bool × (ByteArray × Int))) : Option ((Bool × (ByteArray × Int)) ⊕ (Int ⊕ Unit)) := (bif (Nat.blt (Int.toNat s.2.2) s.2.1.size) then (bif (decide ((((runeD s.2.1 (Int.toNat s.2.2)).1 : Int) < (33 : Int)))) then (bif (true == s.1) then (some (.inr (.inl ((Int.toNat s.2.2) : Int)))) else (some (.inl (s.1, (s.2.1, (((Int.toNat s.2.2) + (runeD s.2.1 (Int.toNat s.2.2)).2) : Int)))))) else (bif ((decide ((((runeD s.2.1 (Int.toNat s.2.2)).1 : Int) > (126 : Int)))) == s.1) then (some (.inr (.inl ((Int.toNat s.2.2) : Int)))) else (some (.inl (s.1, (s.2.1, (((Int.toNat s.2.2) + (runeD s.2.1 (Int.toNat s.2.2)).2) : Int))))))) else (some (.inr (.inr ()))))
theorem entry_ref.ti0_ok : ∀ s : Vals entry_ref.shi0.tys, turnK P entry_ref.H (lp []) (bodyAt (codeOf P 87) 3) 0 entry_ref.shi0 entry_ref.osi0 s some = entry_ref.ti0 s := fun s => by kernel_rfl
noncomputable def entry_ref.li0 : (Bool × (ByteArray × Int)) → Option (Int ⊕ Unit) := rounds entry_ref.ti0
noncomputable abbrev entry_ref.L1 : ILp := [(87, 0, [(3, (NodeT.summ ⟨entry_ref.shi0, entry_ref.osi0, entry_ref.li0⟩ 0))])]
theorem entry_ref.L1ok : ILpOK P G0 entry_ref.L1 := ⟨⟨(loop_sum entry_ref.hok (by kernel_rfl) (by kernel_rfl) (l := []) trivial entry_ref.shi0 entry_ref.osi0 (by kernel_rfl) entry_ref.ti0 entry_ref.ti0_ok), trivial⟩, trivial⟩
noncomputable abbrev entry_ref.H1 : HK := hk P G0 E0 J0 [] (ilp entry_ref.L1) 4
theorem entry_ref.hok1 : HKOK P entry_ref.H1 := hk_ok e0_ok j0_ok entry_ref.rows (fun g n => ilp_ok entry_ref.L1ok g n) 4
noncomputable def entry_ref.f (a : ByteArray) : Option Bool := (bif (decide (((a.size : Int) ≤ (20 : Int)))) then (((entry_ref.li0 (true, (a, (0 : Int))))).bind fun x1 => (match x1 with | .inl x2 => (some (!(decide ((x2 ≥ (0 : Int)))))) | .inr x2 => (some true))) else (some false))
theorem entry_ref.ok : ∀ a : Vals entry_ref.As.tys, fnK P entry_ref.H1 (lp []) 28 entry_ref.As entry_ref.m a some = entry_ref.f a := fun a => by kernel_rfl
noncomputable abbrev entry_ref.row : Row := fnRow 28 entry_ref.As entry_ref.m entry_ref.f
theorem entry_ref.row_ok : RowOK P G0 entry_ref.row := row_told entry_ref.hok1 (lp_of (l := []) trivial) (fun _ => rfl) entry_ref.ok
abbrev entry_Check.As : Shs := (.cons (.x T_api_Entry) .nil)
abbrev entry_Check.m : Back := [(false, (.i .i64))]
noncomputable abbrev entry_Check.H : HK := hk P G0 E0 J0 [money_Sum.row, entry_ref.row, chart_May.row] noLoops 4
theorem entry_Check.rows : TabOK P G0 (tabF [money_Sum.row, entry_ref.row, chart_May.row]) := rows_ok (ws := [money_Sum.row, entry_ref.row, chart_May.row]) ⟨money_Sum.row_ok, ⟨entry_ref.row_ok, ⟨chart_May.row_ok, trivial⟩⟩⟩
theorem entry_Check.hok : HKOK P entry_Check.H := hk_ok e0_ok j0_ok entry_Check.rows (fun g n => noLoops_ok g n) 4
noncomputable abbrev entry_Check.shi0 : SSh := ⟨[(0, (.x (.l (.g (.p (.g (.p (.i .i64) .s)) (.i .i64)))))), (1, (.fn 27 (.cons (.pt 2 0) .nil))), (7, (.x (.i .i64))), (8, (.x (.i .i64)))], [.box (.cons (.x (.i .i64)) (.cons (.x .s) (.cons (.x (.l (.g (.p (.g (.p (.i .i64) .s)) (.i .i64))))) .nil))), .mp T_api_Account .b, .box (.cons (.mp 1) .nil)]⟩
noncomputable abbrev entry_Check.osi0 : PEnds := [(.ret, ⟨[(4, (.x (.i .i64)))], [.box (.cons (.x (.i .i64)) (.cons (.x .s) (.cons (.x (.l (.g (.p (.g (.p (.i .i64) .s)) (.i .i64))))) .nil))), .mp T_api_Account .b, .box (.cons (.mp 1) .nil)]⟩), ((.exit 0), ⟨[], [.box (.cons (.x (.i .i64)) (.cons (.x .s) (.cons (.x (.l (.g (.p (.g (.p (.i .i64) .s)) (.i .i64))))) .nil))), .mp T_api_Account .b, .box (.cons (.mp 1) .nil)]⟩)]
noncomputable def entry_Check.ti0 (s : ((List ((Int × ByteArray) × Int)) × (Int × (Int × (Int × (ByteArray × ((List ((Int × ByteArray) × Int)) × (List ((Int × ByteArray) × Bool))))))))) : Option (((List ((Int × ByteArray) × Int)) × (Int × (Int × (Int × (ByteArray × ((List ((Int × ByteArray) × Int)) × (List ((Int × ByteArray) × Bool)))))))) ⊕ ((Int × (Int × (ByteArray × ((List ((Int × ByteArray) × Int)) × (List ((Int × ByteArray) × Bool)))))) ⊕ (Int × (ByteArray × ((List ((Int × ByteArray) × Int)) × (List ((Int × ByteArray) × Bool))))))) := (bif (decide ((s.2.2.1 < s.2.1))) then (bif ((decide (((0 : Int) ≤ s.2.2.1))) && (decide ((s.2.2.1 < ((List.length s.1) : Int))))) then (bif (Ty.keyFit T_api_Account (List.getD s.1 (Int.toNat s.2.2.1) (Ty.dflt T_api_Balance)).1) then (bif (Ty.keyFit T_api_Account (List.getD s.1 (Int.toNat s.2.2.1) (Ty.dflt T_api_Balance)).1) then (bif (mgetD T_api_Account .b s.2.2.2.2.2.2 (List.getD s.1 (Int.toNat s.2.2.1) (Ty.dflt T_api_Balance)).1 false) then (some (.inr (.inl (s.2.2.1, (s.2.2.2.1, (s.2.2.2.2.1, (s.2.2.2.2.2.1, (mput T_api_Account .b s.2.2.2.2.2.2 (List.getD s.1 (Int.toNat s.2.2.1) (Ty.dflt T_api_Balance)).1 true)))))))) else (bif ((List.getD s.1 (Int.toNat s.2.2.1) (Ty.dflt T_api_Balance)).2 == (0 : Int)) then (some (.inr (.inl (s.2.2.1, (s.2.2.2.1, (s.2.2.2.2.1, (s.2.2.2.2.2.1, (mput T_api_Account .b s.2.2.2.2.2.2 (List.getD s.1 (Int.toNat s.2.2.1) (Ty.dflt T_api_Balance)).1 true)))))))) else (((chart_May.f (List.getD s.1 (Int.toNat s.2.2.1) (Ty.dflt T_api_Balance)).1)).bind fun x7 => (bif (!x7) then (some (.inr (.inl (s.2.2.1, (s.2.2.2.1, (s.2.2.2.2.1, (s.2.2.2.2.2.1, (mput T_api_Account .b s.2.2.2.2.2.2 (List.getD s.1 (Int.toNat s.2.2.1) (Ty.dflt T_api_Balance)).1 true)))))))) else (some (.inl (s.1, (s.2.1, ((IntKind.wrap .i64 (s.2.2.1 + (1 : Int))), (s.2.2.2.1, (s.2.2.2.2.1, (s.2.2.2.2.2.1, (mput T_api_Account .b s.2.2.2.2.2.2 (List.getD s.1 (Int.toNat s.2.2.1) (Ty.dflt T_api_Balance)).1 true))))))))))))) else none) else none) else none) else (some (.inr (.inr s.2.2.2))))
theorem entry_Check.ti0_ok : ∀ s : Vals entry_Check.shi0.tys, turnK P entry_Check.H (lp []) (bodyAt (codeOf P 52) 3) 3 entry_Check.shi0 entry_Check.osi0 s some = entry_Check.ti0 s := fun s => by kernel_rfl
noncomputable def entry_Check.li0 : ((List ((Int × ByteArray) × Int)) × (Int × (Int × (Int × (ByteArray × ((List ((Int × ByteArray) × Int)) × (List ((Int × ByteArray) × Bool)))))))) → Option ((Int × (Int × (ByteArray × ((List ((Int × ByteArray) × Int)) × (List ((Int × ByteArray) × Bool)))))) ⊕ (Int × (ByteArray × ((List ((Int × ByteArray) × Int)) × (List ((Int × ByteArray) × Bool)))))) := rounds entry_Check.ti0
noncomputable abbrev entry_Check.shi1 : SSh := ⟨[(0, (.yd 5 [5] (.cons (.pt 3 0) .nil) [46] (rfA P 15 0) (rfB P 15 0))), (5, (.x (.l (.g (.p (.g (.p (.i .i64) .s)) (.i .i64)))))), (6, (.x (.i .i64))), (7, (.x (.i .i64)))], [.box (.cons (.x (.i .i64)) (.cons (.x .s) (.cons (.x (.l (.g (.p (.g (.p (.i .i64) .s)) (.i .i64))))) .nil))), .mp T_api_Account .b, .box (.cons (.mp 1) .nil), .box (.cons (.own 6 1) .nil), .box (.cons (.x (.l (.g (.p (.g (.p (.i .i64) .s)) (.i .i64))))) .nil), .lp false, .arrN (.i .i64)]⟩
noncomputable abbrev entry_Check.L1 : ILp := [(52, 3, [(3, (NodeT.summ ⟨entry_Check.shi0, entry_Check.osi0, entry_Check.li0⟩ 3))])]
theorem entry_Check.L1ok : ILpOK P G0 entry_Check.L1 := ⟨⟨(loop_sum entry_Check.hok (by kernel_rfl) (by kernel_rfl) (l := []) trivial entry_Check.shi0 entry_Check.osi0 (by kernel_rfl) entry_Check.ti0 entry_Check.ti0_ok), trivial⟩, trivial⟩
noncomputable abbrev entry_Check.H1 : HK := hk P G0 E0 J0 [money_Sum.row, entry_ref.row, chart_May.row] (ilp entry_Check.L1) 4
theorem entry_Check.hok1 : HKOK P entry_Check.H1 := hk_ok e0_ok j0_ok entry_Check.rows (fun g n => ilp_ok entry_Check.L1ok g n) 4
noncomputable abbrev entry_Check.osi1 : PEnds := [((.exit 0), ⟨[], [.box (.cons (.x (.i .i64)) (.cons (.x .s) (.cons (.x (.l (.g (.p (.g (.p (.i .i64) .s)) (.i .i64))))) .nil))), .mp T_api_Account .b, .box (.cons (.mp 1) .nil), .box (.cons (.own 6 1) .nil), .box (.cons (.x (.l (.g (.p (.g (.p (.i .i64) .s)) (.i .i64))))) .nil), .lp false, .arrN (.i .i64)]⟩)]
noncomputable def entry_Check.ti1 (s : ((List ((Int × ByteArray) × Int)) × (Int × (Int × (Int × (ByteArray × ((List ((Int × ByteArray) × Int)) × ((List ((Int × ByteArray) × Bool)) × ((List ((Int × ByteArray) × Int)) × (List Int)))))))))) : Option (((List ((Int × ByteArray) × Int)) × (Int × (Int × (Int × (ByteArray × ((List ((Int × ByteArray) × Int)) × ((List ((Int × ByteArray) × Bool)) × ((List ((Int × ByteArray) × Int)) × (List Int))))))))) ⊕ ((Int × (ByteArray × ((List ((Int × ByteArray) × Int)) × ((List ((Int × ByteArray) × Bool)) × ((List ((Int × ByteArray) × Int)) × (List Int)))))))) := (bif (decide ((s.2.2.1 < s.2.1))) then (bif ((decide (((0 : Int) ≤ s.2.2.1))) && (decide ((s.2.2.1 < ((List.length s.1) : Int))))) then (bif ((true && (Nat.ble (((List.length s.2.2.2.2.2.2.2.2) + (List.length ((List.getD s.1 (Int.toNat s.2.2.1) (Ty.dflt T_api_Balance)).2 :: []))) * 8) 140737488355328)) && (Nat.ble ((List.length s.2.2.2.2.2.2.2.2) + (List.length ((List.getD s.1 (Int.toNat s.2.2.1) (Ty.dflt T_api_Balance)).2 :: []))) 140737488355328)) then (some (.inl (s.1, (s.2.1, ((IntKind.wrap .i64 (s.2.2.1 + (1 : Int))), (s.2.2.2.1, (s.2.2.2.2.1, (s.2.2.2.2.2.1, (s.2.2.2.2.2.2.1, (s.2.2.2.2.2.2.2.1, (s.2.2.2.2.2.2.2.2 ++ ((List.getD s.1 (Int.toNat s.2.2.1) (Ty.dflt T_api_Balance)).2 :: [])))))))))))) else none) else none) else (some (.inr s.2.2.2)))
theorem entry_Check.ti1_ok : ∀ s : Vals entry_Check.shi1.tys, turnK P entry_Check.H1 (lp []) (bodyAt (codeOf P 53) 2) 6 entry_Check.shi1 entry_Check.osi1 s some = entry_Check.ti1 s := by rintro ⟨s0, s1, s2, s3, s4, s5, s6, s7, s8⟩; cases s8 <;> kernel_rfl
noncomputable def entry_Check.li1 : ((List ((Int × ByteArray) × Int)) × (Int × (Int × (Int × (ByteArray × ((List ((Int × ByteArray) × Int)) × ((List ((Int × ByteArray) × Bool)) × ((List ((Int × ByteArray) × Int)) × (List Int))))))))) → Option ((Int × (ByteArray × ((List ((Int × ByteArray) × Int)) × ((List ((Int × ByteArray) × Bool)) × ((List ((Int × ByteArray) × Int)) × (List Int))))))) := rounds entry_Check.ti1
noncomputable abbrev entry_Check.L2 : ILp := [(52, 3, [(3, (NodeT.summ ⟨entry_Check.shi0, entry_Check.osi0, entry_Check.li0⟩ 3))]), (53, 6, [(2, (NodeT.summ ⟨entry_Check.shi1, entry_Check.osi1, entry_Check.li1⟩ 6))])]
theorem entry_Check.L2ok : ILpOK P G0 entry_Check.L2 := ⟨⟨(loop_sum entry_Check.hok (by kernel_rfl) (by kernel_rfl) (l := []) trivial entry_Check.shi0 entry_Check.osi0 (by kernel_rfl) entry_Check.ti0 entry_Check.ti0_ok), trivial⟩, ⟨⟨(loop_sum entry_Check.hok1 (by kernel_rfl) (by kernel_rfl) (l := []) trivial entry_Check.shi1 entry_Check.osi1 (by kernel_rfl) entry_Check.ti1 entry_Check.ti1_ok), trivial⟩, trivial⟩⟩
noncomputable abbrev entry_Check.H2 : HK := hk P G0 E0 J0 [money_Sum.row, entry_ref.row, chart_May.row] (ilp entry_Check.L2) 4
theorem entry_Check.hok2 : HKOK P entry_Check.H2 := hk_ok e0_ok j0_ok entry_Check.rows (fun g n => ilp_ok entry_Check.L2ok g n) 4
noncomputable def entry_Check.f (a : (Int × (ByteArray × (List ((Int × ByteArray) × Int))))) : Option Int := (bif (decide ((a.1 < (0 : Int)))) then (some (1 : Int)) else (bif (decide ((a.1 > (2147483647 : Int)))) then (some (1 : Int)) else (((entry_ref.f a.2.1)).bind fun x1 => (bif (!x1) then (some (1 : Int)) else (bif (decide ((((List.length a.2.2) : Int) < (2 : Int)))) then (some (1 : Int)) else (bif (decide ((((List.length a.2.2) : Int) > (8 : Int)))) then (some (1 : Int)) else (((entry_Check.li0 (a.2.2, (((List.length a.2.2) : Int), ((0 : Int), (a.1, (a.2.1, (a.2.2, [])))))))).bind fun x2 => (match x2 with | .inl x3 => (bif (decide ((x3.1 ≥ (0 : Int)))) then (some (1 : Int)) else (((entry_Check.li1 (x3.2.2.2.1, (((List.length x3.2.2.2.1) : Int), ((0 : Int), (x3.2.1, (x3.2.2.1, (x3.2.2.2.1, (x3.2.2.2.2, (x3.2.2.2.1, [])))))))))).bind fun x4 => (match x4.2.2.2.2.2 with | [] => (((money_Sum.f [])).bind fun x5 => (bif (x5.2 != (0 : Int)) then (some x5.2) else (bif (x5.1 != (0 : Int)) then (some (12 : Int)) else (some (0 : Int))))) | x5 :: x6 => (((money_Sum.f (x5 :: x6))).bind fun x7 => (bif (x7.2 != (0 : Int)) then (some x7.2) else (bif (x7.1 != (0 : Int)) then (some (12 : Int)) else (some (0 : Int)))))))) | .inr x3 => (((entry_Check.li1 (x3.2.2.1, (((List.length x3.2.2.1) : Int), ((0 : Int), (x3.1, (x3.2.1, (x3.2.2.1, (x3.2.2.2, (x3.2.2.1, [])))))))))).bind fun x4 => (match x4.2.2.2.2.2 with | [] => (((money_Sum.f [])).bind fun x5 => (bif (x5.2 != (0 : Int)) then (some x5.2) else (bif (x5.1 != (0 : Int)) then (some (12 : Int)) else (some (0 : Int))))) | x5 :: x6 => (((money_Sum.f (x5 :: x6))).bind fun x7 => (bif (x7.2 != (0 : Int)) then (some x7.2) else (bif (x7.1 != (0 : Int)) then (some (12 : Int)) else (some (0 : Int)))))))))))))))
theorem entry_Check.ok : ∀ a : Vals entry_Check.As.tys, fnK P entry_Check.H2 (lp []) 15 entry_Check.As entry_Check.m a some = entry_Check.f a := fun a => by kernel_rfl
noncomputable abbrev entry_Check.row : Row := fnRow 15 entry_Check.As entry_Check.m entry_Check.f
theorem entry_Check.row_ok : RowOK P G0 entry_Check.row := row_told entry_Check.hok2 (lp_of (l := []) trivial) (fun _ => rfl) entry_Check.ok
end Go.Proofs.YtgipbdecogfgjaaGreatDoor
end
section
set_option linter.unusedVariables false
set_option linter.unusedSimpArgs false
namespace Go.Proofs.YtgipbdecogfgjaaGreatDoor
open Go Go.Fw
abbrev Acc := Int × ByteArray
abbrev Lin := Acc × Int
abbrev Ent := Int × ByteArray × List Lin
def maySB (a : Acc) : Bool := bif a.1 == 1 then cardB a.2 else bif a.1 == 2 then acqB a.2 else (a.1 == 3 || a.1 == 4) && decide (a.2 = bs [])
theorem chartMay_is (a : Acc) : chart_May.f a = some (maySB a) := by
  obtain ⟨k, s⟩ := a
  unfold maySB
  by_cases h1 : k = 1
  · subst h1; exact card_is s
  by_cases h2 : k = 2
  · subst h2; exact acq_is s
  have e1 : (k == 1) = false := by simpa using h1
  have e2 : (k == 2) = false := by simpa using h2
  unfold chart_May.f
  simp only [e1, e2, cond_false, texts_nil]
  cases (k == 3) <;> cases (k == 4) <;> simp
def letterOf (k : Int) : UInt8 := bif k == 1 then 67 else bif k == 2 then 65 else bif k == 3 then 72 else 68
def nameT (a : Acc) : ByteArray := bif maySB a then bs (letterOf a.1 :: a.2.data.toList) else bs []
theorem bs_cons (c : UInt8) (s : ByteArray) : bs [c] ++ s = bs (c :: s.data.toList) := by
  conv => lhs; rw [eq_bs s]
  rw [bs_append]; rfl
def okRef (s : ByteArray) : Bool := decide (s.size ≤ 20) && s.data.toList.all fun c => decide (33 ≤ c.toNat) && decide (c.toNat ≤ 126)
theorem rune_low {s : ByteArray} {i : Nat} (hi : i < s.size) (h : (s.data.toList.getD i 0).toNat < 128) : runeD s i = ((s.data.toList.getD i 0).toNat, 1) := by
  have e : s.data.toList.getD i 0 = s[i]'hi := by
    rw [List.getD_eq_getElem?_getD, Array.getElem?_toList, Array.getElem?_eq_getElem (by simpa using hi)]
    rfl
  rw [e] at h ⊢
  exact Go.decode_ascii s i hi h
theorem rune_high {s : ByteArray} {i : Nat} (hi : i < s.size) (h : 128 ≤ (s.data.toList.getD i 0).toNat) : 127 < (runeD s i).1 := by
  have e : s.data.toList.getD i 0 = s.get! (i + 0) := by
    rw [List.getD_eq_getElem?_getD, Array.getElem?_toList]
    show _ = s.data.get!Internal (i + 0)
    simp [Array.get!Internal, Array.getD]
    rw [dif_pos (by simpa using hi), Array.getElem?_eq_getElem (by simpa using hi)]
    rfl
  rw [e] at h
  unfold runeD Utf8.decode
  simp only
  rw [if_neg (by omega)]
  split
  · split
    · omega
    · decide
  · split
    · split
      · rename_i h'
        simp only [Bool.and_eq_true, decide_eq_true_eq] at h'
        omega
      · decide
    · split
      · split
        · rename_i h'
          simp only [Bool.and_eq_true, decide_eq_true_eq] at h'
          omega
        · decide
      · decide
def okB33 (c : UInt8) : Bool := decide (33 ≤ c.toNat) && decide (c.toNat ≤ 126)
theorem ref_step {s : ByteArray} {i : Nat} (hi : i < s.size) : entry_ref.ti0 (true, s, ((i : Nat) : Int)) = some (bif okB33 (s.data.toList.getD i 0) then .inl (true, s, ((i + 1 : Nat) : Int)) else .inr (.inl ((i : Nat) : Int))) := by
  have hb : Nat.blt (Int.toNat ((i : Nat) : Int)) s.size = true := by rw [Int.toNat_natCast, Nat.blt_eq]; exact hi
  unfold entry_ref.ti0
  obtain ⟨x, hx⟩ : ∃ x, runeD s i = x := ⟨_, rfl⟩
  have hx' : runeD s (Int.toNat ((i : Nat) : Int)) = x := by rw [Int.toNat_natCast]; exact hx
  obtain ⟨c, hc⟩ : ∃ c, s.data.toList.getD i 0 = c := ⟨_, rfl⟩
  have main : ∀ (x1 x2 : Nat), x = (x1, x2) → (c.toNat < 128 → x1 = c.toNat ∧ x2 = 1) → (128 ≤ c.toNat → 127 < x1) → (bif decide (((x1 : Nat) : Int) < (33 : Int)) then (bif (true == true) then some (Sum.inr (α := Bool × ByteArray × Int) (Sum.inl (β := Unit) ((i : Nat) : Int))) else some (.inl (true, s, ((i + x2 : Nat) : Int)))) else (bif decide (((x1 : Nat) : Int) > (126 : Int)) == true then some (.inr (.inl ((i : Nat) : Int))) else some (.inl (true, s, ((i + x2 : Nat) : Int))))) = some (bif okB33 c then .inl (true, s, ((i + 1 : Nat) : Int)) else .inr (.inl ((i : Nat) : Int))) := by
    intro x1 x2 _ h1 h2
    by_cases c0 : c.toNat < 128
    · obtain ⟨rfl, rfl⟩ := h1 c0
      by_cases c1 : c.toNat < 33
      · have e : okB33 c = false := by unfold okB33; rw [decide_eq_false (show ¬ 33 ≤ c.toNat by omega)]; rfl
        rw [decide_eq_true (show ((c.toNat : Nat) : Int) < 33 by omega), e]
        rfl
      · by_cases c2 : c.toNat ≤ 126
        · have e : okB33 c = true := by unfold okB33; rw [decide_eq_true (show 33 ≤ c.toNat by omega), decide_eq_true c2]; rfl
          rw [decide_eq_false (show ¬ ((c.toNat : Nat) : Int) < 33 by omega), decide_eq_false (show ¬ ((c.toNat : Nat) : Int) > 126 by omega), e]
          rfl
        · have e : okB33 c = false := by unfold okB33; rw [decide_eq_false c2, Bool.and_false]
          rw [decide_eq_false (show ¬ ((c.toNat : Nat) : Int) < 33 by omega), decide_eq_true (show ((c.toNat : Nat) : Int) > 126 by omega), e]
          rfl
    · have h2 := h2 (by omega)
      have e : okB33 c = false := by unfold okB33; rw [decide_eq_false (show ¬ c.toNat ≤ 126 by omega), Bool.and_false]
      rw [decide_eq_false (show ¬ ((x1 : Nat) : Int) < 33 by omega), decide_eq_true (show ((x1 : Nat) : Int) > 126 by omega), e]
      rfl
  have h3 := main x.1 x.2 rfl (fun h => by
      have := rune_low hi (by rw [hc]; exact h)
      rw [hx, hc] at this
      rw [this]; exact ⟨rfl, rfl⟩) (fun h => by
      have := rune_high hi (by rw [hc]; exact h)
      rwa [hx] at this)
  rw [hc, ← h3]
  show (bif Nat.blt (Int.toNat ((i : Nat) : Int)) s.size then _ else _) = _
  rw [hb, cond_true, hx', Int.toNat_natCast]
  rfl
theorem ref_end (s : ByteArray) : entry_ref.ti0 (true, s, ((s.size : Nat) : Int)) = some (.inr (.inr ())) := by
  have hb : Nat.blt s.size s.size = false := by rw [← Bool.not_eq_true, Nat.blt_eq]; omega
  simp only [entry_ref.ti0, Int.toNat_natCast, hb, cond_false]
theorem ref_is (s : ByteArray) : entry_ref.f s = some (okRef s) := by
  unfold entry_ref.f okRef
  by_cases hs : s.size ≤ 20
  · rw [decide_eq_true (show (s.size : Int) ≤ 20 by omega), cond_true, decide_eq_true hs, Bool.true_and]
    have hl : s.data.toList.length = s.size := by simp
    have hf := rounds_first (t := entry_ref.ti0) (fun i => (true, s, ((i : Nat) : Int))) (fun i => bif okB33 (s.data.toList.getD i 0) then none else some (.inl ((i : Nat) : Int))) (.inr ()) s.size (fun i hi _ => (ref_step hi).trans (by cases okB33 (s.data.toList.getD i 0) <;> rfl)) (fun _ => ref_end s)
    have hf' : entry_ref.li0 (true, s, 0) = some (((List.range s.size).findSome? (fun i => bif okB33 (s.data.toList.getD i 0) then none else some (Sum.inl (β := Unit) ((i : Nat) : Int)))).getD (.inr ())) := hf
    have ha := range_all okB33 0 s.data.toList
    rw [hl] at ha
    have hall : (s.data.toList.all fun c => decide (33 ≤ c.toNat) && decide (c.toNat ≤ 126)) = s.data.toList.all okB33 := rfl
    rw [hall, ← ha, hf']
    rcases find_not (n := s.size) (p := fun i => okB33 (s.data.toList.getD i 0)) (g := fun i => Sum.inl (β := Unit) ((i : Nat) : Int)) with ⟨i, _, h1, h2⟩ | ⟨h1, h2⟩
    · rw [h1, h2]
      simp only [Option.getD_some, Option.bind_some, decide_eq_true (show ((i : Nat) : Int) ≥ 0 by omega), Bool.not_true]
    · rw [h1, h2]
      rfl
  · rw [decide_eq_false (show ¬ (s.size : Int) ≤ 20 by omega), decide_eq_false hs]; rfl
theorem accEq (a b : Acc) : Ty.eqb T_api_Account a b = decide (a = b) := by
  obtain ⟨k, s⟩ := a
  obtain ⟨k', s'⟩ := b
  show (k == k' && (ByteArray.toList s == ByteArray.toList s')) = _
  rw [texts_eq, Bool.eq_iff_iff]
  simp
theorem mget_mput (k k' : Acc) (v : Bool) : ∀ l : List (Acc × Bool), mget T_api_Account .b (mput T_api_Account .b l k v) k' = if k' = k then some v else mget T_api_Account .b l k'
  | [] => by
    simp only [mput, mget, accEq]
    by_cases h : k' = k
    · rw [if_pos h, decide_eq_true h]; rfl
    · rw [if_neg h, decide_eq_false h]; rfl
  | e :: l => by
    have ih := mget_mput k k' v l
    simp only [mput, accEq]
    by_cases h1 : k = e.1
    · rw [decide_eq_true h1]
      simp only [cond_true, mget, accEq]
      by_cases h : k' = k
      · rw [if_pos h, decide_eq_true h]; rfl
      · rw [if_neg h, decide_eq_false h, decide_eq_false (fun h2 => h (h2.trans h1.symm))]; rfl
    · rw [decide_eq_false h1]
      simp only [cond_false, mget, accEq, ih]
      by_cases h : k' = e.1
      · have hne : ¬ k' = k := fun h2 => h1 (h2.symm.trans h)
        rw [if_neg hne, if_neg hne]
      · rw [decide_eq_false h]; rfl
def zL : Lin := ((0, bs []), 0)
def metL (l : List Lin) : Nat → List (Acc × Bool)
  | 0 => []
  | i + 1 => mput T_api_Account .b (metL l i) (l.getD i zL).1 true
theorem met_is (l : List Lin) (k : Acc) : ∀ i, mgetD T_api_Account .b (metL l i) k false = (List.range i).any fun j => decide ((l.getD j zL).1 = k)
  | 0 => rfl
  | i + 1 => by
    have ih := met_is l k i
    unfold mgetD at ih ⊢
    rw [metL, mget_mput, List.range_succ, List.any_append, ← ih]
    by_cases h : k = (l.getD i zL).1
    · rw [if_pos h]; simp [h]
    · rw [if_neg h]
      have : decide ((l.getD i zL).1 = k) = false := decide_eq_false fun h2 => h h2.symm
      rw [List.any_cons, List.any_nil, this, Bool.or_false, Bool.or_false]
def okLine (l : List Lin) (i : Nat) : Bool := !((List.range i).any fun j => decide ((l.getD j zL).1 = (l.getD i zL).1)) && (!((l.getD i zL).2 == 0) && maySB (l.getD i zL).1)
def okLines (l : List Lin) : Bool := (List.range l.length).all (okLine l)
def goodL (l : List Lin) : Prop := ∀ y ∈ l, (Lit.int .i64 y.1.1).wf = true ∧ y.1.2.size ≤ maxLen ∧ Am y.2
theorem goodL.at {l : List Lin} (h : goodL l) {i : Nat} (hi : i < l.length) : Ty.keyFit T_api_Account (l.getD i zL).1 = true := by
  obtain ⟨h1, h2, _⟩ := h (l.getD i zL) (by rw [getD_at hi]; exact List.getElem_mem hi)
  show ((Lit.int .i64 (l.getD i zL).1.1).wf && Nat.ble (l.getD i zL).1.2.size maxLen) = true
  rw [h1, Nat.ble_eq_true_of_le h2]; rfl
theorem dflt_line : (Ty.dflt T_api_Balance : (Int × ByteArray) × Int) = zL := rfl
theorem lines_rounds {l : List Lin} (hg : goodL l) (hlen : l.length ≤ 1000) (b : Int) (r : ByteArray) :
    ∃ x, entry_Check.li0 (l, (l.length : Int), 0, b, r, l, []) = some x ∧ (match x with | .inl y => 0 ≤ y.1 ∧ okLines l = false | .inr y => okLines l = true ∧ y.1 = b ∧ y.2.1 = r ∧ y.2.2.1 = l) := by
  have hf := rounds_first (t := entry_Check.ti0) (fun i => (l, (l.length : Int), ((i : Nat) : Int), b, r, l, metL l i)) (fun i => bif okLine l i then none else some (.inl (((i : Nat) : Int), b, r, l, metL l (i + 1)))) (.inr (b, r, l, metL l l.length)) l.length (fun i hi _ => by
    simp only [entry_Check.ti0, inb hi, cond_true, ge0' i, Bool.and_self, Int.toNat_natCast, dflt_line, hg.at hi, met_is, chartMay_is, Option.bind_some, wrap_up (show i < 9223372036854775807 by omega)]
    unfold okLine
    cases (List.range i).any fun j => decide ((l.getD j zL).1 = (l.getD i zL).1)
    · cases ((l.getD i zL).2 == 0)
      · cases maySB (l.getD i zL).1 <;> rfl
      · rfl
    · rfl) (fun _ => by simp only [entry_Check.ti0, outb, cond_false])
  rcases find_not (n := l.length) (p := okLine l) (g := fun i => Sum.inl (β := Int × ByteArray × List Lin × List (Acc × Bool)) (((i : Nat) : Int), b, r, l, metL l (i + 1))) with ⟨i, _, h1, h2⟩ | ⟨h1, h2⟩
  · refine ⟨_, hf, ?_⟩
    rw [h1]
    exact ⟨by simp only; omega, h2⟩
  · refine ⟨_, hf, ?_⟩
    rw [h1]
    exact ⟨h2, rfl, rfl, rfl⟩
theorem amounts_rounds {l : List Lin} (hlen : l.length ≤ 1000) (b : Int) (r : ByteArray) (m : List (Acc × Bool)) : entry_Check.li1 (l, (l.length : Int), 0, b, r, l, m, l, []) = some (b, r, l, m, l, l.map (·.2)) := by
  have := rounds_map (t := entry_Check.ti1) l zL (fun y => y.2) (fun acc i => (l, (l.length : Int), ((i : Nat) : Int), b, r, l, m, l, acc)) (fun acc => (b, r, l, m, l, acc)) (fun i hi => by
    have hl : ((l.take i).map (fun y : Lin => y.2)).length ≤ 1000 := by simp; omega
    simp only [entry_Check.ti1, inb hi, cond_true, ge0' i, Bool.and_self, Int.toNat_natCast, dflt_line, List.length_cons, List.length_nil, Nat.zero_add, Bool.true_and,
      Nat.ble_eq_true_of_le (show (((l.take i).map (fun y : Lin => y.2)).length + 1) * 8 ≤ 140737488355328 by omega), Nat.ble_eq_true_of_le (show ((l.take i).map (fun y : Lin => y.2)).length + 1 ≤ 140737488355328 by omega), wrap_up (show i < 9223372036854775807 by omega)]) (fun acc _ => by simp only [entry_Check.ti1, outb, cond_false])
  exact this
def checkE (x : Ent) : Int := bif decide (x.1 < 0) || (decide (x.1 > 2147483647) || (!okRef x.2.1 || (decide (x.2.2.length < 2) || (decide (x.2.2.length > 8) || !okLines x.2.2)))) then 1 else
  bif fits (x.2.2.map (·.2)).sum then (bif (x.2.2.map (·.2)).sum == 0 then 0 else 12) else 2
theorem goodL.amounts {l : List Lin} (h : goodL l) : Amounts (l.map (·.2)) := by
  intro a ha
  obtain ⟨y, hy, rfl⟩ := List.mem_map.1 ha
  exact (h y hy).2.2
theorem check_is {x : Ent} (hg : goodL x.2.2) : entry_Check.f x = some (checkE x) := by
  obtain ⟨b, r, l⟩ := x
  have hg : goodL l := hg
  unfold entry_Check.f checkE
  simp only [ref_is, Option.bind_some]
  cases decide (b < 0)
  · cases decide (b > 2147483647)
    · cases okRef r
      · rfl
      · simp only [Bool.not_true, cond_false, Bool.false_or]
        by_cases h2 : l.length < 2
        · rw [decide_eq_true (show (l.length : Int) < 2 by omega), decide_eq_true h2]; rfl
        by_cases h8 : l.length > 8
        · rw [decide_eq_false (show ¬ (l.length : Int) < 2 by omega), decide_eq_true (show (l.length : Int) > 8 by omega), decide_eq_false h2, decide_eq_true h8]; rfl
        rw [decide_eq_false (show ¬ (l.length : Int) < 2 by omega), decide_eq_false (show ¬ (l.length : Int) > 8 by omega), decide_eq_false h2, decide_eq_false h8]
        obtain ⟨y, hy, hy2⟩ := lines_rounds hg (by omega) b r
        have hsum := money_Sum_is (l := l.map (·.2)) (by simp; omega) hg.amounts
        simp only [cond_false, hy, Option.bind_some, Bool.false_or]
        cases y with
        | inl y =>
          obtain ⟨h1, h2⟩ := hy2
          rw [h2]
          simp only [decide_eq_true (show y.1 ≥ 0 by omega), cond_true, Bool.not_false]
        | inr y =>
          obtain ⟨b', r', l', m⟩ := y
          obtain ⟨h1, rfl, rfl, rfl⟩ := hy2
          have h1 : okLines l' = true := h1
          have hl8 : l'.length ≤ 8 := by have : ¬ l'.length > 8 := h8; omega
          have har := amounts_rounds (l := l') (by omega) b' r' m
          simp only at har ⊢
          simp only [har, h1, Option.bind_some, Bool.not_true, cond_false]
          have fin : ((money_Sum.f (l'.map (·.2))).bind fun (x5 : Int × Int) => bif x5.2 != 0 then some x5.2 else bif x5.1 != 0 then some 12 else some (0 : Int)) = some (bif fits (l'.map (·.2)).sum then (bif (l'.map (·.2)).sum == 0 then 0 else 12) else 2) := by
            rw [hsum, Option.bind_some]
            unfold sumS
            cases fits (l'.map (·.2)).sum
            · rfl
            · simp only [cond_true, bne_self_eq_false, cond_false, bne]
              cases ((l'.map (·.2)).sum == 0) <;> rfl
          rw [← fin]
          cases l'.map (·.2) <;> rfl
    · rfl
  · rfl
end Go.Proofs.YtgipbdecogfgjaaGreatDoor
end
section
set_option linter.unusedVariables false
set_option maxRecDepth 100000
namespace Go.Proofs.YtgipbdecogfgjaaGreatDoor
open Go Go.Fw
abbrev entry_made.As : Shs := (.cons (.x T_api_Entry) .nil)
abbrev entry_made.m : Back := [(false, T_api_Entry), (false, (.i .i64))]
noncomputable abbrev entry_made.H : HK := hk P G0 E0 J0 [entry_Check.row] noLoops 4
theorem entry_made.rows : TabOK P G0 (tabF [entry_Check.row]) := rows_ok (ws := [entry_Check.row]) ⟨entry_Check.row_ok, trivial⟩
theorem entry_made.hok : HKOK P entry_made.H := hk_ok e0_ok j0_ok entry_made.rows (fun g n => noLoops_ok g n) 4
noncomputable def entry_made.f (a : (Int × (ByteArray × (List ((Int × ByteArray) × Int))))) : Option ((Int × (ByteArray × (List ((Int × ByteArray) × Int)))) × Int) := (((entry_Check.f a)).bind fun x1 => (bif (x1 != (0 : Int)) then (some (((0 : Int), ((bs []), [])), x1)) else (some (a, (0 : Int)))))
theorem entry_made.ok : ∀ a : Vals entry_made.As.tys, fnK P entry_made.H (lp []) 24 entry_made.As entry_made.m a some = entry_made.f a := fun a => by kernel_rfl
noncomputable abbrev entry_made.row : Row := fnRow 24 entry_made.As entry_made.m entry_made.f
theorem entry_made.row_ok : RowOK P G0 entry_made.row := row_told entry_made.hok (lp_of (l := []) trivial) (fun _ => rfl) entry_made.ok
abbrev entry_Move.As : Shs := (.cons (.x (.i .i64)) (.cons (.x .s) (.cons (.x T_api_Account) (.cons (.x T_api_Account) (.cons (.x (.i .i64)) .nil)))))
abbrev entry_Move.m : Back := [(false, T_api_Entry), (false, (.i .i64))]
noncomputable abbrev entry_Move.H : HK := hk P G0 E0 J0 [money_Sub.row, entry_made.row] noLoops 4
theorem entry_Move.rows : TabOK P G0 (tabF [money_Sub.row, entry_made.row]) := rows_ok (ws := [money_Sub.row, entry_made.row]) ⟨money_Sub.row_ok, ⟨entry_made.row_ok, trivial⟩⟩
theorem entry_Move.hok : HKOK P entry_Move.H := hk_ok e0_ok j0_ok entry_Move.rows (fun g n => noLoops_ok g n) 4
noncomputable def entry_Move.f (a : (Int × (ByteArray × ((Int × ByteArray) × ((Int × ByteArray) × Int))))) : Option ((Int × (ByteArray × (List ((Int × ByteArray) × Int)))) × Int) := (((money_Sub.f ((0 : Int), a.2.2.2.2))).bind fun x5 => (bif (x5.2 != (0 : Int)) then (some (((0 : Int), ((bs []), [])), x5.2)) else (((entry_made.f (a.1, (a.2.1, ((a.2.2.1, x5.1) :: (a.2.2.2 :: [])))))).bind fun x6 => (some x6))))
theorem entry_Move.ok : ∀ a : Vals entry_Move.As.tys, fnK P entry_Move.H (lp []) 10 entry_Move.As entry_Move.m a some = entry_Move.f a := fun a => by kernel_rfl
noncomputable abbrev entry_Move.row : Row := fnRow 10 entry_Move.As entry_Move.m entry_Move.f
theorem entry_Move.row_ok : RowOK P G0 entry_Move.row := row_told entry_Move.hok (lp_of (l := []) trivial) (fun _ => rfl) entry_Move.ok
end Go.Proofs.YtgipbdecogfgjaaGreatDoor
end
section
set_option linter.unusedVariables false
set_option linter.unusedSimpArgs false
namespace Go.Proofs.YtgipbdecogfgjaaGreatDoor
open Go Go.Fw
theorem made_is {x : Ent} (hg : goodL x.2.2) : entry_made.f x = some (bif checkE x == 0 then (x, 0) else ((0, bs [], []), checkE x)) := by
  unfold entry_made.f
  rw [check_is hg, Option.bind_some, bne]
  cases (checkE x == 0) <;> rfl
theorem goodL_two {k1 k2 : Int} {s1 s2 : ByteArray} {m n : Int} (hk1 : (Lit.int .i64 k1).wf = true) (hk2 : (Lit.int .i64 k2).wf = true) (hs1 : s1.size ≤ 20) (hs2 : s2.size ≤ 20) (hm : Am m) (hn : Am n) :
    goodL [((k1, s1), m), ((k2, s2), n)] := by
  intro y hy
  have hmax : (20 : Nat) ≤ maxLen := by decide
  rcases List.mem_cons.1 hy with rfl | hy
  · exact ⟨hk1, Nat.le_trans hs1 hmax, hm⟩
  · rcases List.mem_cons.1 hy with rfl | hy
    · exact ⟨hk2, Nat.le_trans hs2 hmax, hn⟩
    · cases hy
theorem cut_small {s : ByteArray} {n : Nat} : (s.extract 0 n).size ≤ n := by rw [ByteArray.size_extract]; omega
end Go.Proofs.YtgipbdecogfgjaaGreatDoor
end
section
namespace Go.Proofs
open Go.Shelf
def Tryz.lays283_ren : Go.Shelf.Ren := ⟨fun | 283 => 96 | n => n, fun | 3 => 3 | 9 => 9 | 4 => 4 | n => n, fun | n => n⟩
theorem Tryz.lays283 : Go.Proofs.Lays.n283 Tryz.prog Tryz.lays283_ren := {
  mixed := by kernel_rfl
  f283 := Tryz.func96.trans (congrArg some (by kernel_rfl))
  t3 := Tryz.underlying3
  a3 := Tryz.isAgg3
  z3 := Tryz.sizeOf3
  v3 := Tryz.zeroValue3
  t4 := Tryz.underlying4
  a4 := Tryz.isAgg4
  z4 := Tryz.sizeOf4
  v4 := Tryz.zeroValue4
  t9 := Tryz.underlying9
  a9 := Tryz.isAgg9
  z9 := Tryz.sizeOf9
  v9 := Tryz.zeroValue9 }
def Tryz.laysM284_ren : Go.Shelf.Ren := ⟨fun | 284 => 97 | 129 => 115 | 317 => 114 | 318 => 116 | n => n, fun | 53 => 92 | 3 => 3 | 212 => 175 | 0 => 0 | 4 => 4 | 46 => 101 | 5 => 5 | 9 => 9 | n => n, fun | 17 => 0 | n => n⟩
theorem Tryz.laysM284 : Go.Proofs.LaysM.n284 Tryz.prog Tryz.laysM284_ren := {
  mixed := by kernel_rfl
  f129 := Tryz.func115.trans (congrArg some (by kernel_rfl))
  f284 := Tryz.func97.trans (congrArg some (by kernel_rfl))
  f317 := Tryz.func114.trans (congrArg some (by kernel_rfl))
  f318 := Tryz.func116.trans (congrArg some (by kernel_rfl))
  t0 := Tryz.underlying0
  a0 := Tryz.isAgg0
  z0 := Tryz.sizeOf0
  v0 := Tryz.zeroValue0
  t3 := Tryz.underlying3
  a3 := Tryz.isAgg3
  z3 := Tryz.sizeOf3
  v3 := Tryz.zeroValue3
  t4 := Tryz.underlying4
  a4 := Tryz.isAgg4
  z4 := Tryz.sizeOf4
  v4 := Tryz.zeroValue4
  t5 := Tryz.underlying5
  a5 := Tryz.isAgg5
  z5 := Tryz.sizeOf5
  v5 := Tryz.zeroValue5
  t9 := Tryz.underlying9
  a9 := Tryz.isAgg9
  z9 := Tryz.sizeOf9
  v9 := Tryz.zeroValue9
  t46 := Tryz.underlying101
  a46 := Tryz.isAgg101
  z46 := Tryz.sizeOf101
  v46 := Tryz.zeroValue101
  t53 := Tryz.underlying92
  a53 := Tryz.isAgg92
  z53 := Tryz.sizeOf92
  v53 := Tryz.zeroValue92
  t212 := Tryz.underlying175
  a212 := Tryz.isAgg175
  z212 := Tryz.sizeOf175
  v212 := Tryz.zeroValue175
  g17 := by kernel_rfl
  i0 := by kernel_rfl
  i3 := by kernel_rfl
  i4 := by kernel_rfl
  i5 := by kernel_rfl
  i9 := by kernel_rfl
  i46 := by kernel_rfl
  i53 := by kernel_rfl
  i212 := by kernel_rfl
  m17 := by kernel_rfl }
def Tryz.lays285_ren : Go.Shelf.Ren := ⟨fun | 285 => 98 | n => n, fun | 37 => 123 | 53 => 92 | 3 => 3 | 4 => 4 | 51 => 155 | 9 => 9 | 5 => 5 | 0 => 0 | n => n, fun | n => n⟩
theorem Tryz.lays285 : Go.Proofs.Lays.n285 Tryz.prog Tryz.lays285_ren := {
  mixed := by kernel_rfl
  f285 := Tryz.func98.trans (congrArg some (by kernel_rfl))
  t0 := Tryz.underlying0
  a0 := Tryz.isAgg0
  z0 := Tryz.sizeOf0
  v0 := Tryz.zeroValue0
  t3 := Tryz.underlying3
  a3 := Tryz.isAgg3
  z3 := Tryz.sizeOf3
  v3 := Tryz.zeroValue3
  t4 := Tryz.underlying4
  a4 := Tryz.isAgg4
  z4 := Tryz.sizeOf4
  v4 := Tryz.zeroValue4
  t5 := Tryz.underlying5
  a5 := Tryz.isAgg5
  z5 := Tryz.sizeOf5
  v5 := Tryz.zeroValue5
  t9 := Tryz.underlying9
  a9 := Tryz.isAgg9
  z9 := Tryz.sizeOf9
  v9 := Tryz.zeroValue9
  t37 := Tryz.underlying123
  a37 := Tryz.isAgg123
  z37 := Tryz.sizeOf123
  v37 := Tryz.zeroValue123
  t51 := Tryz.underlying155
  a51 := Tryz.isAgg155
  z51 := Tryz.sizeOf155
  v51 := Tryz.zeroValue155
  t53 := Tryz.underlying92
  a53 := Tryz.isAgg92
  z53 := Tryz.sizeOf92
  v53 := Tryz.zeroValue92 }
end Go.Proofs
end
section
set_option linter.unusedVariables false
namespace Go.Proofs
open Go.Shelf Go.RowKit Go.Sort Go.Lib
theorem Tryz.holds_zero0 (w : World) (T : TypeId) (nd : Nat) (hs : nd ≤ 24) : Holds (fun (b : UInt8) => Value.int .u8 (b.toNat : Int)) (w.alloc (.cells zeros24 T)) w.heap.size 0 (Array.replicate nd (0 : UInt8)) := fun j hj => by
  have hj' : j < nd := by simpa using hj
  refine ⟨?_, World.frozen?_alloc_new _ _ _ _⟩
  rw [World.cell?_alloc_new, zeros24_at _ (by omega), getElem!_pos _ j hj]
  simp
theorem Tryz.fin0 (w : World) (o : Obj) (dk : Array UInt8) (k : Nat) : ∃ os, (putRow (fun (b : UInt8) => Value.int .u8 (b.toNat : Int)) (w.alloc o) w.heap.size 0 dk).drewN k = grow (w.drewN k) os := by
  rw [alloc_eq_grow]
  obtain ⟨os', _, e⟩ := putRow_grow_new (fun (b : UInt8) => Value.int .u8 (b.toNat : Int)) w #[o] w.heap.size 0 dk (Nat.le_refl _)
  exact ⟨os', by rw [e]; rfl⟩
set_option maxHeartbeats 6400000 in
set_option maxRecDepth 100000 in
theorem Tryz.fmtUint_in (u : Nat) (hu64 : u < 18446744073709551616) (w : World) (htab : Lib.TabIs Tryz.prog w "internal/strconv.uint64pow10" .u64 Lib.pow10Tab) :
    Calls Tryz.prog 79 #[.int .u64 u, .int .i64 10] w fun e w' => e = .returned (.string ⟨(Lib.decDigits u).toArray⟩) ∧ ∃ k os, w' = grow (w.drewN k) os := by
  by_cases hs : u < 100
  · go_enter Tryz.func79, Tryz.ntmps79
    go_wp2_with (go_at_call 96; refine (Any.internal_strconv_small Tryz.lays283 u hs _).mono ?_; rintro e w' ⟨rfl, rfl⟩)
    go_ret
    exact ⟨rfl, 0, #[], by simp [World.drewN_zero]⟩
  · have hu1 : 1 ≤ u := by omega
    have hnd20 : Lib.nDigits u ≤ 20 := by have := Lib.numDigits_eq u hu1 hu64; split at this <;> omega
    have hb3 : Lib.nDigits u ≤ 24 := by omega
    have hal : Tryz.prog.arrayLen 150 = 24 := by kernel_rfl
    have hsl1 : ∀ W, (Instr.sliceAt 150 (.pointer (some ⟨w.heap.size, 0, none⟩)) none (some (.int .i64 (Lib.nDigits u : Int))) none).run Tryz.prog W = .ok (.slice (some ⟨w.heap.size, 0, none⟩) (Lib.nDigits u) 24) W := fun W => by
      rw [run_sliceAt_array_h W 150 ⟨w.heap.size, 0, none⟩ (by simp [Program.arrayLen, Program.elem, Tryz.underlying150]) .i64 (Lib.nDigits u : Int) (by omega) (by rw [hal]; omega)]
      go_simp
    have hH0 := Tryz.holds_zero0 w 150 (Lib.nDigits u) (by omega)
    have hfmt := Any.internal_strconv_formatBase10 Tryz.lays285 w.heap.size 0 24 u (Array.replicate (Lib.nDigits u) 0) (w.alloc (.cells Lib.zeros24 150)) hH0 (by rw [Array.size_replicate]; exact Lib.lt_pow_nDigits u) hu64 (by rw [Array.size_replicate]; omega)
    rw [Array.size_replicate] at hfmt
    have HH0 := Lib.hid hH0
    clear hH0 hal
    go_enter Tryz.func79, Tryz.ntmps79
    go_wp2_with (first
      | (go_at_call 97; refine (Any.internal_strconv_numDigits Tryz.laysM284 u hu1 hu64 _ (Lib.tabIs_alloc htab _)).mono ?_; rintro e w' ⟨rfl, rfl⟩))
    go_at_call 98
    refine hfmt.mono ?_
    rintro e w' ⟨rfl, k, v', dk, rfl, hF⟩
    have hcv : (convert 123 9 (.slice (some ⟨w.heap.size, 0, none⟩) (Lib.nDigits u) 24)).run Tryz.prog ((putRow (fun (b : UInt8) => Value.int .u8 (b.toNat : Int)) (w.alloc (.cells Lib.zeros24 150)) w.heap.size 0 dk).drewN k) = .ok (.string ⟨(Lib.decDigits u).toArray⟩) ((putRow (fun (b : UInt8) => Value.int .u8 (b.toNat : Int)) (w.alloc (.cells Lib.zeros24 150)) w.heap.size 0 dk).drewN k) := by
      have h := run_convert_bytes_back (P := Tryz.prog) ((putRow (fun (b : UInt8) => Value.int .u8 (b.toNat : Int)) (w.alloc (.cells Lib.zeros24 150)) w.heap.size 0 dk).drewN k) 123 9 5 ⟨w.heap.size, 0, none⟩ 24 (Lib.decDigits u) Tryz.underlying123 Tryz.underlying5 Tryz.underlying9 (fun j hj => by
        rw [Lib.row_is_numeral hF j hj, Lib.add_plain, World.cell?_drewN]
        exact cell?_putRow (fun (b : UInt8) => Value.int .u8 (b.toNat : Int)) _ w.heap.size 0 _ dk HH0.out (by rw [hF.size, Array.size_replicate]) j (by rw [hF.size]; rw [Lib.decDigits_length] at hj; exact hj))
      rw [Lib.decDigits_length] at h
      exact h
    go_wp2
    go_ret
    obtain ⟨os, eo⟩ := Tryz.fin0 w (.cells Lib.zeros24 150) dk k
    exact ⟨rfl, k, os, eo⟩
set_option maxRecDepth 100000 in
theorem Tryz.fmtUint (u : Nat) (hu64 : u < 18446744073709551616) (w : World) (htab : Lib.TabIs Tryz.prog w "internal/strconv.uint64pow10" .u64 Lib.pow10Tab) :
    Calls Tryz.prog 66 #[.int .u64 u, .int .i64 10] w fun e w' => e = .returned (.string ⟨(Lib.decDigits u).toArray⟩) ∧ ∃ k os, w' = grow (w.drewN k) os := by
  go_enter Tryz.func66, Tryz.ntmps66
  go_wp2_with (go_at_call 79; refine (Tryz.fmtUint_in u hu64 _ htab).mono ?_; rintro e w' ⟨rfl, k, os, rfl⟩)
  go_ret
  exact ⟨rfl, k, os, rfl⟩
end Go.Proofs
end
section
set_option linter.unusedVariables false
namespace Go.Proofs.YtgipbdecogfgjaaGreatDoor
open Go Go.Fw Go.RowKit
theorem grow_below (w : World) (k : Nat) (os : Array Obj) : Below w.heap.size w (Sort.grow (w.drewN k) os) := by
  have h : Below w.heap.size w (w.drewN k) := by
    induction k with
    | zero => rw [World.drewN_zero]; exact .refl _ _
    | succ k ih => exact ⟨rfl, rfl, rfl, Nat.le_refl _, fun _ _ => rfl⟩
  exact h.trans ⟨rfl, rfl, rfl, by simp [Sort.grow], fun i hi => by
    show ((w.drewN k).heap ++ os)[i]? = _
    rw [Array.getElem?_append, if_pos (Nat.lt_of_lt_of_le hi h.size)]⟩
theorem ent_of {g : FuncId} {fn : Func} (h : P.funcs[g]? = some fn) (hn : (fn.name == "runtime.NumGoroutine") = false) (hb : fn.body.isNone = false) : Fw.Enters P g := ⟨fn, h, hn, hb⟩
theorem pcall_belowI {G : Nat → Option (List D)} {g : FuncId} {ds : List D} {r : D}
    (h : ∀ (w : World) (I K : Mem) (vs : Array Value), Glob ⟨w, I, K, fun _ => 0, fun _ => 0, G⟩ → (∀ b, I b → b < w.heap.size) → (∀ b, K b → b < w.heap.size) → vs.size = ds.length → (∀ (j : Nat) (d : D), ds[j]? = some d → RelD w I d (vs.getD j undef)) →
      Calls P g vs w fun e w' => ∃ v, e = .returned v ∧ Below w.heap.size w w' ∧ RelX w' I K r v) : PCall P G g ds r := by
  intro w I K vs hg hI hK hd hsz hargs
  refine (h w I K vs hg hI hK hsz hargs).mono ?_
  rintro e w' ⟨v, rfl, hb, hx⟩
  refine ⟨v, I, rfl, hb.size, fun b hb' => ⟨hb', hb.block b (hI b hb')⟩, fun b hb' => hb.block b (hK b hb'), fun b hb' => ⟨Nat.lt_of_lt_of_le (hI b hb') hb.size, hd b hb'⟩, fun b cs e fz hc => ⟨cs, ?_, rfl⟩, hb.os, hb.tape, hb.output, hx⟩
  rw [hb.block b (Array.getElem?_eq_some_iff.1 hc).1]
  exact hc
theorem alloc_below (w : World) (o : Obj) : Below w.heap.size w (w.alloc o) := ⟨rfl, rfl, rfl, by show w.heap.size ≤ (w.heap.push _).size; simp, fun i hi => by
  show (w.heap.push o)[i]? = _
  rw [Array.getElem?_push, if_neg (by omega)]⟩
theorem frOK_alloc {w : World} {I K : Mem} {xs : List D} {vs : List Value} {t : TypeId} (hI : ∀ b, I b → b < w.heap.size) (hK : ∀ b, K b → b < w.heap.size) (hl : xs.length = vs.length) (hw : ∀ x ∈ xs, x.cells = [x]) (h1 : ∀ v ∈ vs, v.oneCell' = true)
    (h : ∀ (j : Nat) (d : D), xs[j]? = some d → RelD (w.alloc (.cells vs.toArray t)) I d (vs.toArray.getD j undef)) : FrOK (w.alloc (.cells vs.toArray t)) I K 1 xs (.slice (some ⟨w.heap.size, 0, none⟩) xs.length xs.length) := by
  have hh : (w.alloc (.cells vs.toArray t)).heap[w.heap.size]? = some (.cells vs.toArray t) := by
    show (w.heap.push _)[w.heap.size]? = _
    rw [Array.getElem?_push, if_pos rfl]
  refine ⟨_, _, rfl, Nat.le_refl _, rfl, .inl rfl, fun hb => Nat.lt_irrefl _ (hI _ hb), fun hb => Nat.lt_irrefl _ (hK _ hb), ⟨rfl, vs.toArray, t, _, hh, fun o _ ho => by omega, fun x hx => by simp [D.width, hw x hx], by omega, by simp [hl], fun j hj => ?_, fun j k x d hx hd => ?_⟩, _, _, _, hh, by simp [hl], by simp⟩
  · have hj' : j < vs.length := by omega
    rw [Array.getD_eq_getD_getElem?]
    simp only [List.getElem?_toArray, List.getElem?_eq_getElem hj', Option.getD_some]
    exact h1 _ (List.getElem_mem hj')
  · have hm : x ∈ xs := List.mem_of_getElem? hx
    rw [hw x hm] at hd
    cases k with
    | zero =>
      simp only [List.getElem?_cons_zero, Option.some.injEq] at hd
      subst hd
      have := h j x hx
      rw [show j * 1 + 0 = j by omega]
      exact this
    | succ k => simp at hd
end Go.Proofs.YtgipbdecogfgjaaGreatDoor
end
section
set_option linter.unusedVariables false
namespace Go.Proofs.YtgipbdecogfgjaaGreatDoor
open Go Go.Fw Go.RowKit
abbrev strconv_FormatUint.As : Shs := .cons (.x (.i .u64)) (.cons (.x (.i .i64)) .nil)
abbrev strconv_FormatUint.m : Back := [(false, .s)]
abbrev strconv_FormatUint.f (a : (Int × Int)) : Option ByteArray := fmtU a
noncomputable abbrev strconv_FormatUint.row : Row := fnRow 66 strconv_FormatUint.As strconv_FormatUint.m strconv_FormatUint.f
theorem strconv_FormatUint.row_ok : RowOK P G0 strconv_FormatUint.row := by
  have key : ∀ (ds : List D) (a : Int × Int) (q : ByteArray), decArgs strconv_FormatUint.As ds = some a → strconv_FormatUint.f a = some q → Fw.Enters P 66 ∧ PCall P G0 66 ds (.s q) := by
    intro ds a q ha hq
    refine ⟨ent_of Tryz.func66 (by kernel_rfl) (by kernel_rfl), ?_⟩
    have hds := (decArgs_argD ha).symm
    refine PCall.coe (ds' := argD strconv_FormatUint.As a) ?_ (by rw [← hds]; exact coeA_len) fun w I f hf => by rw [← hds]; exact coeA_rel hf
    refine pcall_below fun w I K vs hg hsz hr => ?_
    have h0 := hr 0 (.i .u64 a.1) rfl
    have h1 := hr 1 (.i .i64 a.2) rfl
    have hvs : vs = #[.int .u64 a.1, .int .i64 a.2] := by
      have hs : vs.size = 2 := hsz
      rw [Array.getD_eq_getD_getElem?, Array.getElem?_eq_getElem (by omega)] at h0 h1
      simp only [Option.getD_some] at h0 h1
      refine Array.ext (by simpa using hs) fun i hi hi' => ?_
      match i, hi with
      | 0, _ => cases h : vs[0] <;> rw [h] at h0 <;> cases h0; rfl
      | 1, _ => cases h : vs[1] <;> rw [h] at h1 <;> cases h1; rfl
      | i + 2, hi => omega
    subst hvs
    unfold strconv_FormatUint.f fmtU at hq
    obtain ⟨hb, hq⟩ := cond_some hq
    simp only [Bool.and_eq_true, decide_eq_true_eq] at hb
    obtain ⟨⟨h2, h3⟩, h4⟩ := hb
    injection hq with hq
    subst hq
    obtain ⟨u, hu⟩ : ∃ u : Nat, a.1 = u := ⟨a.1.toNat, by omega⟩
    rw [hu, h4]
    refine (Tryz.fmtUint u (by omega) w (tab_of_glob hg (g := 0) (by kernel_rfl) rfl)).mono ?_
    rintro e w' ⟨rfl, k, os, rfl⟩
    refine ⟨_, rfl, grow_below w k os, ?_⟩
    rw [decF_is 19 _ (by omega)]
    exact RelD.s _
  exact fun ds a q => key ds a q
end Go.Proofs.YtgipbdecogfgjaaGreatDoor
end
section
set_option linter.unusedVariables false
set_option linter.unusedSimpArgs false
namespace Go.Proofs.YtgipbdecogfgjaaGreatDoor
open Go Go.Fw
def body (n : Nat) : List UInt8 := decP 19 (n / 1000) ++ [dgt (n / 100 % 10), 46, dgt (n / 10 % 10), dgt (n % 10)]
end Go.Proofs.YtgipbdecogfgjaaGreatDoor
end
section
set_option linter.unusedVariables false
set_option maxRecDepth 100000
namespace Go.Proofs.YtgipbdecogfgjaaGreatDoor
open Go Go.Fw
abbrev trade_pan.As : Shs := (.cons (.x .s) .nil)
abbrev trade_pan.m : Back := [(false, .b)]
noncomputable abbrev trade_pan.H : HK := hk P G0 E0 J0 [chart_May.row] noLoops 4
theorem trade_pan.rows : TabOK P G0 (tabF [chart_May.row]) := rows_ok (ws := [chart_May.row]) ⟨chart_May.row_ok, trivial⟩
theorem trade_pan.hok : HKOK P trade_pan.H := hk_ok e0_ok j0_ok trade_pan.rows (fun g n => noLoops_ok g n) 4
noncomputable def trade_pan.f (a : ByteArray) : Option Bool := (((chart_May.f ((1 : Int), a))).bind fun x1 => (some x1))
theorem trade_pan.ok : ∀ a : Vals trade_pan.As.tys, fnK P trade_pan.H (lp []) 11 trade_pan.As trade_pan.m a some = trade_pan.f a := fun a => by kernel_rfl
noncomputable abbrev trade_pan.row : Row := fnRow 11 trade_pan.As trade_pan.m trade_pan.f
theorem trade_pan.row_ok : RowOK P G0 trade_pan.row := row_told trade_pan.hok (lp_of (l := []) trivial) (fun _ => rfl) trade_pan.ok
abbrev trade_acq.As : Shs := (.cons (.x .s) .nil)
abbrev trade_acq.m : Back := [(false, .b)]
noncomputable abbrev trade_acq.H : HK := hk P G0 E0 J0 [chart_May.row] noLoops 4
theorem trade_acq.rows : TabOK P G0 (tabF [chart_May.row]) := rows_ok (ws := [chart_May.row]) ⟨chart_May.row_ok, trivial⟩
theorem trade_acq.hok : HKOK P trade_acq.H := hk_ok e0_ok j0_ok trade_acq.rows (fun g n => noLoops_ok g n) 4
noncomputable def trade_acq.f (a : ByteArray) : Option Bool := (((chart_May.f ((2 : Int), a))).bind fun x1 => (some x1))
theorem trade_acq.ok : ∀ a : Vals trade_acq.As.tys, fnK P trade_acq.H (lp []) 12 trade_acq.As trade_acq.m a some = trade_acq.f a := fun a => by kernel_rfl
noncomputable abbrev trade_acq.row : Row := fnRow 12 trade_acq.As trade_acq.m trade_acq.f
theorem trade_acq.row_ok : RowOK P G0 trade_acq.row := row_told trade_acq.hok (lp_of (l := []) trivial) (fun _ => rfl) trade_acq.ok
abbrev trade_May.As : Shs := (.cons (.x T_api_Post) .nil)
abbrev trade_May.m : Back := [(false, .b)]
noncomputable abbrev trade_May.H : HK := hk P G0 E0 J0 [trade_pan.row, trade_acq.row, hold_Ref.row] noLoops 4
theorem trade_May.rows : TabOK P G0 (tabF [trade_pan.row, trade_acq.row, hold_Ref.row]) := rows_ok (ws := [trade_pan.row, trade_acq.row, hold_Ref.row]) ⟨trade_pan.row_ok, ⟨trade_acq.row_ok, ⟨hold_Ref.row_ok, trivial⟩⟩⟩
theorem trade_May.hok : HKOK P trade_May.H := hk_ok e0_ok j0_ok trade_May.rows (fun g n => noLoops_ok g n) 4
noncomputable def trade_May.f (a : (Int × (Int × (ByteArray × (ByteArray × (ByteArray × Int)))))) : Option Bool := (bif (decide ((a.2.1 < (0 : Int)))) then (some false) else (bif (decide ((a.2.1 > (2147483647 : Int)))) then (some false) else (bif (decide ((a.2.2.2.2.2 < (1 : Int)))) then (some false) else (bif (decide ((a.2.2.2.2.2 > (9999999999999 : Int)))) then (some false) else (bif (a.1 == (1 : Int)) then (((trade_pan.f a.2.2.1)).bind fun x1 => (bif x1 then (bif ((ByteArray.toList a.2.2.2.1) == []) then (some ((ByteArray.toList a.2.2.2.2.1) == [])) else (some false)) else (some false))) else (bif (a.1 == (2 : Int)) then (bif (a.1 == (2 : Int)) then (((trade_pan.f a.2.2.1)).bind fun x1 => (bif x1 then (((trade_acq.f a.2.2.2.1)).bind fun x2 => (bif x2 then (((hold_Ref.f a.2.2.2.2.1)).bind fun x3 => (some x3)) else (some false))) else (some false))) else (bif (a.1 == (5 : Int)) then (bif (a.1 == (5 : Int)) then (bif ((ByteArray.toList a.2.2.1) == []) then (((trade_acq.f a.2.2.2.1)).bind fun x1 => (bif x1 then (some ((ByteArray.toList a.2.2.2.2.1) == [])) else (some false))) else (some false)) else (some false)) else (bif (a.1 == (6 : Int)) then (bif ((ByteArray.toList a.2.2.1) == []) then (((trade_acq.f a.2.2.2.1)).bind fun x1 => (bif x1 then (some ((ByteArray.toList a.2.2.2.2.1) == [])) else (some false))) else (some false)) else (some false)))) else (bif (a.1 == (3 : Int)) then (bif (a.1 == (3 : Int)) then (((trade_pan.f a.2.2.1)).bind fun x1 => (bif x1 then (((trade_acq.f a.2.2.2.1)).bind fun x2 => (bif x2 then (((hold_Ref.f a.2.2.2.2.1)).bind fun x3 => (some x3)) else (some false))) else (some false))) else (bif (a.1 == (5 : Int)) then (bif (a.1 == (5 : Int)) then (bif ((ByteArray.toList a.2.2.1) == []) then (((trade_acq.f a.2.2.2.1)).bind fun x1 => (bif x1 then (some ((ByteArray.toList a.2.2.2.2.1) == [])) else (some false))) else (some false)) else (some false)) else (bif (a.1 == (6 : Int)) then (bif ((ByteArray.toList a.2.2.1) == []) then (((trade_acq.f a.2.2.2.1)).bind fun x1 => (bif x1 then (some ((ByteArray.toList a.2.2.2.2.1) == [])) else (some false))) else (some false)) else (some false)))) else (bif (a.1 == (4 : Int)) then (((trade_pan.f a.2.2.1)).bind fun x1 => (bif x1 then (((trade_acq.f a.2.2.2.1)).bind fun x2 => (bif x2 then (((hold_Ref.f a.2.2.2.2.1)).bind fun x3 => (some x3)) else (some false))) else (some false))) else (bif (a.1 == (5 : Int)) then (bif (a.1 == (5 : Int)) then (bif ((ByteArray.toList a.2.2.1) == []) then (((trade_acq.f a.2.2.2.1)).bind fun x1 => (bif x1 then (some ((ByteArray.toList a.2.2.2.2.1) == [])) else (some false))) else (some false)) else (some false)) else (bif (a.1 == (6 : Int)) then (bif ((ByteArray.toList a.2.2.1) == []) then (((trade_acq.f a.2.2.2.1)).bind fun x1 => (bif x1 then (some ((ByteArray.toList a.2.2.2.2.1) == [])) else (some false))) else (some false)) else (some false)))))))))))
theorem trade_May.ok : ∀ a : Vals trade_May.As.tys, fnK P trade_May.H (lp []) 6 trade_May.As trade_May.m a some = trade_May.f a := fun a => by kernel_rfl
noncomputable abbrev trade_May.row : Row := fnRow 6 trade_May.As trade_May.m trade_May.f
theorem trade_May.row_ok : RowOK P G0 trade_May.row := row_told trade_May.hok (lp_of (l := []) trivial) (fun _ => rfl) trade_May.ok
abbrev trade_Entry.As : Shs := (.cons (.x T_api_Post) .nil)
abbrev trade_Entry.m : Back := [(false, T_api_Entry), (false, (.i .i64))]
noncomputable abbrev trade_Entry.H : HK := hk P G0 E0 J0 [trade_May.row, entry_Move.row] noLoops 4
theorem trade_Entry.rows : TabOK P G0 (tabF [trade_May.row, entry_Move.row]) := rows_ok (ws := [trade_May.row, entry_Move.row]) ⟨trade_May.row_ok, ⟨entry_Move.row_ok, trivial⟩⟩
theorem trade_Entry.hok : HKOK P trade_Entry.H := hk_ok e0_ok j0_ok trade_Entry.rows (fun g n => noLoops_ok g n) 4
noncomputable def trade_Entry.f (a : (Int × (Int × (ByteArray × (ByteArray × (ByteArray × Int)))))) : Option ((Int × (ByteArray × (List ((Int × ByteArray) × Int)))) × Int) := (((trade_May.f a)).bind fun x1 => (bif (!x1) then (some (((0 : Int), ((bs []), [])), (1 : Int))) else (bif (a.1 == (1 : Int)) then (((entry_Move.f (a.2.1, (a.2.2.2.2.1, (((3 : Int), (bs [])), (((1 : Int), a.2.2.1), a.2.2.2.2.2)))))).bind fun x2 => (some x2)) else (bif (a.1 == (3 : Int)) then (((entry_Move.f (a.2.1, (a.2.2.2.2.1, (((2 : Int), a.2.2.2.1), (((1 : Int), a.2.2.1), a.2.2.2.2.2)))))).bind fun x2 => (some x2)) else (bif (a.1 == (5 : Int)) then (((entry_Move.f (a.2.1, (a.2.2.2.2.1, (((2 : Int), a.2.2.2.1), (((3 : Int), (bs [])), a.2.2.2.2.2)))))).bind fun x2 => (some x2)) else (bif (a.1 == (6 : Int)) then (((entry_Move.f (a.2.1, (a.2.2.2.2.1, (((3 : Int), (bs [])), (((2 : Int), a.2.2.2.1), a.2.2.2.2.2)))))).bind fun x2 => (some x2)) else (((entry_Move.f (a.2.1, (a.2.2.2.2.1, (((1 : Int), a.2.2.1), (((2 : Int), a.2.2.2.1), a.2.2.2.2.2)))))).bind fun x2 => (some x2))))))))
theorem trade_Entry.ok : ∀ a : Vals trade_Entry.As.tys, fnK P trade_Entry.H (lp []) 5 trade_Entry.As trade_Entry.m a some = trade_Entry.f a := fun a => by kernel_rfl
noncomputable abbrev trade_Entry.row : Row := fnRow 5 trade_Entry.As trade_Entry.m trade_Entry.f
theorem trade_Entry.row_ok : RowOK P G0 trade_Entry.row := row_told trade_Entry.hok (lp_of (l := []) trivial) (fun _ => rfl) trade_Entry.ok
end Go.Proofs.YtgipbdecogfgjaaGreatDoor
end
section
set_option linter.unusedVariables false
set_option linter.unusedSimpArgs false
namespace Go.Proofs.YtgipbdecogfgjaaGreatDoor
open Go Go.Fw
abbrev Po := Int × (Int × (ByteArray × (ByteArray × (ByteArray × Int))))
def okNum (p : Po) : Bool := decide (0 ≤ p.2.1) && (decide (p.2.1 ≤ 2147483647) && (decide (1 ≤ p.2.2.2.2.2) && decide (p.2.2.2.2.2 ≤ 9999999999999)))
def mayK (p : Po) : Bool := bif p.1 == 1 then cardB p.2.2.1 && (decide (p.2.2.2.1 = bs []) && decide (p.2.2.2.2.1 = bs []))
  else bif p.1 == 5 || p.1 == 6 then decide (p.2.2.1 = bs []) && (acqB p.2.2.2.1 && decide (p.2.2.2.2.1 = bs []))
  else bif decide (2 ≤ p.1) && decide (p.1 ≤ 4) then cardB p.2.2.1 && (acqB p.2.2.2.1 && refB p.2.2.2.2.1) else false
def mayP (p : Po) : Bool := okNum p && mayK p
theorem tpan_is (s : ByteArray) : trade_pan.f s = some (cardB s) := by
  unfold trade_pan.f
  rw [card_is, Option.bind_some]
theorem tacq_is (s : ByteArray) : trade_acq.f s = some (acqB s) := by
  unfold trade_acq.f
  rw [acq_is, Option.bind_some]
theorem okNum_no {k b : Int} {x y z : ByteArray} {n : Int} : (b < 0 → okNum (k, b, x, y, z, n) = false) ∧ (b > 2147483647 → okNum (k, b, x, y, z, n) = false) ∧ (n < 1 → okNum (k, b, x, y, z, n) = false) ∧ (n > 9999999999999 → okNum (k, b, x, y, z, n) = false) := by
  unfold okNum
  refine ⟨fun h => ?_, fun h => ?_, fun h => ?_, fun h => ?_⟩
  · rw [decide_eq_false (show ¬ (0 : Int) ≤ b by omega)]; rfl
  · rw [decide_eq_false (show ¬ b ≤ (2147483647 : Int) by omega)]; simp
  · rw [decide_eq_false (show ¬ (1 : Int) ≤ n by omega)]; simp
  · rw [decide_eq_false (show ¬ n ≤ (9999999999999 : Int) by omega)]; simp
theorem tradeMay_is {p : Po} (hr : p.2.2.2.2.1.size ≤ 4611686018427387904) : trade_May.f p = some (mayP p) := by
  obtain ⟨k, b, x, y, z, n⟩ := p
  obtain ⟨n1, n2, n3, n4⟩ := okNum_no (k := k) (b := b) (x := x) (y := y) (z := z) (n := n)
  unfold trade_May.f mayP
  simp only
  by_cases h1 : b < 0
  · simp only [decide_eq_true h1, cond_true, n1 h1, Bool.false_and]
  by_cases h2 : b > 2147483647
  · simp only [decide_eq_false h1, decide_eq_true h2, cond_true, cond_false, n2 h2, Bool.false_and]
  by_cases h3 : n < 1
  · simp only [decide_eq_false h1, decide_eq_false h2, decide_eq_true h3, cond_true, cond_false, n3 h3, Bool.false_and]
  by_cases h4 : n > 9999999999999
  · simp only [decide_eq_false h1, decide_eq_false h2, decide_eq_false h3, decide_eq_true h4, cond_true, cond_false, n4 h4, Bool.false_and]
  have hn : okNum (k, b, x, y, z, n) = true := by
    unfold okNum
    simp only [Bool.and_eq_true, decide_eq_true_eq]
    omega
  have hr' : hold_Ref.f z = some (refB z) := hold_Ref_is z hr
  simp only [decide_eq_false h1, decide_eq_false h2, decide_eq_false h3, decide_eq_false h4, cond_false, hn, Bool.true_and, tpan_is, tacq_is, hr', Option.bind_some, texts_nil]
  unfold mayK
  simp only
  by_cases k1 : k = 1
  · subst k1; cases cardB x <;> cases decide (y = bs []) <;> rfl
  by_cases k2 : k = 2
  · subst k2; cases cardB x <;> cases acqB y <;> cases refB z <;> rfl
  by_cases k3 : k = 3
  · subst k3; cases cardB x <;> cases acqB y <;> cases refB z <;> rfl
  by_cases k4 : k = 4
  · subst k4; cases cardB x <;> cases acqB y <;> cases refB z <;> rfl
  by_cases k5 : k = 5
  · subst k5; cases decide (x = bs []) <;> cases acqB y <;> rfl
  by_cases k6 : k = 6
  · subst k6; cases decide (x = bs []) <;> cases acqB y <;> rfl
  have e1 : (k == 1) = false := by simpa using k1
  have e2 : (k == 2) = false := by simpa using k2
  have e3 : (k == 3) = false := by simpa using k3
  have e4 : (k == 4) = false := by simpa using k4
  have e5 : (k == 5) = false := by simpa using k5
  have e6 : (k == 6) = false := by simpa using k6
  have e7 : (decide (2 ≤ k) && decide (k ≤ 4)) = false := by
    simp only [Bool.and_eq_false_iff, decide_eq_false_iff_not]; omega
  simp only [e1, e2, e3, e4, e5, e6, e7, cond_false, Bool.or_false]
end Go.Proofs.YtgipbdecogfgjaaGreatDoor
end
section
set_option linter.unusedVariables false
set_option linter.unusedSimpArgs false
namespace Go.Proofs.YtgipbdecogfgjaaGreatDoor
open Go Go.Fw
theorem move_is {b : Int} {r : ByteArray} {k1 k2 n : Int} {s1 s2 : ByteArray} (hk1 : (Lit.int .i64 k1).wf = true) (hk2 : (Lit.int .i64 k2).wf = true) (hs1 : s1.size ≤ 20) (hs2 : s2.size ≤ 20) (hn : Am n) (hm : Am (0 - n)) :
    entry_Move.f (b, r, (k1, s1), (k2, s2), n) = some (bif checkE (b, r, [((k1, s1), 0 - n), ((k2, s2), n)]) == 0 then ((b, r, [((k1, s1), 0 - n), ((k2, s2), n)]), 0) else ((0, bs [], []), checkE (b, r, [((k1, s1), 0 - n), ((k2, s2), n)]))) := by
  have hg := goodL_two hk1 hk2 hs1 hs2 hm hn
  have hsub := money_Sub_is (a := 0) (b := n) (by unfold Am; omega) hn
  unfold entry_Move.f
  simp only [hsub, sumS_of hm, Option.bind_some, bne_self_eq_false, cond_false, made_is (x := (b, r, [((k1, s1), 0 - n), ((k2, s2), n)])) hg]
theorem checkE_pair {b : Int} {r : ByteArray} {f t : Acc} {n : Int} (hb : 0 ≤ b ∧ b ≤ 2147483647) (hr : okRef r = true) (hne : f ≠ t) (hf : maySB f = true) (ht : maySB t = true) (hn : 1 ≤ n ∧ n ≤ 9999999999999) :
    checkE (b, r, [(f, 0 - n), (t, n)]) = 0 := by
  have e1 : ((0 - n) == 0) = false := by simp; omega
  have e2 : (n == 0) = false := by simp; omega
  have hl : okLines [(f, 0 - n), (t, n)] = true := by
    show ((okLine [(f, 0 - n), (t, n)] 0) && ((okLine [(f, 0 - n), (t, n)] 1) && true)) = true
    have h0 : okLine [(f, 0 - n), (t, n)] 0 = true := by
      show (!false && (!((0 - n) == 0) && maySB f)) = true
      rw [e1, hf]; rfl
    have h1 : okLine [(f, 0 - n), (t, n)] 1 = true := by
      show (!(decide (f = t) || false) && (!(n == 0) && maySB t)) = true
      rw [e2, ht, decide_eq_false hne]; rfl
    rw [h0, h1]; rfl
  have hs : (List.map (fun y : Lin => y.2) [(f, 0 - n), (t, n)]).sum = 0 := by
    show (0 - n) + (n + 0) = 0
    omega
  unfold checkE
  simp only [decide_eq_false (show ¬ b < 0 by omega), decide_eq_false (show ¬ b > 2147483647 by omega), hr, hl, hs]
  rfl
theorem okRef_ref {s : ByteArray} (h : refB s = true) : okRef s = true := by
  unfold refB at h
  simp only [Bool.and_eq_true, beq_iff_eq] at h
  obtain ⟨h1, h2⟩ := h
  unfold okRef
  rw [decide_eq_true (show s.size ≤ 20 by omega), Bool.true_and, List.all_eq_true]
  intro c hc
  obtain ⟨i, hi, rfl⟩ := List.getElem_of_mem hc
  have h3 := List.all_eq_true.1 h2 i (List.mem_range.2 hi)
  unfold refC bt at h3
  rw [getD_at hi] at h3
  simp only [Bool.or_eq_true, Bool.and_eq_true, decide_eq_true_eq] at h3 ⊢
  omega
theorem okRef_none : okRef (bs []) = true := by decide +kernel
def sidesP (p : Po) : Acc × Acc := bif p.1 == 1 then ((3, bs []), (1, p.2.2.1)) else bif p.1 == 3 then ((2, p.2.2.2.1), (1, p.2.2.1)) else
  bif p.1 == 5 then ((2, p.2.2.2.1), (3, bs [])) else bif p.1 == 6 then ((3, bs []), (2, p.2.2.2.1)) else ((1, p.2.2.1), (2, p.2.2.2.1))
def entP (p : Po) : Ent := (p.2.1, p.2.2.2.2.1, [((sidesP p).1, 0 - p.2.2.2.2.2), ((sidesP p).2, p.2.2.2.2.2)])
theorem mayP_kind {p : Po} (h : mayP p = true) : p.1 = 1 ∨ p.1 = 2 ∨ p.1 = 3 ∨ p.1 = 4 ∨ p.1 = 5 ∨ p.1 = 6 := by
  unfold mayP mayK at h
  simp only [Bool.and_eq_true] at h
  have h := h.2
  by_cases k1 : p.1 = 1
  · exact .inl k1
  have e1 : (p.1 == 1) = false := by simpa using k1
  rw [e1, cond_false] at h
  by_cases k5 : p.1 = 5
  · omega
  by_cases k6 : p.1 = 6
  · omega
  have e5 : (p.1 == 5) = false := by simpa using k5
  have e6 : (p.1 == 6) = false := by simpa using k6
  rw [e5, e6, Bool.or_self, cond_false] at h
  cases hk : (decide (2 ≤ p.1) && decide (p.1 ≤ 4))
  · rw [hk] at h; cases h
  · simp only [Bool.and_eq_true, decide_eq_true_eq] at hk; omega
theorem mayP_num {p : Po} (h : mayP p = true) : (0 ≤ p.2.1 ∧ p.2.1 ≤ 2147483647) ∧ 1 ≤ p.2.2.2.2.2 ∧ p.2.2.2.2.2 ≤ 9999999999999 := by
  unfold mayP okNum at h
  simp only [Bool.and_eq_true, decide_eq_true_eq] at h
  omega
theorem mayP_parts {p : Po} (h : mayP p = true) : (p.1 = 1 → cardB p.2.2.1 = true ∧ p.2.2.2.1 = bs [] ∧ p.2.2.2.2.1 = bs []) ∧ (p.1 = 5 ∨ p.1 = 6 → p.2.2.1 = bs [] ∧ acqB p.2.2.2.1 = true ∧ p.2.2.2.2.1 = bs []) ∧
    (2 ≤ p.1 ∧ p.1 ≤ 4 → cardB p.2.2.1 = true ∧ acqB p.2.2.2.1 = true ∧ refB p.2.2.2.2.1 = true) := by
  obtain ⟨k, b, x, y, z, n⟩ := p
  unfold mayP mayK at h
  simp only [Bool.and_eq_true] at h
  have h := h.2
  refine ⟨fun hk => ?_, fun hk => ?_, fun hk => ?_⟩
  · have hk : k = 1 := hk
    subst hk
    simp only [BEq.rfl, cond_true, Bool.and_eq_true, decide_eq_true_eq] at h
    exact h
  · have hk : k = 5 ∨ k = 6 := hk
    rcases hk with rfl | rfl
    · simpa using h
    · simpa using h
  · have hk : 2 ≤ k ∧ k ≤ 4 := hk
    have e1 : (k == 1) = false := by simp; omega
    have e5 : (k == 5) = false := by simp; omega
    have e6 : (k == 6) = false := by simp; omega
    simp only [e1, e5, e6, cond_false, Bool.or_self, decide_eq_true hk.1, decide_eq_true hk.2, Bool.and_self, cond_true, Bool.and_eq_true] at h
    exact h
theorem check_entP {p : Po} (h : mayP p = true) : checkE (entP p) = 0 := by
  have hn := mayP_num h
  obtain ⟨a1, a2, a3⟩ := mayP_parts h
  have hk := mayP_kind h
  obtain ⟨k, b, x, y, z, n⟩ := p
  have hk : k = 1 ∨ k = 2 ∨ k = 3 ∨ k = 4 ∨ k = 5 ∨ k = 6 := hk
  have hn : (0 ≤ b ∧ b ≤ 2147483647) ∧ 1 ≤ n ∧ n ≤ 9999999999999 := hn
  have m3 : maySB (3, bs []) = true := by decide +kernel
  have m1 : ∀ s, cardB s = true → maySB (1, s) = true := fun s h => h
  have m2 : ∀ s, acqB s = true → maySB (2, s) = true := fun s h => h
  have ne : ∀ (i j : Int) (s t : ByteArray), i ≠ j → ((i, s) : Acc) ≠ (j, t) := fun i j s t h e => h (congrArg Prod.fst e)
  unfold entP sidesP
  rcases hk with rfl | rfl | rfl | rfl | rfl | rfl
  · obtain ⟨h1, h2, h3⟩ := a1 rfl
    have h3 : z = bs [] := h3
    subst h3
    exact checkE_pair hn.1 okRef_none (ne _ _ _ _ (by decide)) m3 (m1 _ h1) hn.2
  · obtain ⟨h1, h2, h3⟩ := a3 (by show (2 : Int) ≤ 2 ∧ (2 : Int) ≤ 4; omega)
    exact checkE_pair hn.1 (okRef_ref h3) (ne _ _ _ _ (by decide)) (m1 _ h1) (m2 _ h2) hn.2
  · obtain ⟨h1, h2, h3⟩ := a3 (by show (2 : Int) ≤ 3 ∧ (3 : Int) ≤ 4; omega)
    exact checkE_pair hn.1 (okRef_ref h3) (ne _ _ _ _ (by decide)) (m2 _ h2) (m1 _ h1) hn.2
  · obtain ⟨h1, h2, h3⟩ := a3 (by show (2 : Int) ≤ 4 ∧ (4 : Int) ≤ 4; omega)
    exact checkE_pair hn.1 (okRef_ref h3) (ne _ _ _ _ (by decide)) (m1 _ h1) (m2 _ h2) hn.2
  · obtain ⟨h1, h2, h3⟩ := a2 (.inl rfl)
    have h3 : z = bs [] := h3
    subst h3
    exact checkE_pair hn.1 okRef_none (ne _ _ _ _ (by decide)) (m2 _ h2) m3 hn.2
  · obtain ⟨h1, h2, h3⟩ := a2 (.inr rfl)
    have h3 : z = bs [] := h3
    subst h3
    exact checkE_pair hn.1 okRef_none (ne _ _ _ _ (by decide)) m3 (m2 _ h2) hn.2
def smallP (p : Po) : Prop := p.2.2.1.size ≤ 20 ∧ p.2.2.2.1.size ≤ 20 ∧ p.2.2.2.2.1.size ≤ 20
theorem tradeEntry_is {p : Po} (hs : smallP p) : trade_Entry.f p = some (bif mayP p then (entP p, 0) else ((0, bs [], []), 1)) := by
  have hmay := tradeMay_is (p := p) (by have := hs.2.2; omega)
  unfold trade_Entry.f
  rw [hmay, Option.bind_some]
  cases hm : mayP p
  · rfl
  have hc := check_entP hm
  have hn := (mayP_num hm).2
  have hk := mayP_kind hm
  obtain ⟨k, b, x, y, z, n⟩ := p
  obtain ⟨s1, s2, s3⟩ := hs
  have s1 : x.size ≤ 20 := s1
  have s2 : y.size ≤ 20 := s2
  have hn : 1 ≤ n ∧ n ≤ 9999999999999 := hn
  have a1 : Am n := by unfold Am; omega
  have a2 : Am (0 - n) := by unfold Am; omega
  have s0 : (bs []).size ≤ 20 := by decide
  have hk : k = 1 ∨ k = 2 ∨ k = 3 ∨ k = 4 ∨ k = 5 ∨ k = 6 := hk
  unfold entP sidesP at hc ⊢
  simp only [Bool.not_true, cond_false, cond_true]
  rcases hk with rfl | rfl | rfl | rfl | rfl | rfl
  · have e : checkE (b, z, [((3, bs []), 0 - n), ((1, x), n)]) = 0 := hc
    have := move_is (b := b) (r := z) (k1 := 3) (k2 := 1) (s1 := bs []) (s2 := x) (n := n) (by decide) (by decide) s0 s1 a1 a2
    rw [e] at this
    simp only [this]
    rfl
  · have e : checkE (b, z, [((1, x), 0 - n), ((2, y), n)]) = 0 := hc
    have := move_is (b := b) (r := z) (k1 := 1) (k2 := 2) (s1 := x) (s2 := y) (n := n) (by decide) (by decide) s1 s2 a1 a2
    rw [e] at this
    simp only [this]
    rfl
  · have e : checkE (b, z, [((2, y), 0 - n), ((1, x), n)]) = 0 := hc
    have := move_is (b := b) (r := z) (k1 := 2) (k2 := 1) (s1 := y) (s2 := x) (n := n) (by decide) (by decide) s2 s1 a1 a2
    rw [e] at this
    simp only [this]
    rfl
  · have e : checkE (b, z, [((1, x), 0 - n), ((2, y), n)]) = 0 := hc
    have := move_is (b := b) (r := z) (k1 := 1) (k2 := 2) (s1 := x) (s2 := y) (n := n) (by decide) (by decide) s1 s2 a1 a2
    rw [e] at this
    simp only [this]
    rfl
  · have e : checkE (b, z, [((2, y), 0 - n), ((3, bs []), n)]) = 0 := hc
    have := move_is (b := b) (r := z) (k1 := 2) (k2 := 3) (s1 := y) (s2 := bs []) (n := n) (by decide) (by decide) s2 s0 a1 a2
    rw [e] at this
    simp only [this]
    rfl
  · have e : checkE (b, z, [((3, bs []), 0 - n), ((2, y), n)]) = 0 := hc
    have := move_is (b := b) (r := z) (k1 := 3) (k2 := 2) (s1 := bs []) (s2 := y) (n := n) (by decide) (by decide) s0 s2 a1 a2
    rw [e] at this
    simp only [this]
    rfl
end Go.Proofs.YtgipbdecogfgjaaGreatDoor
end
section
set_option linter.unusedVariables false
set_option linter.unusedSimpArgs false
namespace Go.Proofs.YtgipbdecogfgjaaGreatDoor
open Go Go.Fw
open Go.Lib (compareBytes)
theorem cb_self : ∀ a : List UInt8, compareBytes a a = 0
  | [] => rfl
  | x :: xs => by
    have hx : ¬ x < x := by rw [UInt8.lt_iff_toNat_lt]; omega
    unfold compareBytes
    rw [if_neg hx, if_neg hx, cb_self xs]
theorem cb_eq : ∀ a b : List UInt8, compareBytes a b = 0 → a = b
  | [], [], _ => rfl
  | [], _ :: _, h => by unfold compareBytes at h; omega
  | _ :: _, [], h => by unfold compareBytes at h; omega
  | x :: xs, y :: ys, h => by
    unfold compareBytes at h
    by_cases h1 : x < y
    · rw [if_pos h1] at h; omega
    · by_cases h2 : y < x
      · rw [if_neg h1, if_pos h2] at h; omega
      · rw [if_neg h1, if_neg h2] at h
        rw [UInt8.lt_iff_toNat_lt] at h1 h2
        have : x = y := UInt8.toNat_inj.1 (by omega)
        rw [this, cb_eq xs ys h]
theorem cb_swap : ∀ a b : List UInt8, compareBytes b a = - compareBytes a b
  | [], [] => rfl
  | [], _ :: _ => rfl
  | _ :: _, [] => rfl
  | x :: xs, y :: ys => by
    unfold compareBytes
    by_cases h1 : x < y
    · have h2 : ¬ y < x := by rw [UInt8.lt_iff_toNat_lt] at h1 ⊢; omega
      rw [if_neg h2, if_pos h1, if_pos h1]; rfl
    · by_cases h2 : y < x
      · rw [if_pos h2, if_neg h1, if_pos h2]
      · rw [if_neg h2, if_neg h1, if_neg h1, if_neg h2]
        exact cb_swap xs ys
theorem cb_trans : ∀ a b c : List UInt8, compareBytes a b < 0 → compareBytes b c ≤ 0 → compareBytes a c < 0
  | [], [], _, h, _ => by unfold compareBytes at h; omega
  | _ :: _, [], _, h, _ => by unfold compareBytes at h; omega
  | _, y :: ys, [], _, h => by unfold compareBytes at h; omega
  | [], _ :: _, _ :: _, _, _ => by unfold compareBytes; omega
  | x :: xs, y :: ys, z :: zs, h, g => by
    unfold compareBytes at h g ⊢
    by_cases h1 : x < y
    · by_cases g1 : z < y
      · have : ¬ y < z := by rw [UInt8.lt_iff_toNat_lt] at g1 ⊢; omega
        rw [if_neg this, if_pos g1] at g
        omega
      · have : x < z := by rw [UInt8.lt_iff_toNat_lt] at h1 g1 ⊢; omega
        rw [if_pos this]; omega
    · rw [if_neg h1] at h
      by_cases h2 : y < x
      · rw [if_pos h2] at h; omega
      · rw [if_neg h2] at h
        have e : x = y := by
          rw [UInt8.lt_iff_toNat_lt] at h1 h2
          exact UInt8.toNat_inj.1 (by omega)
        subst e
        by_cases g1 : x < z
        · rw [if_pos g1]; omega
        · rw [if_neg g1] at g ⊢
          by_cases g2 : z < x
          · rw [if_pos g2] at g; omega
          · rw [if_neg g2] at g ⊢
            exact cb_trans xs ys zs h g
def nmL (a : Acc) : List UInt8 := (nameT a).data.toList
def ordA (a b : Acc) : Int := compareBytes (nmL a) (nmL b)
theorem ordA_self (a : Acc) : ordA a a = 0 := cb_self _
theorem ordA_swap (a b : Acc) : ordA b a = - ordA a b := cb_swap _ _
theorem ordA_trans {a b c : Acc} (h : ordA a b < 0) (g : ordA b c ≤ 0) : ordA a c < 0 := cb_trans _ _ _ h g
theorem bs_inj' {s t : ByteArray} (h : s.data.toList = t.data.toList) : s = t := by
  rw [eq_bs s, eq_bs t, h]
theorem maySB_kind {a : Acc} (h : maySB a = true) : a.1 = 1 ∨ a.1 = 2 ∨ ((a.1 = 3 ∨ a.1 = 4) ∧ a.2 = bs []) := by
  obtain ⟨k, s⟩ := a
  unfold maySB at h
  by_cases h1 : k = 1
  · exact .inl h1
  by_cases h2 : k = 2
  · exact .inr (.inl h2)
  have e1 : (k == 1) = false := by simpa using h1
  have e2 : (k == 2) = false := by simpa using h2
  simp only [e1, e2, cond_false, Bool.and_eq_true, Bool.or_eq_true, beq_iff_eq, decide_eq_true_eq] at h
  exact .inr (.inr h)
theorem nmL_is {a : Acc} (h : maySB a = true) : nmL a = letterOf a.1 :: a.2.data.toList := by
  unfold nmL nameT
  rw [h, cond_true, bs_list]
theorem ordA_eq {a b : Acc} (ha : maySB a = true) (hb : maySB b = true) (h : ordA a b = 0) : a = b := by
  have e := cb_eq _ _ h
  rw [nmL_is ha, nmL_is hb] at e
  injection e with e1 e2
  have e2 := bs_inj' e2
  have ka := maySB_kind ha
  have kb := maySB_kind hb
  obtain ⟨k, s⟩ := a
  obtain ⟨k', s'⟩ := b
  have e2 : s = s' := e2
  subst e2
  have hk : k = k' := by
    simp only at ka kb e1
    rcases ka with rfl | rfl | ⟨rfl | rfl, _⟩ <;> rcases kb with rfl | rfl | ⟨rfl | rfl, _⟩ <;> first | rfl | (exfalso; revert e1; decide)
  rw [hk]
def bal (l : List Lin) (c : Acc) : Int := (l.map fun y => if y.1 = c then y.2 else 0).sum
theorem bal_app (l m : List Lin) (c : Acc) : bal (l ++ m) c = bal l c + bal m c := by
  unfold bal; rw [List.map_append, List.sum_append]
theorem bal_cons (y : Lin) (l : List Lin) (c : Acc) : bal (y :: l) c = (if y.1 = c then y.2 else 0) + bal l c := rfl
theorem bal_none {l : List Lin} {c : Acc} (h : ∀ y ∈ l, y.1 ≠ c) : bal l c = 0 := by
  induction l with
  | nil => rfl
  | cons y l ih =>
    rw [bal_cons, if_neg (h y (by simp)), ih fun z hz => h z (by simp [hz])]
    rfl
def tot (l : List Lin) : Int := (l.map (·.2)).sum
theorem tot_app (l m : List Lin) : tot (l ++ m) = tot l + tot m := by
  unfold tot; rw [List.map_append, List.sum_append]
theorem tot_cons (y : Lin) (l : List Lin) : tot (y :: l) = y.2 + tot l := rfl
structure Bk (l : List Lin) (m : Int) : Prop where
  srt : l.Pairwise fun y z => ordA y.1 z.1 < 0
  may : ∀ y ∈ l, maySB y.1 = true
  nz : ∀ y ∈ l, y.2 ≠ 0
  fit : ∀ y ∈ l, - m ≤ y.2 ∧ y.2 ≤ m
structure At (l : List Lin) (a : Acc) (k : Nat) : Prop where
  le : k ≤ l.length
  lo : ∀ y ∈ l.take k, ordA y.1 a < 0
  hi : ∀ y ∈ l.drop k, 0 ≤ ordA y.1 a
theorem split_at (l : List Lin) {k : Nat} (h : k < l.length) : l = l.take k ++ l.getD k zL :: l.drop (k + 1) := by
  rw [getD_at h, ← List.drop_eq_getElem_cons h, List.take_append_drop]
theorem lt_ne {y a : Acc} (h : ordA y a < 0) : y ≠ a := fun e => by rw [e, ordA_self] at h; omega
theorem At.there {l : List Lin} {m : Int} {a : Acc} {k : Nat} (hb : Bk l m) (ha : maySB a = true) (h : At l a k) (hk : k < l.length) (he : ordA (l.getD k zL).1 a = 0) :
    (l.getD k zL).1 = a ∧ bal l a = (l.getD k zL).2 ∧ (∀ y ∈ l.take k, y.1 ≠ a) ∧ ∀ y ∈ l.drop (k + 1), y.1 ≠ a := by
  have hmem : l.getD k zL ∈ l := by rw [getD_at hk]; exact List.getElem_mem hk
  have e := ordA_eq (hb.may _ hmem) ha he
  have h1 : ∀ y ∈ l.take k, y.1 ≠ a := fun y hy => lt_ne (h.lo y hy)
  have hs := hb.srt
  have h2 : ∀ y ∈ l.drop (k + 1), y.1 ≠ a := fun y hy => by
    rw [split_at l hk, List.pairwise_append, List.pairwise_cons] at hs
    have := hs.2.1.1 y hy
    rw [e] at this
    exact fun e' => by rw [e', ordA_self] at this; omega
  refine ⟨e, ?_, h1, h2⟩
  have : bal l a = bal (l.take k ++ l.getD k zL :: l.drop (k + 1)) a := by rw [← split_at l hk]
  rw [this, bal_app, bal_cons, bal_none h1, bal_none h2, if_pos e]
  omega
theorem At.none {l : List Lin} {m : Int} {a : Acc} {k : Nat} (hb : Bk l m) (h : At l a k) (hn : k < l.length → ordA (l.getD k zL).1 a ≠ 0) : (∀ y ∈ l.drop k, 0 < ordA y.1 a) ∧ bal l a = 0 := by
  have h2 : ∀ y ∈ l.drop k, 0 < ordA y.1 a := fun y hy => by
    by_cases hk : k < l.length
    · have h0 := h.hi
      have hs := hb.srt
      have hne := hn hk
      have e : l.drop k = l.getD k zL :: l.drop (k + 1) := by rw [getD_at hk, ← List.drop_eq_getElem_cons hk]
      rw [e] at hy h0
      have h00 := h0 (l.getD k zL) (List.mem_cons.2 (.inl rfl))
      rcases List.mem_cons.1 hy with rfl | hy
      · omega
      · rw [split_at l hk, List.pairwise_append, List.pairwise_cons] at hs
        have h3 := hs.2.1.1 y hy
        have h4 : ordA a (l.getD k zL).1 < 0 := by rw [ordA_swap]; omega
        have h5 := ordA_trans h4 (Int.le_of_lt h3)
        rw [ordA_swap] at h5; omega
    · rw [List.drop_eq_nil_of_le (by omega)] at hy
      cases hy
  refine ⟨h2, ?_⟩
  rw [← List.take_append_drop k l, bal_app, bal_none fun y hy => lt_ne (h.lo y hy), bal_none fun y hy e => by
    have := h2 y hy
    rw [e, ordA_self] at this; omega]
  rfl
theorem Bk.ins {l : List Lin} {m n : Int} {a : Acc} {k : Nat} (hb : Bk l m) (ha : maySB a = true) (hn : n ≠ 0 ∧ - m ≤ n ∧ n ≤ m) (h : At l a k) (hh : ∀ y ∈ l.drop k, 0 < ordA y.1 a) :
    Bk (l.take k ++ [(a, n)] ++ l.drop k) m ∧ (∀ c, bal (l.take k ++ [(a, n)] ++ l.drop k) c = bal l c + if a = c then n else 0) ∧ tot (l.take k ++ [(a, n)] ++ l.drop k) = tot l + n := by
  have hs := hb.srt
  rw [← List.take_append_drop k l, List.pairwise_append] at hs
  have hm : ∀ y, y ∈ l.take k ++ [(a, n)] ++ l.drop k → y = (a, n) ∨ y ∈ l := fun y hy => by
    rw [List.append_assoc, List.mem_append, List.mem_append, List.mem_singleton] at hy
    rcases hy with hy | rfl | hy
    · exact .inr (List.mem_of_mem_take hy)
    · exact .inl rfl
    · exact .inr (List.mem_of_mem_drop hy)
  refine ⟨⟨?_, fun y hy => ?_, fun y hy => ?_, fun y hy => ?_⟩, fun c => ?_, ?_⟩
  · rw [List.append_assoc, List.pairwise_append]
    refine ⟨hs.1, ?_, fun y hy z hz => ?_⟩
    · rw [List.singleton_append, List.pairwise_cons]
      refine ⟨fun y hy => ?_, hs.2.1⟩
      have := hh y hy
      show ordA a y.1 < 0
      rw [ordA_swap]; omega
    · rw [List.singleton_append] at hz
      rcases List.mem_cons.1 hz with rfl | hz
      · exact h.lo y hy
      · exact hs.2.2 y hy z hz
  · rcases hm y hy with rfl | hy
    · exact ha
    · exact hb.may y hy
  · rcases hm y hy with rfl | hy
    · exact hn.1
    · exact hb.nz y hy
  · rcases hm y hy with rfl | hy
    · exact hn.2
    · exact hb.fit y hy
  · have : bal l c = bal (l.take k ++ l.drop k) c := by rw [List.take_append_drop]
    rw [this, bal_app, bal_app, bal_app, bal_cons]
    show bal _ _ + ((if a = c then n else 0) + 0) + bal _ _ = _
    omega
  · have : tot l = tot (l.take k ++ l.drop k) := by rw [List.take_append_drop]
    rw [this, tot_app, tot_app, tot_app]
    show tot _ + (n + 0) + tot _ = _
    omega
theorem Bk.upd {l : List Lin} {m m' s : Int} {a : Acc} {k : Nat} (hb : Bk l m) (hmm : m ≤ m') (hk : k < l.length) (he : (l.getD k zL).1 = a) (hs : s ≠ 0 ∧ - m' ≤ s ∧ s ≤ m') :
    Bk (l.take k ++ (a, s) :: l.drop (k + 1)) m' ∧ (∀ c, bal (l.take k ++ (a, s) :: l.drop (k + 1)) c = bal l c + if a = c then s - (l.getD k zL).2 else 0) ∧ tot (l.take k ++ (a, s) :: l.drop (k + 1)) = tot l + (s - (l.getD k zL).2) := by
  have hp := hb.srt
  have hmk : l.getD k zL ∈ l := by rw [getD_at hk]; exact List.getElem_mem hk
  rw [split_at l hk, List.pairwise_append, List.pairwise_cons, he] at hp
  have hm : ∀ y, y ∈ l.take k ++ (a, s) :: l.drop (k + 1) → y = (a, s) ∨ y ∈ l := fun y hy => by
    rw [List.mem_append, List.mem_cons] at hy
    rcases hy with hy | rfl | hy
    · exact .inr (List.mem_of_mem_take hy)
    · exact .inl rfl
    · exact .inr (List.mem_of_mem_drop hy)
  refine ⟨⟨?_, fun y hy => ?_, fun y hy => ?_, fun y hy => ?_⟩, fun c => ?_, ?_⟩
  · rw [List.pairwise_append, List.pairwise_cons]
    refine ⟨hp.1, hp.2.1, fun y hy z hz => ?_⟩
    rcases List.mem_cons.1 hz with rfl | hz
    · have := hp.2.2 y hy (l.getD k zL) (by simp)
      rwa [he] at this
    · exact hp.2.2 y hy z (by simp [hz])
  · rcases hm y hy with rfl | hy
    · show maySB a = true
      rw [← he]; exact hb.may _ hmk
    · exact hb.may y hy
  · rcases hm y hy with rfl | hy
    · exact hs.1
    · exact hb.nz y hy
  · rcases hm y hy with rfl | hy
    · exact hs.2
    · have := hb.fit y hy
      omega
  · have : bal l c = bal (l.take k ++ l.getD k zL :: l.drop (k + 1)) c := by rw [← split_at l hk]
    rw [this, bal_app, bal_app, bal_cons, bal_cons, he]
    simp only
    by_cases e : a = c
    · rw [if_pos e, if_pos e, if_pos e]; omega
    · rw [if_neg e, if_neg e, if_neg e]; omega
  · have : tot l = tot (l.take k ++ l.getD k zL :: l.drop (k + 1)) := by rw [← split_at l hk]
    rw [this, tot_app, tot_app, tot_cons, tot_cons]
    simp only
    omega
theorem Bk.del {l : List Lin} {m : Int} {a : Acc} {k : Nat} (hb : Bk l m) (hk : k < l.length) (he : (l.getD k zL).1 = a) :
    Bk (l.take k ++ l.drop (k + 1)) m ∧ (∀ c, bal (l.take k ++ l.drop (k + 1)) c = bal l c + if a = c then - (l.getD k zL).2 else 0) ∧ tot (l.take k ++ l.drop (k + 1)) = tot l + - (l.getD k zL).2 := by
  have hp := hb.srt
  rw [split_at l hk, List.pairwise_append, List.pairwise_cons] at hp
  have hm : ∀ y, y ∈ l.take k ++ l.drop (k + 1) → y ∈ l := fun y hy => by
    rw [List.mem_append] at hy
    rcases hy with hy | hy
    · exact List.mem_of_mem_take hy
    · exact List.mem_of_mem_drop hy
  refine ⟨⟨?_, fun y hy => hb.may y (hm y hy), fun y hy => hb.nz y (hm y hy), fun y hy => hb.fit y (hm y hy)⟩, fun c => ?_, ?_⟩
  · rw [List.pairwise_append]
    exact ⟨hp.1, hp.2.1.2, fun y hy z hz => hp.2.2 y hy z (by simp [hz])⟩
  · have : bal l c = bal (l.take k ++ l.getD k zL :: l.drop (k + 1)) c := by rw [← split_at l hk]
    rw [this, bal_app, bal_app, bal_cons, he]
    by_cases e : a = c
    · rw [if_pos e, if_pos e]; omega
    · rw [if_neg e, if_neg e]; omega
  · have : tot l = tot (l.take k ++ l.getD k zL :: l.drop (k + 1)) := by rw [← split_at l hk]
    rw [this, tot_app, tot_app, tot_cons]
    omega
end Go.Proofs.YtgipbdecogfgjaaGreatDoor
end
section
set_option linter.unusedVariables false
namespace Go.Fw
open Go
theorem mid_is {i j : Nat} (h : i + j < 4611686018427387904) : IntKind.wrap .i64 (Int.fdiv (IntKind.wrap .u64 (IntKind.wrap .i64 ((i : Int) + (j : Int)))) 2) = (((i + j) / 2 : Nat) : Int) := by
  rw [wrap_i64 (n := (i : Int) + (j : Int)) (by omega) (by omega), wrap_u64, Int.emod_eq_of_lt (by omega) (by omega), Int.fdiv_eq_ediv_of_nonneg _ (by omega), wrap_i64 (by omega) (by omega)]
  omega
section
variable {S R : Type} {t : S → Option (S ⊕ R)}
theorem bin_go (n : Nat) (p : Nat → Bool) (hp : ∀ i j, i ≤ j → j < n → p j = true → p i = true) (st : Nat → Nat → S) (fin : Nat → R)
    (h : ∀ i j, i < j → j ≤ n → t (st i j) = some (.inl (bif p ((i + j) / 2) then st ((i + j) / 2 + 1) j else st i ((i + j) / 2)))) (hf : ∀ i, i ≤ n → t (st i i) = some (.inr (fin i))) :
    ∀ d i j, j = i + d → j ≤ n → (∀ k, k < i → p k = true) → (∀ k, j ≤ k → k < n → p k = false) →
      ∃ k, k ≤ n ∧ (∀ i, i < k → p i = true) ∧ (∀ i, k ≤ i → i < n → p i = false) ∧ rounds t (st i j) = some (fin k) := by
  intro d
  induction d using Nat.strongRecOn with
  | _ d ih =>
    intro i j hj hn h1 h2
    by_cases hd : d = 0
    · subst hd
      have : j = i := by omega
      subst this
      exact ⟨j, hn, h1, h2, rounds_end (hf j hn)⟩
    · have hs := h i j (by omega) hn
      cases hm : p ((i + j) / 2)
      · rw [hm, cond_false] at hs
        rw [rounds_next hs]
        refine ih ((i + j) / 2 - i) (by omega) i ((i + j) / 2) (by omega) (by omega) h1 fun k hk hkn => ?_
        cases hq : p k
        · rfl
        · rw [hp _ k hk hkn hq] at hm; cases hm
      · rw [hm, cond_true] at hs
        rw [rounds_next hs]
        refine ih (j - ((i + j) / 2 + 1)) (by omega) ((i + j) / 2 + 1) j (by omega) hn (fun k hk => hp k ((i + j) / 2) (by omega) (by omega) hm) h2
theorem bin_rounds (n : Nat) (p : Nat → Bool) (hp : ∀ i j, i ≤ j → j < n → p j = true → p i = true) (st : Nat → Nat → S) (fin : Nat → R)
    (h : ∀ i j, i < j → j ≤ n → t (st i j) = some (.inl (bif p ((i + j) / 2) then st ((i + j) / 2 + 1) j else st i ((i + j) / 2)))) (hf : ∀ i, i ≤ n → t (st i i) = some (.inr (fin i))) :
    ∃ k, k ≤ n ∧ (∀ i, i < k → p i = true) ∧ (∀ i, k ≤ i → i < n → p i = false) ∧ rounds t (st 0 n) = some (fin k) :=
  bin_go n p hp st fin h hf n 0 n (by omega) (Nat.le_refl _) (fun k hk => absurd hk (by omega)) fun k hk hn => absurd hn (by omega)
end
end Go.Fw
end
section
set_option linter.unusedVariables false
set_option maxRecDepth 100000
namespace Go.Proofs.YtgipbdecogfgjaaGreatDoor
open Go Go.Fw
abbrev chart_letters.row : Row := closedRow 69 (.ag [.s (bs []), .s (bs [67]), .s (bs [65]), .s (bs [72]), .s (bs [68])])
theorem chart_letters.row_ok : RowOK P G0 chart_letters.row := closed_ok e0_ok j0_ok (T := []) trivial 60 (by kernel_rfl)
abbrev chart_Name.As : Shs := (.cons (.x T_api_Account) .nil)
abbrev chart_Name.m : Back := [(false, .s), (false, (.i .i64))]
noncomputable abbrev chart_Name.H : HK := hk P G0 E0 J0 [chart_May.row, chart_letters.row] noLoops 4
theorem chart_Name.rows : TabOK P G0 (tabF [chart_May.row, chart_letters.row]) := rows_ok (ws := [chart_May.row, chart_letters.row]) ⟨chart_May.row_ok, ⟨chart_letters.row_ok, trivial⟩⟩
theorem chart_Name.hok : HKOK P chart_Name.H := hk_ok e0_ok j0_ok chart_Name.rows (fun g n => noLoops_ok g n) 4
noncomputable def chart_Name.f (a : (Int × ByteArray)) : Option (ByteArray × Int) := (((chart_May.f a)).bind fun x1 => (bif (!x1) then (some ((bs []), (1 : Int))) else (bif (a.1 == (0 : Int)) then (bif (Nat.ble (0 + a.2.size) 9223372036854775807) then (some (((bs []) ++ a.2), (0 : Int))) else none) else (bif (a.1 == (1 : Int)) then (bif (Nat.ble (1 + a.2.size) 9223372036854775807) then (some (((bs [67]) ++ a.2), (0 : Int))) else none) else (bif (a.1 == (2 : Int)) then (bif (Nat.ble (1 + a.2.size) 9223372036854775807) then (some (((bs [65]) ++ a.2), (0 : Int))) else none) else (bif (a.1 == (3 : Int)) then (bif (Nat.ble (1 + a.2.size) 9223372036854775807) then (some (((bs [72]) ++ a.2), (0 : Int))) else none) else (bif (a.1 == (4 : Int)) then (bif (Nat.ble (1 + a.2.size) 9223372036854775807) then (some (((bs [68]) ++ a.2), (0 : Int))) else none) else none)))))))
theorem chart_Name.ok : ∀ a : Vals chart_Name.As.tys, fnK P chart_Name.H (lp []) 45 chart_Name.As chart_Name.m a some = chart_Name.f a := fun a => by kernel_rfl
noncomputable abbrev chart_Name.row : Row := fnRow 45 chart_Name.As chart_Name.m chart_Name.f
theorem chart_Name.row_ok : RowOK P G0 chart_Name.row := row_told chart_Name.hok (lp_of (l := []) trivial) (fun _ => rfl) chart_Name.ok
abbrev cmp_isNaN_string.As : Shs := (.cons (.x .s) .nil)
abbrev cmp_isNaN_string.m : Back := [(false, .b)]
noncomputable abbrev cmp_isNaN_string.H : HK := hk P G0 E0 J0 [] noLoops 4
theorem cmp_isNaN_string.rows : TabOK P G0 (tabF []) := rows_ok (ws := []) trivial
theorem cmp_isNaN_string.hok : HKOK P cmp_isNaN_string.H := hk_ok e0_ok j0_ok cmp_isNaN_string.rows (fun g n => noLoops_ok g n) 4
noncomputable def cmp_isNaN_string.f (a : ByteArray) : Option Bool := (some (!((ByteArray.toList a) == (ByteArray.toList a))))
theorem cmp_isNaN_string.ok : ∀ a : Vals cmp_isNaN_string.As.tys, fnK P cmp_isNaN_string.H (lp []) 70 cmp_isNaN_string.As cmp_isNaN_string.m a some = cmp_isNaN_string.f a := fun a => by kernel_rfl
noncomputable abbrev cmp_isNaN_string.row : Row := fnRow 70 cmp_isNaN_string.As cmp_isNaN_string.m cmp_isNaN_string.f
theorem cmp_isNaN_string.row_ok : RowOK P G0 cmp_isNaN_string.row := row_told cmp_isNaN_string.hok (lp_of (l := []) trivial) (fun _ => rfl) cmp_isNaN_string.ok
abbrev cmp_Compare_string.As : Shs := (.cons (.x .s) (.cons (.x .s) .nil))
abbrev cmp_Compare_string.m : Back := [(false, (.i .i64))]
noncomputable abbrev cmp_Compare_string.H : HK := hk P G0 E0 J0 [cmp_isNaN_string.row] noLoops 4
theorem cmp_Compare_string.rows : TabOK P G0 (tabF [cmp_isNaN_string.row]) := rows_ok (ws := [cmp_isNaN_string.row]) ⟨cmp_isNaN_string.row_ok, trivial⟩
theorem cmp_Compare_string.hok : HKOK P cmp_Compare_string.H := hk_ok e0_ok j0_ok cmp_Compare_string.rows (fun g n => noLoops_ok g n) 4
noncomputable def cmp_Compare_string.f (a : (ByteArray × ByteArray)) : Option Int := (bif (!((ByteArray.toList a.1) == (ByteArray.toList a.1))) then (bif (!((ByteArray.toList a.2) == (ByteArray.toList a.2))) then (some (0 : Int)) else (some (-1 : Int))) else (bif (!((ByteArray.toList a.2) == (ByteArray.toList a.2))) then (some (1 : Int)) else (bif (Go.Op.bytesLess (ByteArray.toList a.1) (ByteArray.toList a.2)) then (some (-1 : Int)) else (bif (!((Go.Op.bytesLess (ByteArray.toList a.1) (ByteArray.toList a.2)) || ((ByteArray.toList a.1) == (ByteArray.toList a.2)))) then (some (1 : Int)) else (some (0 : Int))))))
theorem cmp_Compare_string.ok : ∀ a : Vals cmp_Compare_string.As.tys, fnK P cmp_Compare_string.H (lp []) 46 cmp_Compare_string.As cmp_Compare_string.m a some = cmp_Compare_string.f a := fun a => by kernel_rfl
noncomputable abbrev cmp_Compare_string.row : Row := fnRow 46 cmp_Compare_string.As cmp_Compare_string.m cmp_Compare_string.f
theorem cmp_Compare_string.row_ok : RowOK P G0 cmp_Compare_string.row := row_told cmp_Compare_string.hok (lp_of (l := []) trivial) (fun _ => rfl) cmp_Compare_string.ok
abbrev cmp_Or_int.As : Shs := (.cons (.x (.l (.i .i64))) .nil)
abbrev cmp_Or_int.m : Back := [(false, (.i .i64))]
noncomputable abbrev cmp_Or_int.H : HK := hk P G0 E0 J0 [] noLoops 4
theorem cmp_Or_int.rows : TabOK P G0 (tabF []) := rows_ok (ws := []) trivial
theorem cmp_Or_int.hok : HKOK P cmp_Or_int.H := hk_ok e0_ok j0_ok cmp_Or_int.rows (fun g n => noLoops_ok g n) 4
noncomputable abbrev cmp_Or_int.sh4 : SSh := ⟨[(3, (.x (.i .i64))), (6, (.x (.l (.i .i64)))), (7, (.x (.i .i64))), (8, (.x (.i .i64)))], []⟩
noncomputable abbrev cmp_Or_int.os4 : PEnds := [(.ret, ⟨[(2, (.x (.i .i64)))], []⟩), ((.exit 0), ⟨[(3, (.x (.i .i64)))], []⟩)]
noncomputable def cmp_Or_int.t4 (s : (Int × ((List Int) × (Int × Int)))) : Option ((Int × ((List Int) × (Int × Int))) ⊕ (Int ⊕ Int)) := (bif (decide ((s.2.2.2 < s.2.2.1))) then (bif ((decide (((0 : Int) ≤ s.2.2.2))) && (decide ((s.2.2.2 < ((List.length s.2.1) : Int))))) then (bif ((List.getD s.2.1 (Int.toNat s.2.2.2) (0 : Int)) != s.1) then (some (.inr (.inl (List.getD s.2.1 (Int.toNat s.2.2.2) (0 : Int))))) else (some (.inl (s.1, (s.2.1, (s.2.2.1, (IntKind.wrap .i64 (s.2.2.2 + (1 : Int))))))))) else none) else (some (.inr (.inr s.1))))
theorem cmp_Or_int.t4_ok : ∀ s : Vals cmp_Or_int.sh4.tys, turnK P cmp_Or_int.H (lp []) (bodyAt (codeOf P 47) 4) 0 cmp_Or_int.sh4 cmp_Or_int.os4 s some = cmp_Or_int.t4 s := fun s => by kernel_rfl
noncomputable def cmp_Or_int.l4 : (Int × ((List Int) × (Int × Int))) → Option (Int ⊕ Int) := rounds cmp_Or_int.t4
noncomputable def cmp_Or_int.f (a : (List Int)) : Option Int := (((cmp_Or_int.l4 ((0 : Int), (a, (((List.length a) : Int), (0 : Int)))))).bind fun x1 => (match x1 with | .inl x2 => (some x2) | .inr x2 => (some x2)))
theorem cmp_Or_int.ok : ∀ a : Vals cmp_Or_int.As.tys, fnK P cmp_Or_int.H (lp [(4, (NodeT.summ ⟨cmp_Or_int.sh4, cmp_Or_int.os4, cmp_Or_int.l4⟩ 0))]) 47 cmp_Or_int.As cmp_Or_int.m a some = cmp_Or_int.f a := fun a => by kernel_rfl
noncomputable abbrev cmp_Or_int.row : Row := fnRow 47 cmp_Or_int.As cmp_Or_int.m cmp_Or_int.f
theorem cmp_Or_int.row_ok : RowOK P G0 cmp_Or_int.row := row_told cmp_Or_int.hok (lp_of (l := [(4, (NodeT.summ ⟨cmp_Or_int.sh4, cmp_Or_int.os4, cmp_Or_int.l4⟩ 0))]) ⟨(loop_sum cmp_Or_int.hok (by kernel_rfl) (by kernel_rfl) (l := []) trivial cmp_Or_int.sh4 cmp_Or_int.os4 (by kernel_rfl) cmp_Or_int.t4 cmp_Or_int.t4_ok), trivial⟩) (fun _ => rfl) cmp_Or_int.ok
abbrev cmp_isNaN_int.As : Shs := (.cons (.x (.i .i64)) .nil)
abbrev cmp_isNaN_int.m : Back := [(false, .b)]
noncomputable abbrev cmp_isNaN_int.H : HK := hk P G0 E0 J0 [] noLoops 4
theorem cmp_isNaN_int.rows : TabOK P G0 (tabF []) := rows_ok (ws := []) trivial
theorem cmp_isNaN_int.hok : HKOK P cmp_isNaN_int.H := hk_ok e0_ok j0_ok cmp_isNaN_int.rows (fun g n => noLoops_ok g n) 4
noncomputable def cmp_isNaN_int.f (a : Int) : Option Bool := (some (a != a))
theorem cmp_isNaN_int.ok : ∀ a : Vals cmp_isNaN_int.As.tys, fnK P cmp_isNaN_int.H (lp []) 71 cmp_isNaN_int.As cmp_isNaN_int.m a some = cmp_isNaN_int.f a := fun a => by kernel_rfl
noncomputable abbrev cmp_isNaN_int.row : Row := fnRow 71 cmp_isNaN_int.As cmp_isNaN_int.m cmp_isNaN_int.f
theorem cmp_isNaN_int.row_ok : RowOK P G0 cmp_isNaN_int.row := row_told cmp_isNaN_int.hok (lp_of (l := []) trivial) (fun _ => rfl) cmp_isNaN_int.ok
abbrev cmp_Compare_int.As : Shs := (.cons (.x (.i .i64)) (.cons (.x (.i .i64)) .nil))
abbrev cmp_Compare_int.m : Back := [(false, (.i .i64))]
noncomputable abbrev cmp_Compare_int.H : HK := hk P G0 E0 J0 [cmp_isNaN_int.row] noLoops 4
theorem cmp_Compare_int.rows : TabOK P G0 (tabF [cmp_isNaN_int.row]) := rows_ok (ws := [cmp_isNaN_int.row]) ⟨cmp_isNaN_int.row_ok, trivial⟩
theorem cmp_Compare_int.hok : HKOK P cmp_Compare_int.H := hk_ok e0_ok j0_ok cmp_Compare_int.rows (fun g n => noLoops_ok g n) 4
noncomputable def cmp_Compare_int.f (a : (Int × Int)) : Option Int := (bif (a.1 != a.1) then (bif (a.2 != a.2) then (some (0 : Int)) else (some (-1 : Int))) else (bif (a.2 != a.2) then (some (1 : Int)) else (bif (decide ((a.1 < a.2))) then (some (-1 : Int)) else (bif (decide ((a.1 > a.2))) then (some (1 : Int)) else (some (0 : Int))))))
theorem cmp_Compare_int.ok : ∀ a : Vals cmp_Compare_int.As.tys, fnK P cmp_Compare_int.H (lp []) 48 cmp_Compare_int.As cmp_Compare_int.m a some = cmp_Compare_int.f a := fun a => by kernel_rfl
noncomputable abbrev cmp_Compare_int.row : Row := fnRow 48 cmp_Compare_int.As cmp_Compare_int.m cmp_Compare_int.f
theorem cmp_Compare_int.row_ok : RowOK P G0 cmp_Compare_int.row := row_told cmp_Compare_int.hok (lp_of (l := []) trivial) (fun _ => rfl) cmp_Compare_int.ok
abbrev chart_Order.As : Shs := (.cons (.x T_api_Account) (.cons (.x T_api_Account) .nil))
abbrev chart_Order.m : Back := [(false, (.i .i64))]
noncomputable abbrev chart_Order.H : HK := hk P G0 E0 J0 [chart_Name.row, cmp_Compare_string.row, cmp_Or_int.row, cmp_Compare_int.row] noLoops 4
theorem chart_Order.rows : TabOK P G0 (tabF [chart_Name.row, cmp_Compare_string.row, cmp_Or_int.row, cmp_Compare_int.row]) := rows_ok (ws := [chart_Name.row, cmp_Compare_string.row, cmp_Or_int.row, cmp_Compare_int.row]) ⟨chart_Name.row_ok, ⟨cmp_Compare_string.row_ok, ⟨cmp_Or_int.row_ok, ⟨cmp_Compare_int.row_ok, trivial⟩⟩⟩⟩
theorem chart_Order.hok : HKOK P chart_Order.H := hk_ok e0_ok j0_ok chart_Order.rows (fun g n => noLoops_ok g n) 4
noncomputable def chart_Order.f (a : ((Int × ByteArray) × (Int × ByteArray))) : Option Int := (((chart_Name.f a.1)).bind fun x2 => (((chart_Name.f a.2)).bind fun x3 => (bif (x2.2 == (0 : Int)) then (bif (x3.2 == (0 : Int)) then (((cmp_Compare_string.f (x2.1, x3.1))).bind fun x4 => (some x4)) else (((cmp_Compare_int.f (a.1.1, a.2.1))).bind fun x4 => (((cmp_Compare_string.f (a.1.2, a.2.2))).bind fun x5 => (((cmp_Or_int.f (x4 :: (x5 :: [])))).bind fun x6 => (some x6))))) else (((cmp_Compare_int.f (a.1.1, a.2.1))).bind fun x4 => (((cmp_Compare_string.f (a.1.2, a.2.2))).bind fun x5 => (((cmp_Or_int.f (x4 :: (x5 :: [])))).bind fun x6 => (some x6)))))))
theorem chart_Order.ok : ∀ a : Vals chart_Order.As.tys, fnK P chart_Order.H (lp []) 25 chart_Order.As chart_Order.m a some = chart_Order.f a := fun a => by kernel_rfl
noncomputable abbrev chart_Order.row : Row := fnRow 25 chart_Order.As chart_Order.m chart_Order.f
theorem chart_Order.row_ok : RowOK P G0 chart_Order.row := row_told chart_Order.hok (lp_of (l := []) trivial) (fun _ => rfl) chart_Order.ok
abbrev book_find_1.As : Shs := (.cons (.x T_api_Balance) (.cons (.x T_api_Account) .nil))
abbrev book_find_1.m : Back := [(false, (.i .i64))]
noncomputable abbrev book_find_1.H : HK := hk P G0 E0 J0 [chart_Order.row] noLoops 4
theorem book_find_1.rows : TabOK P G0 (tabF [chart_Order.row]) := rows_ok (ws := [chart_Order.row]) ⟨chart_Order.row_ok, trivial⟩
theorem book_find_1.hok : HKOK P book_find_1.H := hk_ok e0_ok j0_ok book_find_1.rows (fun g n => noLoops_ok g n) 4
noncomputable def book_find_1.f (a : (((Int × ByteArray) × Int) × (Int × ByteArray))) : Option Int := (((chart_Order.f (a.1.1, a.2))).bind fun x2 => (some x2))
theorem book_find_1.ok : ∀ a : Vals book_find_1.As.tys, fnK P book_find_1.H (lp []) 37 book_find_1.As book_find_1.m a some = book_find_1.f a := fun a => by kernel_rfl
noncomputable abbrev book_find_1.row : Row := fnRow 37 book_find_1.As book_find_1.m book_find_1.f
theorem book_find_1.row_ok : RowOK P G0 book_find_1.row := row_told book_find_1.hok (lp_of (l := []) trivial) (fun _ => rfl) book_find_1.ok
abbrev book_May.As : Shs := (.cons (.x (.l (.g (.p (.g (.p (.i .i64) .s)) (.i .i64))))) .nil)
abbrev book_May.m : Back := [(false, .b)]
noncomputable abbrev book_May.H : HK := hk P G0 E0 J0 [chart_May.row, chart_Order.row, money_Sum.row] noLoops 4
theorem book_May.rows : TabOK P G0 (tabF [chart_May.row, chart_Order.row, money_Sum.row]) := rows_ok (ws := [chart_May.row, chart_Order.row, money_Sum.row]) ⟨chart_May.row_ok, ⟨chart_Order.row_ok, ⟨money_Sum.row_ok, trivial⟩⟩⟩
theorem book_May.hok : HKOK P book_May.H := hk_ok e0_ok j0_ok book_May.rows (fun g n => noLoops_ok g n) 4
noncomputable abbrev book_May.sh4 : SSh := ⟨[(0, (.x (.l (.g (.p (.g (.p (.i .i64) .s)) (.i .i64)))))), (3, (.own 0 1)), (8, (.x (.l (.g (.p (.g (.p (.i .i64) .s)) (.i .i64)))))), (9, (.x (.i .i64))), (10, (.x (.i .i64)))], [.arrN (.i .i64)]⟩
noncomputable abbrev book_May.os4 : PEnds := [(.ret, ⟨[(2, (.x .b))], []⟩), ((.exit 0), ⟨[(0, (.x (.l (.g (.p (.g (.p (.i .i64) .s)) (.i .i64)))))), (3, (.x (.l (.i .i64))))], []⟩)]
noncomputable def book_May.t4 (s : ((List ((Int × ByteArray) × Int)) × ((List ((Int × ByteArray) × Int)) × (Int × (Int × (List Int)))))) : Option (((List ((Int × ByteArray) × Int)) × ((List ((Int × ByteArray) × Int)) × (Int × (Int × (List Int))))) ⊕ (Bool ⊕ ((List ((Int × ByteArray) × Int)) × (List Int)))) := (bif (decide ((s.2.2.2.1 < s.2.2.1))) then (bif ((decide (((0 : Int) ≤ s.2.2.2.1))) && (decide ((s.2.2.2.1 < ((List.length s.2.1) : Int))))) then (((chart_May.f (List.getD s.2.1 (Int.toNat s.2.2.2.1) (Ty.dflt T_api_Balance)).1)).bind fun x6 => (bif (!x6) then (some (.inr (.inl false))) else (bif ((List.getD s.2.1 (Int.toNat s.2.2.2.1) (Ty.dflt T_api_Balance)).2 == (0 : Int)) then (some (.inr (.inl false))) else (bif (decide ((s.2.2.2.1 > (0 : Int)))) then (bif ((decide (((0 : Int) ≤ (IntKind.wrap .i64 (s.2.2.2.1 - (1 : Int)))))) && (decide (((IntKind.wrap .i64 (s.2.2.2.1 - (1 : Int))) < ((List.length s.1) : Int))))) then (((chart_Order.f ((List.getD s.1 (Int.toNat (IntKind.wrap .i64 (s.2.2.2.1 - (1 : Int)))) (Ty.dflt T_api_Balance)).1, (List.getD s.2.1 (Int.toNat s.2.2.2.1) (Ty.dflt T_api_Balance)).1))).bind fun x7 => (bif (decide ((x7 ≥ (0 : Int)))) then (some (.inr (.inl false))) else (bif ((true && (Nat.ble (((List.length s.2.2.2.2) + (List.length ((List.getD s.2.1 (Int.toNat s.2.2.2.1) (Ty.dflt T_api_Balance)).2 :: []))) * 8) 140737488355328)) && (Nat.ble ((List.length s.2.2.2.2) + (List.length ((List.getD s.2.1 (Int.toNat s.2.2.2.1) (Ty.dflt T_api_Balance)).2 :: []))) 140737488355328)) then (some (.inl (s.1, (s.2.1, (s.2.2.1, ((IntKind.wrap .i64 (s.2.2.2.1 + (1 : Int))), (s.2.2.2.2 ++ ((List.getD s.2.1 (Int.toNat s.2.2.2.1) (Ty.dflt T_api_Balance)).2 :: [])))))))) else none))) else none) else (bif ((true && (Nat.ble (((List.length s.2.2.2.2) + (List.length ((List.getD s.2.1 (Int.toNat s.2.2.2.1) (Ty.dflt T_api_Balance)).2 :: []))) * 8) 140737488355328)) && (Nat.ble ((List.length s.2.2.2.2) + (List.length ((List.getD s.2.1 (Int.toNat s.2.2.2.1) (Ty.dflt T_api_Balance)).2 :: []))) 140737488355328)) then (some (.inl (s.1, (s.2.1, (s.2.2.1, ((IntKind.wrap .i64 (s.2.2.2.1 + (1 : Int))), (s.2.2.2.2 ++ ((List.getD s.2.1 (Int.toNat s.2.2.2.1) (Ty.dflt T_api_Balance)).2 :: [])))))))) else none))))) else none) else (some (.inr (.inr (s.1, s.2.2.2.2)))))
theorem book_May.t4_ok : ∀ s : Vals book_May.sh4.tys, turnK P book_May.H (lp []) (bodyAt (codeOf P 14) 4) 0 book_May.sh4 book_May.os4 s some = book_May.t4 s := by rintro ⟨s0, s1, s2, s3, s4⟩; cases s4 <;> kernel_rfl
noncomputable def book_May.l4 : ((List ((Int × ByteArray) × Int)) × ((List ((Int × ByteArray) × Int)) × (Int × (Int × (List Int))))) → Option (Bool ⊕ ((List ((Int × ByteArray) × Int)) × (List Int))) := rounds book_May.t4
noncomputable def book_May.f (a : (List ((Int × ByteArray) × Int))) : Option Bool := (((book_May.l4 (a, (a, (((List.length a) : Int), ((0 : Int), [])))))).bind fun x1 => (match x1 with | .inl x2 => (some x2) | .inr x2 => (((money_Sum.f x2.2)).bind fun x3 => (bif (decide ((((List.length x2.1) : Int) ≤ (200 : Int)))) then (bif (x3.1 == (0 : Int)) then (some (x3.2 == (0 : Int))) else (some false)) else (some false)))))
theorem book_May.ok : ∀ a : Vals book_May.As.tys, fnK P book_May.H (lp [(4, (NodeT.summ ⟨book_May.sh4, book_May.os4, book_May.l4⟩ 0))]) 14 book_May.As book_May.m a some = book_May.f a := fun a => by kernel_rfl
noncomputable abbrev book_May.row : Row := fnRow 14 book_May.As book_May.m book_May.f
theorem book_May.row_ok : RowOK P G0 book_May.row := row_told book_May.hok (lp_of (l := [(4, (NodeT.summ ⟨book_May.sh4, book_May.os4, book_May.l4⟩ 0))]) ⟨(loop_sum book_May.hok (by kernel_rfl) (by kernel_rfl) (l := []) trivial book_May.sh4 book_May.os4 (by kernel_rfl) book_May.t4 book_May.t4_ok), trivial⟩) (fun _ => rfl) book_May.ok
abbrev book_Get.As : Shs := (.cons (.x (.l (.g (.p (.g (.p (.i .i64) .s)) (.i .i64))))) (.cons (.x T_api_Account) .nil))
abbrev book_Get.m : Back := [(false, (.i .i64))]
noncomputable abbrev book_Get.H : HK := hk P G0 E0 J0 [book_May.row, chart_May.row, book_find_1.row] noLoops 4
theorem book_Get.rows : TabOK P G0 (tabF [book_May.row, chart_May.row, book_find_1.row]) := rows_ok (ws := [book_May.row, chart_May.row, book_find_1.row]) ⟨book_May.row_ok, ⟨chart_May.row_ok, ⟨book_find_1.row_ok, trivial⟩⟩⟩
theorem book_Get.hok : HKOK P book_Get.H := hk_ok e0_ok j0_ok book_Get.rows (fun g n => noLoops_ok g n) 4
noncomputable abbrev book_Get.shi0 : SSh := ⟨[(0, (.x (.l (.g (.p (.g (.p (.i .i64) .s)) (.i .i64)))))), (2, (.fn 37 .nil)), (4, (.pt 2 0)), (8, (.x (.i .i64))), (9, (.x (.i .i64))), (10, (.x (.i .i64)))], [.box (.cons (.x (.i .i64)) (.cons (.x .s) .nil)), .box (.cons (.x (.i .i64)) (.cons (.x .s) .nil)), .box (.cons (.x (.i .i64)) (.cons (.x .s) .nil))]⟩
noncomputable abbrev book_Get.osi0 : PEnds := [((.exit 0), ⟨[(0, (.x (.l (.g (.p (.g (.p (.i .i64) .s)) (.i .i64)))))), (2, (.fn 37 .nil)), (4, (.pt 2 0)), (8, (.x (.i .i64))), (9, (.x (.i .i64)))], [.box (.cons (.x (.i .i64)) (.cons (.x .s) .nil)), .box (.cons (.x (.i .i64)) (.cons (.x .s) .nil)), .box (.cons (.x (.i .i64)) (.cons (.x .s) .nil))]⟩)]
noncomputable def book_Get.ti0 (s : ((List ((Int × ByteArray) × Int)) × (Int × (Int × (Int × (Int × (ByteArray × (Int × (ByteArray × (Int × ByteArray)))))))))) : Option (((List ((Int × ByteArray) × Int)) × (Int × (Int × (Int × (Int × (ByteArray × (Int × (ByteArray × (Int × ByteArray))))))))) ⊕ (((List ((Int × ByteArray) × Int)) × (Int × (Int × (Int × (ByteArray × (Int × (ByteArray × (Int × ByteArray)))))))))) := (bif (decide ((s.2.2.1 < s.2.2.2.1))) then (bif ((decide (((0 : Int) ≤ (IntKind.wrap .i64 (Int.fdiv (IntKind.wrap .u64 (IntKind.wrap .i64 (s.2.2.1 + s.2.2.2.1))) (2 : Int)))))) && (decide (((IntKind.wrap .i64 (Int.fdiv (IntKind.wrap .u64 (IntKind.wrap .i64 (s.2.2.1 + s.2.2.2.1))) (2 : Int))) < ((List.length s.1) : Int))))) then (((book_find_1.f ((List.getD s.1 (Int.toNat (IntKind.wrap .i64 (Int.fdiv (IntKind.wrap .u64 (IntKind.wrap .i64 (s.2.2.1 + s.2.2.2.1))) (2 : Int)))) (Ty.dflt T_api_Balance)), s.2.2.2.2.2.2.2.2))).bind fun x10 => (bif (decide ((x10 < (0 : Int)))) then (some (.inl (s.1, (s.2.1, ((IntKind.wrap .i64 ((IntKind.wrap .i64 (Int.fdiv (IntKind.wrap .u64 (IntKind.wrap .i64 (s.2.2.1 + s.2.2.2.1))) (2 : Int))) + (1 : Int))), s.2.2.2))))) else (some (.inl (s.1, (s.2.1, (s.2.2.1, ((IntKind.wrap .i64 (Int.fdiv (IntKind.wrap .u64 (IntKind.wrap .i64 (s.2.2.1 + s.2.2.2.1))) (2 : Int))), s.2.2.2.2)))))))) else none) else (some (.inr (s.1, (s.2.1, (s.2.2.1, s.2.2.2.2))))))
theorem book_Get.ti0_ok : ∀ s : Vals book_Get.shi0.tys, turnK P book_Get.H (lp []) (bodyAt (codeOf P 36) 4) 2 book_Get.shi0 book_Get.osi0 s some = book_Get.ti0 s := fun s => by kernel_rfl
noncomputable def book_Get.li0 : ((List ((Int × ByteArray) × Int)) × (Int × (Int × (Int × (Int × (ByteArray × (Int × (ByteArray × (Int × ByteArray))))))))) → Option (((List ((Int × ByteArray) × Int)) × (Int × (Int × (Int × (ByteArray × (Int × (ByteArray × (Int × ByteArray))))))))) := rounds book_Get.ti0
noncomputable abbrev book_Get.L1 : ILp := [(36, 2, [(4, (NodeT.summ ⟨book_Get.shi0, book_Get.osi0, book_Get.li0⟩ 2))])]
theorem book_Get.L1ok : ILpOK P G0 book_Get.L1 := ⟨⟨(loop_sum book_Get.hok (by kernel_rfl) (by kernel_rfl) (l := []) trivial book_Get.shi0 book_Get.osi0 (by kernel_rfl) book_Get.ti0 book_Get.ti0_ok), trivial⟩, trivial⟩
noncomputable abbrev book_Get.H1 : HK := hk P G0 E0 J0 [book_May.row, chart_May.row, book_find_1.row] (ilp book_Get.L1) 4
theorem book_Get.hok1 : HKOK P book_Get.H1 := hk_ok e0_ok j0_ok book_Get.rows (fun g n => ilp_ok book_Get.L1ok g n) 4
noncomputable def book_Get.f (a : ((List ((Int × ByteArray) × Int)) × (Int × ByteArray))) : Option Int := (((book_May.f a.1)).bind fun x2 => (bif (!x2) then (some (0 : Int)) else (((chart_May.f a.2)).bind fun x3 => (bif (!x3) then (some (0 : Int)) else (((book_Get.li0 (a.1, (((List.length a.1) : Int), ((0 : Int), (((List.length a.1) : Int), (a.2.1, (a.2.2, (a.2.1, (a.2.2, a.2)))))))))).bind fun x4 => (bif (decide ((x4.2.2.1 < x4.2.1))) then (bif ((decide (((0 : Int) ≤ x4.2.2.1))) && (decide ((x4.2.2.1 < ((List.length x4.1) : Int))))) then (((book_find_1.f ((List.getD x4.1 (Int.toNat x4.2.2.1) (Ty.dflt T_api_Balance)), x4.2.2.2.2.2.2.2))).bind fun x5 => (bif (!(x5 == (0 : Int))) then (some (0 : Int)) else (bif ((decide (((0 : Int) ≤ x4.2.2.1))) && (decide ((x4.2.2.1 < ((List.length a.1) : Int))))) then (some (List.getD a.1 (Int.toNat x4.2.2.1) (Ty.dflt T_api_Balance)).2) else none))) else none) else (some (0 : Int))))))))
theorem book_Get.ok : ∀ a : Vals book_Get.As.tys, fnK P book_Get.H1 (lp []) 8 book_Get.As book_Get.m a some = book_Get.f a := fun a => by kernel_rfl
noncomputable abbrev book_Get.row : Row := fnRow 8 book_Get.As book_Get.m book_Get.f
theorem book_Get.row_ok : RowOK P G0 book_Get.row := row_told book_Get.hok1 (lp_of (l := []) trivial) (fun _ => rfl) book_Get.ok
end Go.Proofs.YtgipbdecogfgjaaGreatDoor
end
section
set_option linter.unusedVariables false
namespace Go.Fw
variable {P : Program}
theorem run_append_nothing (w : World) {t ty e : TypeId} {i : TypeInfo} (ht : P.underlying t = some (.slice e)) (hi : P.info? e = some i) (ad ad' : Option Addr) (len cap c : Nat) (hle : len ≤ cap) :
    (Builtin.append_ #[t, t] ty #[.slice ad len cap, .slice ad' 0 c]).run P w = .ok (.slice ad len cap) w := by
  have hlen : ∀ w : World, (Builtin.lenOf (.slice ad' 0 c)).run P w = .ok 0 w := fun w => by simp [Builtin.lenOf]
  have hfirst : ∀ w : World, (Builtin.firstCells i.size 0 (.slice ad' 0 c)).run P w = .ok #[] w := fun w => by cases ad' <;> simp [Builtin.firstCells, loadCells, loadCellsFrom]
  cases ad with
  | none => simp [Builtin.append_, run_underlying ht, sizeOf, typeInfo, hi, hlen, hle, hfirst]
  | some a => exact run_append_room' (P := P) w t t ty e i _ ht ht (.inr ⟨e, rfl⟩) hi a len cap 0 _ #[] hlen (hfirst _) (by omega) (by simp [storeCells])
theorem wpList_append_nothing {ops : Array Oper} {rest : List Oper} {o : Oper} {a : Act} {w : World} {Q : Exit → Act → World → Prop} (hgd : o.guard = none) (s x : Operand) (t e : TypeId) (i : TypeInfo)
    (ho : o.op = .call { callee := .builtin .append, args := #[s, x], argTypes := #[t, t] }) (ht : P.underlying t = some (.slice e)) (hi : P.info? e = some i)
    (ad ad' : Option Addr) (len cap c : Nat) (hs : a.eval s = .slice ad len cap) (hx : a.eval x = .slice ad' 0 c) (hle : len ≤ cap)
    (h : wpList P ops Q rest (a.put o.dst (.slice ad len cap)) w) : wpList P ops Q (o :: rest) a w := by
  refine wpList_plain hgd fun K hK => ?_
  have hr := run_append_nothing (P := P) w (ty := o.type) ht hi ad ad' len cap c hle
  unfold Oper.wp execOp
  simp only [ho, resolve, invoke, builtin, Sem.run_bind, Sem.run_pure, Result.andThen_ok, List.map_toArray, List.map_cons, List.map_nil, hs, hx, hr]
  exact hK _ _ h
end Go.Fw
end
section
set_option linter.unusedVariables false
set_option maxRecDepth 100000
namespace Go.Proofs.YtgipbdecogfgjaaGreatDoor
open Go Go.Fw Go.RowKit
set_option maxHeartbeats 1000000 in
theorem slices_Clone_api_Balance_api_Balance.zero (w : World) (ad : Option Addr) (cap : Nat) (hc : ad = none → cap = 0) : Calls Tryz.prog 16 #[.slice ad 0 cap] w fun e w' => ∃ ad', e = .returned (.slice ad' 0 0) ∧ w.heap.size ≤ w'.heap.size ∧ (∀ b, b < w.heap.size → w'.heap[b]? = w.heap[b]?) ∧ w'.os = w.os ∧ w'.tape = w.tape ∧ w'.output = w.output := by
  have q : ∀ (w : World) (a : Option Addr) (n c n' c' : Nat), (binOp .eql 23 (.slice a n c) (.slice none n' c')).run Tryz.prog w = .ok (.bool a.isNone) w := fun w a n c n' c' => Lib.run_eql_slice_nil w _ _ a n c n' c' Tryz.underlying23
  have u : ∀ w, Sem.run Tryz.prog (underlying 23) w = .ok (TypeDesc.slice 47) w := run_underlying Tryz.underlying23
  have hs : (Tryz.prog.info? 47).isSome = true := by kernel_rfl
  obtain ⟨i0, hi⟩ := Option.isSome_iff_exists.1 hs
  cases ad with
  | none =>
    obtain rfl := hc rfl
    go_enter Tryz.func16, Tryz.ntmps16
    go_wp2
    go_ret
    exact ⟨⟨none, rfl⟩, Nat.le_refl _, fun _ _ => rfl, rfl, rfl, rfl⟩
  | some a =>
    go_enter Tryz.func16, Tryz.ntmps16
    go_wp2_with (at_builtin; refine wpList_append_nothing rfl _ _ 23 47 i0 rfl Tryz.underlying23 hi _ (some a) 0 _ cap rfl rfl (Nat.le_refl _) ?_)
    go_ret
    refine ⟨_, rfl, ?_, fun b hb => ?_, rfl, rfl, rfl⟩
    · show w.heap.size ≤ (w.heap.push _).size; simp
    · show (w.heap.push _)[b]? = _
      rw [Array.getElem?_push, if_neg (by omega)]
noncomputable def slices_Clone_api_Balance_api_Balance.f (l : List (T_api_Balance : Ty).den) : Option (List (T_api_Balance : Ty).den) := bif (Nat.ble ((0 + l.length) * 32) 140737488355328 && Nat.ble (0 + l.length) 140737488355328) then some l else none
noncomputable abbrev slices_Clone_api_Balance_api_Balance.H : HK := hk P G0 E0 J0 [] noLoops 4
theorem slices_Clone_api_Balance_api_Balance.hok : HKOK P slices_Clone_api_Balance_api_Balance.H := hk_ok e0_ok j0_ok (rows_ok (ws := []) trivial) (fun g n => noLoops_ok g n) 4
theorem slices_Clone_api_Balance_api_Balance.cons : ∀ (a : (T_api_Balance : Ty).den) (l : List (T_api_Balance : Ty).den), fnK P slices_Clone_api_Balance_api_Balance.H (lp []) 16 (AsL T_api_Balance) (mL T_api_Balance) (a :: l : List (T_api_Balance : Ty).den) some = slices_Clone_api_Balance_api_Balance.f (a :: l) := fun a l => by kernel_rfl
noncomputable abbrev slices_Clone_api_Balance_api_Balance.row : Row := cloneRow 16 T_api_Balance slices_Clone_api_Balance_api_Balance.f
theorem slices_Clone_api_Balance_api_Balance.row_ok : RowOK P G0 slices_Clone_api_Balance_api_Balance.row := clone_row slices_Clone_api_Balance_api_Balance.hok rfl slices_Clone_api_Balance_api_Balance.cons (fun l q h => by
    unfold slices_Clone_api_Balance_api_Balance.f at h
    obtain ⟨_, h⟩ := cond_some h
    injection h with h
    exact h.symm) slices_Clone_api_Balance_api_Balance.zero ⟨_, Tryz.func16, by kernel_rfl, by kernel_rfl⟩
end Go.Proofs.YtgipbdecogfgjaaGreatDoor
end
section
set_option linter.unusedVariables false
set_option maxRecDepth 100000
namespace Go.Proofs.YtgipbdecogfgjaaGreatDoor
open Go Go.Fw
abbrev book_Post.As : Shs := (.cons (.x (.l (.g (.p (.g (.p (.i .i64) .s)) (.i .i64))))) (.cons (.x T_api_Entry) .nil))
abbrev book_Post.m : Back := [(false, (.l (.g (.p (.g (.p (.i .i64) .s)) (.i .i64))))), (false, (.i .i64))]
noncomputable abbrev book_Post.H : HK := hk P G0 E0 J0 [book_May.row, entry_Check.row, slices_Clone_api_Balance_api_Balance.row, money_Add.row, book_find_1.row] noLoops 4
theorem book_Post.rows : TabOK P G0 (tabF [book_May.row, entry_Check.row, slices_Clone_api_Balance_api_Balance.row, money_Add.row, book_find_1.row]) := rows_ok (ws := [book_May.row, entry_Check.row, slices_Clone_api_Balance_api_Balance.row, money_Add.row, book_find_1.row]) ⟨book_May.row_ok, ⟨entry_Check.row_ok, ⟨slices_Clone_api_Balance_api_Balance.row_ok, ⟨money_Add.row_ok, ⟨book_find_1.row_ok, trivial⟩⟩⟩⟩⟩
theorem book_Post.hok : HKOK P book_Post.H := hk_ok e0_ok j0_ok book_Post.rows (fun g n => noLoops_ok g n) 4
noncomputable abbrev book_Post.sh11 : SSh := ⟨[(0, (.f0 T_api_Balance)), (22, (.x (.l (.g (.p (.g (.p (.i .i64) .s)) (.i .i64)))))), (23, (.x (.i .i64))), (24, (.x (.i .i64)))], []⟩
noncomputable abbrev book_Post.shi0 : SSh := ⟨[(0, (.x (.l (.g (.p (.g (.p (.i .i64) .s)) (.i .i64)))))), (2, (.fn 37 .nil)), (4, (.pt 3 0)), (8, (.x (.i .i64))), (9, (.x (.i .i64))), (10, (.x (.i .i64)))], [.box (.cons (.x (.i .i64)) (.cons (.x .s) (.cons (.x (.i .i64)) .nil))), .box (.cons (.x (.i .i64)) (.cons (.x .s) (.cons (.x (.i .i64)) .nil))), .box (.cons (.x (.i .i64)) (.cons (.x .s) .nil)), .box (.cons (.x (.i .i64)) (.cons (.x .s) .nil))]⟩
noncomputable abbrev book_Post.osi0 : PEnds := [((.exit 0), ⟨[(0, (.x (.l (.g (.p (.g (.p (.i .i64) .s)) (.i .i64)))))), (2, (.fn 37 .nil)), (4, (.pt 3 0)), (8, (.x (.i .i64))), (9, (.x (.i .i64)))], [.box (.cons (.x (.i .i64)) (.cons (.x .s) (.cons (.x (.i .i64)) .nil))), .box (.cons (.x (.i .i64)) (.cons (.x .s) (.cons (.x (.i .i64)) .nil))), .box (.cons (.x (.i .i64)) (.cons (.x .s) .nil)), .box (.cons (.x (.i .i64)) (.cons (.x .s) .nil))]⟩)]
noncomputable def book_Post.ti0 (s : ((List ((Int × ByteArray) × Int)) × (Int × (Int × (Int × (Int × (ByteArray × (Int × (Int × (ByteArray × (Int × (Int × (ByteArray × (Int × ByteArray)))))))))))))) : Option (((List ((Int × ByteArray) × Int)) × (Int × (Int × (Int × (Int × (ByteArray × (Int × (Int × (ByteArray × (Int × (Int × (ByteArray × (Int × ByteArray))))))))))))) ⊕ (((List ((Int × ByteArray) × Int)) × (Int × (Int × (Int × (ByteArray × (Int × (Int × (ByteArray × (Int × (Int × (ByteArray × (Int × ByteArray)))))))))))))) := (bif (decide ((s.2.2.1 < s.2.2.2.1))) then (bif ((decide (((0 : Int) ≤ (IntKind.wrap .i64 (Int.fdiv (IntKind.wrap .u64 (IntKind.wrap .i64 (s.2.2.1 + s.2.2.2.1))) (2 : Int)))))) && (decide (((IntKind.wrap .i64 (Int.fdiv (IntKind.wrap .u64 (IntKind.wrap .i64 (s.2.2.1 + s.2.2.2.1))) (2 : Int))) < ((List.length s.1) : Int))))) then (((book_find_1.f ((List.getD s.1 (Int.toNat (IntKind.wrap .i64 (Int.fdiv (IntKind.wrap .u64 (IntKind.wrap .i64 (s.2.2.1 + s.2.2.2.1))) (2 : Int)))) (Ty.dflt T_api_Balance)), s.2.2.2.2.2.2.2.2.2.2.2.2))).bind fun x14 => (bif (decide ((x14 < (0 : Int)))) then (some (.inl (s.1, (s.2.1, ((IntKind.wrap .i64 ((IntKind.wrap .i64 (Int.fdiv (IntKind.wrap .u64 (IntKind.wrap .i64 (s.2.2.1 + s.2.2.2.1))) (2 : Int))) + (1 : Int))), s.2.2.2))))) else (some (.inl (s.1, (s.2.1, (s.2.2.1, ((IntKind.wrap .i64 (Int.fdiv (IntKind.wrap .u64 (IntKind.wrap .i64 (s.2.2.1 + s.2.2.2.1))) (2 : Int))), s.2.2.2.2)))))))) else none) else (some (.inr (s.1, (s.2.1, (s.2.2.1, s.2.2.2.2))))))
theorem book_Post.ti0_ok : ∀ s : Vals book_Post.shi0.tys, turnK P book_Post.H (lp []) (bodyAt (codeOf P 36) 4) 3 book_Post.shi0 book_Post.osi0 s some = book_Post.ti0 s := fun s => by kernel_rfl
noncomputable def book_Post.li0 : ((List ((Int × ByteArray) × Int)) × (Int × (Int × (Int × (Int × (ByteArray × (Int × (Int × (ByteArray × (Int × (Int × (ByteArray × (Int × ByteArray))))))))))))) → Option (((List ((Int × ByteArray) × Int)) × (Int × (Int × (Int × (ByteArray × (Int × (Int × (ByteArray × (Int × (Int × (ByteArray × (Int × ByteArray))))))))))))) := rounds book_Post.ti0
noncomputable abbrev book_Post.L1 : ILp := [(36, 3, [(4, (NodeT.summ ⟨book_Post.shi0, book_Post.osi0, book_Post.li0⟩ 3))])]
theorem book_Post.L1ok : ILpOK P G0 book_Post.L1 := ⟨⟨(loop_sum book_Post.hok (by kernel_rfl) (by kernel_rfl) (l := []) trivial book_Post.shi0 book_Post.osi0 (by kernel_rfl) book_Post.ti0 book_Post.ti0_ok), trivial⟩, trivial⟩
noncomputable abbrev book_Post.H1 : HK := hk P G0 E0 J0 [book_May.row, entry_Check.row, slices_Clone_api_Balance_api_Balance.row, money_Add.row, book_find_1.row] (ilp book_Post.L1) 4
theorem book_Post.hok1 : HKOK P book_Post.H1 := hk_ok e0_ok j0_ok book_Post.rows (fun g n => ilp_ok book_Post.L1ok g n) 4
noncomputable abbrev book_Post.sh11p : SSh := ⟨[(0, (.own 0 3)), (22, (.x (.l (.g (.p (.g (.p (.i .i64) .s)) (.i .i64)))))), (23, (.x (.i .i64))), (24, (.x (.i .i64)))], [.arr T_api_Balance]⟩
noncomputable abbrev book_Post.shi1 : SSh := ⟨[(0, (.own 0 3)), (2, (.fn 37 .nil)), (4, (.pt 4 0)), (8, (.x (.i .i64))), (9, (.x (.i .i64))), (10, (.x (.i .i64)))], [.arr T_api_Balance, .box (.cons (.x (.i .i64)) (.cons (.x .s) (.cons (.x (.i .i64)) .nil))), .box (.cons (.x (.i .i64)) (.cons (.x .s) (.cons (.x (.i .i64)) .nil))), .box (.cons (.x (.i .i64)) (.cons (.x .s) .nil)), .box (.cons (.x (.i .i64)) (.cons (.x .s) .nil))]⟩
noncomputable abbrev book_Post.osi1 : PEnds := [((.exit 0), ⟨[(0, (.own 0 3)), (2, (.fn 37 .nil)), (4, (.pt 4 0)), (8, (.x (.i .i64))), (9, (.x (.i .i64)))], [.arr T_api_Balance, .box (.cons (.x (.i .i64)) (.cons (.x .s) (.cons (.x (.i .i64)) .nil))), .box (.cons (.x (.i .i64)) (.cons (.x .s) (.cons (.x (.i .i64)) .nil))), .box (.cons (.x (.i .i64)) (.cons (.x .s) .nil)), .box (.cons (.x (.i .i64)) (.cons (.x .s) .nil))]⟩)]
noncomputable def book_Post.ti1 (s : (Int × (Int × (Int × ((List ((Int × ByteArray) × Int)) × (Int × (ByteArray × (Int × (Int × (ByteArray × (Int × (Int × (ByteArray × (Int × ByteArray)))))))))))))) : Option ((Int × (Int × (Int × ((List ((Int × ByteArray) × Int)) × (Int × (ByteArray × (Int × (Int × (ByteArray × (Int × (Int × (ByteArray × (Int × ByteArray))))))))))))) ⊕ ((Int × (Int × ((List ((Int × ByteArray) × Int)) × (Int × (ByteArray × (Int × (Int × (ByteArray × (Int × (Int × (ByteArray × (Int × ByteArray)))))))))))))) := (bif (decide ((s.2.1 < s.2.2.1))) then (bif ((decide (((0 : Int) ≤ (IntKind.wrap .i64 (Int.fdiv (IntKind.wrap .u64 (IntKind.wrap .i64 (s.2.1 + s.2.2.1))) (2 : Int)))))) && (decide (((IntKind.wrap .i64 (Int.fdiv (IntKind.wrap .u64 (IntKind.wrap .i64 (s.2.1 + s.2.2.1))) (2 : Int))) < ((List.length s.2.2.2.1) : Int))))) then (bif (true && (Nat.blt (0 + (Int.toNat (IntKind.wrap .i64 (Int.fdiv (IntKind.wrap .u64 (IntKind.wrap .i64 (s.2.1 + s.2.2.1))) (2 : Int))))) (List.length s.2.2.2.1))) then (((book_find_1.f ((List.getD s.2.2.2.1 (0 + (Int.toNat (IntKind.wrap .i64 (Int.fdiv (IntKind.wrap .u64 (IntKind.wrap .i64 (s.2.1 + s.2.2.1))) (2 : Int))))) (Ty.dflt T_api_Balance)), s.2.2.2.2.2.2.2.2.2.2.2.2))).bind fun x14 => (bif (decide ((x14 < (0 : Int)))) then (some (.inl (s.1, ((IntKind.wrap .i64 ((IntKind.wrap .i64 (Int.fdiv (IntKind.wrap .u64 (IntKind.wrap .i64 (s.2.1 + s.2.2.1))) (2 : Int))) + (1 : Int))), s.2.2)))) else (some (.inl (s.1, (s.2.1, ((IntKind.wrap .i64 (Int.fdiv (IntKind.wrap .u64 (IntKind.wrap .i64 (s.2.1 + s.2.2.1))) (2 : Int))), s.2.2.2))))))) else none) else none) else (some (.inr (s.1, (s.2.1, s.2.2.2)))))
theorem book_Post.ti1_ok : ∀ s : Vals book_Post.shi1.tys, turnK P book_Post.H1 (lp []) (bodyAt (codeOf P 36) 4) 4 book_Post.shi1 book_Post.osi1 s some = book_Post.ti1 s := fun s => by kernel_rfl
noncomputable def book_Post.li1 : (Int × (Int × (Int × ((List ((Int × ByteArray) × Int)) × (Int × (ByteArray × (Int × (Int × (ByteArray × (Int × (Int × (ByteArray × (Int × ByteArray))))))))))))) → Option ((Int × (Int × ((List ((Int × ByteArray) × Int)) × (Int × (ByteArray × (Int × (Int × (ByteArray × (Int × (Int × (ByteArray × (Int × ByteArray))))))))))))) := rounds book_Post.ti1
noncomputable abbrev book_Post.L2 : ILp := [(36, 3, [(4, (NodeT.summ ⟨book_Post.shi0, book_Post.osi0, book_Post.li0⟩ 3))]), (36, 4, [(4, (NodeT.summ ⟨book_Post.shi1, book_Post.osi1, book_Post.li1⟩ 4))])]
theorem book_Post.L2ok : ILpOK P G0 book_Post.L2 := ⟨⟨(loop_sum book_Post.hok (by kernel_rfl) (by kernel_rfl) (l := []) trivial book_Post.shi0 book_Post.osi0 (by kernel_rfl) book_Post.ti0 book_Post.ti0_ok), trivial⟩, ⟨⟨(loop_sum book_Post.hok1 (by kernel_rfl) (by kernel_rfl) (l := []) trivial book_Post.shi1 book_Post.osi1 (by kernel_rfl) book_Post.ti1 book_Post.ti1_ok), trivial⟩, trivial⟩⟩
noncomputable abbrev book_Post.H2 : HK := hk P G0 E0 J0 [book_May.row, entry_Check.row, slices_Clone_api_Balance_api_Balance.row, money_Add.row, book_find_1.row] (ilp book_Post.L2) 4
theorem book_Post.hok2 : HKOK P book_Post.H2 := hk_ok e0_ok j0_ok book_Post.rows (fun g n => ilp_ok book_Post.L2ok g n) 4
noncomputable abbrev book_Post.os11p : PEnds := [(.ret, ⟨[(4, (.x (.l (.g (.p (.g (.p (.i .i64) .s)) (.i .i64)))))), (5, (.x (.i .i64)))], []⟩), ((.exit 0), ⟨[(0, (.x (.l (.g (.p (.g (.p (.i .i64) .s)) (.i .i64))))))], []⟩)]
noncomputable def book_Post.t11p (s : ((List ((Int × ByteArray) × Int)) × (Int × (Int × (List ((Int × ByteArray) × Int)))))) : Option (((List ((Int × ByteArray) × Int)) × (Int × (Int × (List ((Int × ByteArray) × Int))))) ⊕ (((List ((Int × ByteArray) × Int)) × Int) ⊕ (List ((Int × ByteArray) × Int)))) := (bif (decide ((s.2.2.1 < s.2.1))) then (bif ((decide (((0 : Int) ≤ s.2.2.1))) && (decide ((s.2.2.1 < ((List.length s.1) : Int))))) then (((book_Post.li1 (((List.length s.2.2.2) : Int), ((0 : Int), (((List.length s.2.2.2) : Int), (s.2.2.2, ((List.getD s.1 (Int.toNat s.2.2.1) (Ty.dflt T_api_Balance)).1.1, ((List.getD s.1 (Int.toNat s.2.2.1) (Ty.dflt T_api_Balance)).1.2, ((List.getD s.1 (Int.toNat s.2.2.1) (Ty.dflt T_api_Balance)).2, ((List.getD s.1 (Int.toNat s.2.2.1) (Ty.dflt T_api_Balance)).1.1, ((List.getD s.1 (Int.toNat s.2.2.1) (Ty.dflt T_api_Balance)).1.2, ((List.getD s.1 (Int.toNat s.2.2.1) (Ty.dflt T_api_Balance)).2, ((List.getD s.1 (Int.toNat s.2.2.1) (Ty.dflt T_api_Balance)).1.1, ((List.getD s.1 (Int.toNat s.2.2.1) (Ty.dflt T_api_Balance)).1.2, (List.getD s.1 (Int.toNat s.2.2.1) (Ty.dflt T_api_Balance)).1)))))))))))))).bind fun x4 => (bif (decide ((x4.2.1 < x4.1))) then (bif ((decide (((0 : Int) ≤ x4.2.1))) && (decide ((x4.2.1 < ((List.length x4.2.2.1) : Int))))) then (bif (true && (Nat.blt (0 + (Int.toNat x4.2.1)) (List.length x4.2.2.1))) then (((book_find_1.f ((List.getD x4.2.2.1 (0 + (Int.toNat x4.2.1)) (Ty.dflt T_api_Balance)), x4.2.2.2.2.2.2.2.2.2.2.2))).bind fun x5 => (bif (!(x5 == (0 : Int))) then (bif ((true && (!false)) && ((((decide (((0 : Int) ≤ x4.2.1))) && (decide ((x4.2.1 ≤ ((List.length x4.2.2.1) : Int))))) && (Nat.ble (((List.length x4.2.2.1) + 1) * 32) 140737488355328)) && (Nat.ble ((List.length x4.2.2.1) + 1) 140737488355328))) then (some (.inl (s.1, (s.2.1, ((IntKind.wrap .i64 (s.2.2.1 + (1 : Int))), (((List.take (Int.toNat x4.2.1) x4.2.2.1) ++ (((x4.2.2.2.2.2.2.1, x4.2.2.2.2.2.2.2.1), x4.2.2.2.2.2.2.2.2.1) :: [])) ++ (List.drop (Int.toNat x4.2.1) x4.2.2.1))))))) else none) else (bif ((decide (((0 : Int) ≤ x4.2.1))) && (decide ((x4.2.1 < ((List.length x4.2.2.1) : Int))))) then (bif (true && (Nat.blt (0 + (Int.toNat x4.2.1)) (List.length x4.2.2.1))) then (((money_Add.f ((List.getD x4.2.2.1 (0 + (Int.toNat x4.2.1)) (Ty.dflt T_api_Balance)).2, x4.2.2.2.2.2.2.2.2.1))).bind fun x6 => (bif ((decide (((0 : Int) ≤ x4.2.1))) && (decide ((x4.2.1 < ((List.length x4.2.2.1) : Int))))) then (bif (true && (Nat.blt (0 + (Int.toNat x4.2.1)) (List.length x4.2.2.1))) then (bif (x6.1 == (0 : Int)) then (bif (true && (true && (delB x4.2.1 (IntKind.wrap .i64 (x4.2.1 + (1 : Int))) (List.length (List.set x4.2.2.1 (0 + (Int.toNat x4.2.1)) ((List.getD x4.2.2.1 (0 + (Int.toNat x4.2.1)) (Ty.dflt T_api_Balance)).1, x6.1)))))) then (bif (x6.2 != (0 : Int)) then (some (.inr (.inl ([], x6.2)))) else (some (.inl (s.1, (s.2.1, ((IntKind.wrap .i64 (s.2.2.1 + (1 : Int))), ((List.take (Int.toNat x4.2.1) (List.set x4.2.2.1 (0 + (Int.toNat x4.2.1)) ((List.getD x4.2.2.1 (0 + (Int.toNat x4.2.1)) (Ty.dflt T_api_Balance)).1, x6.1))) ++ (List.drop ((Int.toNat x4.2.1) + 1) (List.set x4.2.2.1 (0 + (Int.toNat x4.2.1)) ((List.getD x4.2.2.1 (0 + (Int.toNat x4.2.1)) (Ty.dflt T_api_Balance)).1, x6.1)))))))))) else none) else (bif (x6.2 != (0 : Int)) then (some (.inr (.inl ([], x6.2)))) else (some (.inl (s.1, (s.2.1, ((IntKind.wrap .i64 (s.2.2.1 + (1 : Int))), (List.set x4.2.2.1 (0 + (Int.toNat x4.2.1)) ((List.getD x4.2.2.1 (0 + (Int.toNat x4.2.1)) (Ty.dflt T_api_Balance)).1, x6.1))))))))) else none) else none)) else none) else none))) else none) else none) else (bif ((true && (!false)) && ((((decide (((0 : Int) ≤ x4.2.1))) && (decide ((x4.2.1 ≤ ((List.length x4.2.2.1) : Int))))) && (Nat.ble (((List.length x4.2.2.1) + 1) * 32) 140737488355328)) && (Nat.ble ((List.length x4.2.2.1) + 1) 140737488355328))) then (some (.inl (s.1, (s.2.1, ((IntKind.wrap .i64 (s.2.2.1 + (1 : Int))), (((List.take (Int.toNat x4.2.1) x4.2.2.1) ++ (((x4.2.2.2.2.2.2.1, x4.2.2.2.2.2.2.2.1), x4.2.2.2.2.2.2.2.2.1) :: [])) ++ (List.drop (Int.toNat x4.2.1) x4.2.2.1))))))) else none))) else none) else (some (.inr (.inr s.2.2.2))))
theorem book_Post.t11p_ok : ∀ s : Vals book_Post.sh11p.tys, turnK P book_Post.H2 (lp []) (bodyAt (codeOf P 7) 11) 0 book_Post.sh11p book_Post.os11p s some = book_Post.t11p s := fun s => by kernel_rfl
noncomputable def book_Post.l11p : ((List ((Int × ByteArray) × Int)) × (Int × (Int × (List ((Int × ByteArray) × Int))))) → Option (((List ((Int × ByteArray) × Int)) × Int) ⊕ (List ((Int × ByteArray) × Int))) := rounds book_Post.t11p
noncomputable def book_Post.t11 (s : ((List ((Int × ByteArray) × Int)) × (Int × Int))) : Option (Vals book_Post.sh11p.tys ⊕ OutV book_Post.os11p) := (bif (decide ((s.2.2 < s.2.1))) then (bif ((decide (((0 : Int) ≤ s.2.2))) && (decide ((s.2.2 < ((List.length s.1) : Int))))) then (((book_Post.li0 ([], ((0 : Int), ((0 : Int), ((0 : Int), ((List.getD s.1 (Int.toNat s.2.2) (Ty.dflt T_api_Balance)).1.1, ((List.getD s.1 (Int.toNat s.2.2) (Ty.dflt T_api_Balance)).1.2, ((List.getD s.1 (Int.toNat s.2.2) (Ty.dflt T_api_Balance)).2, ((List.getD s.1 (Int.toNat s.2.2) (Ty.dflt T_api_Balance)).1.1, ((List.getD s.1 (Int.toNat s.2.2) (Ty.dflt T_api_Balance)).1.2, ((List.getD s.1 (Int.toNat s.2.2) (Ty.dflt T_api_Balance)).2, ((List.getD s.1 (Int.toNat s.2.2) (Ty.dflt T_api_Balance)).1.1, ((List.getD s.1 (Int.toNat s.2.2) (Ty.dflt T_api_Balance)).1.2, (List.getD s.1 (Int.toNat s.2.2) (Ty.dflt T_api_Balance)).1)))))))))))))).bind fun x3 => (bif (decide ((x3.2.2.1 < x3.2.1))) then (bif ((decide (((0 : Int) ≤ x3.2.2.1))) && (decide ((x3.2.2.1 < ((List.length x3.1) : Int))))) then (((book_find_1.f ((List.getD x3.1 (Int.toNat x3.2.2.1) (Ty.dflt T_api_Balance)), x3.2.2.2.2.2.2.2.2.2.2.2))).bind fun x4 => (bif (!(x4 == (0 : Int))) then (bif (true && ((((decide (((0 : Int) ≤ x3.2.2.1))) && (decide ((x3.2.2.1 ≤ (0 : Int))))) && true) && true)) then (some (.inl (s.1, (s.2.1, ((IntKind.wrap .i64 (s.2.2 + (1 : Int))), (((List.take (Int.toNat x3.2.2.1) []) ++ (((x3.2.2.2.2.2.2.1, x3.2.2.2.2.2.2.2.1), x3.2.2.2.2.2.2.2.2.1) :: [])) ++ (List.drop (Int.toNat x3.2.2.1) []))))))) else none) else (bif ((decide (((0 : Int) ≤ x3.2.2.1))) && (decide ((x3.2.2.1 < (0 : Int))))) then (((money_Add.f ((List.getD [] (Int.toNat x3.2.2.1) (Ty.dflt T_api_Balance)).2, x3.2.2.2.2.2.2.2.2.1))).bind fun x5 => (bif ((decide (((0 : Int) ≤ x3.2.2.1))) && (decide ((x3.2.2.1 < (0 : Int))))) then none else none)) else none))) else none) else (bif (true && ((((decide (((0 : Int) ≤ x3.2.2.1))) && (decide ((x3.2.2.1 ≤ (0 : Int))))) && true) && true)) then (some (.inl (s.1, (s.2.1, ((IntKind.wrap .i64 (s.2.2 + (1 : Int))), (((List.take (Int.toNat x3.2.2.1) []) ++ (((x3.2.2.2.2.2.2.1, x3.2.2.2.2.2.2.2.1), x3.2.2.2.2.2.2.2.2.1) :: [])) ++ (List.drop (Int.toNat x3.2.2.1) []))))))) else none))) else none) else (some (.inr (.inr []))))
theorem book_Post.t11_ok : ∀ s : Vals book_Post.sh11.tys, turnK2 P book_Post.H1 (lp []) (bodyAt (codeOf P 7) 11) 0 book_Post.sh11 book_Post.sh11p book_Post.os11p s some = book_Post.t11 s := fun s => by kernel_rfl
noncomputable def book_Post.l11 (s : ((List ((Int × ByteArray) × Int)) × (Int × Int))) : Option (OutV book_Post.os11p) := peel book_Post.t11 book_Post.l11p s
noncomputable def book_Post.f (a : ((List ((Int × ByteArray) × Int)) × (Int × (ByteArray × (List ((Int × ByteArray) × Int)))))) : Option ((List ((Int × ByteArray) × Int)) × Int) := (((book_May.f a.1)).bind fun x2 => (bif (!x2) then (some ([], (1 : Int))) else (((entry_Check.f a.2)).bind fun x3 => (bif (x3 != (0 : Int)) then (some ([], x3)) else (((slices_Clone_api_Balance_api_Balance.f a.1)).bind fun x4 => (match x4 with | [] => (((book_Post.l11 (a.2.2.2, (((List.length a.2.2.2) : Int), (0 : Int))))).bind fun x5 => (match x5 with | .inl x6 => (some x6) | .inr x6 => (bif (decide ((((List.length x6) : Int) > (200 : Int)))) then (some ([], (9 : Int))) else (some (x6, (0 : Int)))))) | x5 :: x6 => (((book_Post.l11p (a.2.2.2, (((List.length a.2.2.2) : Int), ((0 : Int), (x5 :: x6)))))).bind fun x7 => (match x7 with | .inl x8 => (some x8) | .inr x8 => (bif (decide ((((List.length x8) : Int) > (200 : Int)))) then (some ([], (9 : Int))) else (some (x8, (0 : Int))))))))))))
theorem book_Post.ok : ∀ a : Vals book_Post.As.tys, fnK P book_Post.H2 (lp [(11, (orS 0 book_Post.sh11 (NodeT.summ ⟨book_Post.sh11, book_Post.os11p, book_Post.l11⟩ 0) (NodeT.summ ⟨book_Post.sh11p, book_Post.os11p, book_Post.l11p⟩ 0)))]) 7 book_Post.As book_Post.m a some = book_Post.f a := fun a => by kernel_rfl
noncomputable abbrev book_Post.row : Row := fnRow 7 book_Post.As book_Post.m book_Post.f
theorem book_Post.row_ok : RowOK P G0 book_Post.row := row_told book_Post.hok2 (lp_of (l := [(11, (orS 0 book_Post.sh11 (NodeT.summ ⟨book_Post.sh11, book_Post.os11p, book_Post.l11⟩ 0) (NodeT.summ ⟨book_Post.sh11p, book_Post.os11p, book_Post.l11p⟩ 0)))]) ⟨(or_sum (loop_peel book_Post.hok1 book_Post.hok2 ((hk_G _).trans (hk_G _).symm) (by kernel_rfl) (by kernel_rfl) (l := []) trivial (l' := []) trivial book_Post.sh11 book_Post.sh11p book_Post.os11p (by kernel_rfl) book_Post.t11p book_Post.t11p_ok book_Post.t11 book_Post.t11_ok) (loop_sum book_Post.hok2 (by kernel_rfl) (by kernel_rfl) (l := []) trivial book_Post.sh11p book_Post.os11p (by kernel_rfl) book_Post.t11p book_Post.t11p_ok)), trivial⟩) (fun _ => rfl) book_Post.ok
end Go.Proofs.YtgipbdecogfgjaaGreatDoor
end
section
set_option linter.unusedVariables false
set_option linter.unusedSimpArgs false
namespace Go.Proofs.YtgipbdecogfgjaaGreatDoor
open Go Go.Fw
open Go.Lib (compareBytes)
theorem less_is : ∀ a b : List UInt8, Op.bytesLess a b = decide (compareBytes a b < 0)
  | [], [] => rfl
  | _ :: _, [] => rfl
  | [], _ :: _ => rfl
  | x :: xs, y :: ys => by
    unfold Op.bytesLess compareBytes
    by_cases h1 : x < y
    · rw [if_pos h1, decide_eq_true h1]; rfl
    · rw [if_neg h1, decide_eq_false h1, Bool.false_or]
      by_cases h2 : y < x
      · have : (x == y) = false := by
          rw [beq_eq_false_iff_ne]
          rintro rfl
          exact h1 h2
        rw [if_pos h2, this]; rfl
      · have e : x = y := by
          rw [UInt8.lt_iff_toNat_lt] at h1 h2
          exact UInt8.toNat_inj.1 (by omega)
        subst e
        rw [if_neg h2, BEq.rfl, Bool.true_and, less_is xs ys]
theorem cb_range : ∀ a b : List UInt8, compareBytes a b = -1 ∨ compareBytes a b = 0 ∨ compareBytes a b = 1
  | [], [] => .inr (.inl rfl)
  | _ :: _, [] => .inr (.inr rfl)
  | [], _ :: _ => .inl rfl
  | x :: xs, y :: ys => by
    unfold compareBytes
    by_cases h1 : x < y
    · rw [if_pos h1]; exact .inl rfl
    · rw [if_neg h1]
      by_cases h2 : y < x
      · rw [if_pos h2]; exact .inr (.inr rfl)
      · rw [if_neg h2]; exact cb_range xs ys
theorem compare_is (x y : ByteArray) : cmp_Compare_string.f (x, y) = some (compareBytes x.data.toList y.data.toList) := by
  unfold cmp_Compare_string.f
  simp only [BEq.rfl, Bool.not_true, cond_false, ByteArray.toList_eq, less_is]
  rcases cb_range x.data.toList y.data.toList with h | h | h
  · rw [h]; rfl
  · rw [h, cb_eq _ _ h, BEq.rfl]; rfl
  · have hne : (x.data.toList == y.data.toList) = false := by
      rw [beq_eq_false_iff_ne]
      intro e
      rw [e, cb_self] at h
      cases h
    rw [h, hne]; rfl
theorem maySB_size {a : Acc} (h : maySB a = true) : a.2.size ≤ 16 := by
  obtain ⟨k, s⟩ := a
  rcases maySB_kind h with h1 | h2 | ⟨_, h3⟩
  · have h1 : k = 1 := h1
    subst h1
    have h : cardB s = true := h
    unfold cardB at h
    simp only [Bool.and_eq_true, beq_iff_eq] at h
    show s.size ≤ 16
    omega
  · have h2 : k = 2 := h2
    subst h2
    have h : acqB s = true := h
    unfold acqB at h
    simp only [Bool.and_eq_true, beq_iff_eq] at h
    show s.size ≤ 16
    omega
  · have h3 : s = bs [] := h3
    subst h3
    show (bs []).size ≤ 16
    decide
theorem name_is {a : Acc} (h : maySB a = true) : chart_Name.f a = some (nameT a, 0) := by
  have hm := chartMay_is a
  have hs := maySB_size h
  have p := maySB_kind h
  unfold chart_Name.f nameT
  rw [hm, h]
  obtain ⟨k, s⟩ := a
  have hs : s.size ≤ 16 := hs
  simp only at p
  rcases p with rfl | rfl | ⟨rfl | rfl, _⟩ <;> (simp only [Option.bind_some, Bool.not_true, cond_false, cond_true]; rw [Nat.ble_eq_true_of_le (show 1 + s.size ≤ 9223372036854775807 by omega), bs_cons]; rfl)
theorem order_is {a b : Acc} (ha : maySB a = true) (hb : maySB b = true) : chart_Order.f (a, b) = some (ordA a b) := by
  unfold chart_Order.f
  simp only [name_is ha, name_is hb, Option.bind_some, BEq.rfl, cond_true, compare_is]
  rfl
theorem find1_is {y : Lin} {a : Acc} (hy : maySB y.1 = true) (ha : maySB a = true) : book_find_1.f (y, a) = some (ordA y.1 a) := by
  unfold book_find_1.f
  simp only [order_is hy ha, Option.bind_some]
theorem Bk.at {l : List Lin} {m : Int} (hb : Bk l m) {i : Nat} (hi : i < l.length) : maySB (l.getD i zL).1 = true ∧ (l.getD i zL).2 ≠ 0 ∧ - m ≤ (l.getD i zL).2 ∧ (l.getD i zL).2 ≤ m := by
  have h : l.getD i zL ∈ l := by rw [getD_at hi]; exact List.getElem_mem hi
  exact ⟨hb.may _ h, hb.nz _ h, hb.fit _ h⟩
theorem Bk.lt {l : List Lin} {m : Int} (hb : Bk l m) {i j : Nat} (hij : i < j) (hj : j < l.length) : ordA (l.getD i zL).1 (l.getD j zL).1 < 0 := by
  rw [getD_at hj, getD_at (show i < l.length by omega)]
  exact List.pairwise_iff_getElem.1 hb.srt i j (by omega) hj hij
def belowA (l : List Lin) (a : Acc) (i : Nat) : Bool := decide (ordA (l.getD i zL).1 a < 0)
theorem Bk.mono {l : List Lin} {m : Int} (hb : Bk l m) (a : Acc) (i j : Nat) (hij : i ≤ j) (hj : j < l.length) (h : belowA l a j = true) : belowA l a i = true := by
  rcases Nat.lt_or_eq_of_le hij with h1 | rfl
  · unfold belowA at h ⊢
    rw [decide_eq_true_eq] at h ⊢
    exact ordA_trans (hb.lt h1 hj) (Int.le_of_lt h)
  · exact h
theorem at_of {l : List Lin} {a : Acc} {k : Nat} (h0 : k ≤ l.length) (h1 : ∀ i, i < k → belowA l a i = true) (h2 : ∀ i, k ≤ i → i < l.length → belowA l a i = false) : At l a k := by
  refine ⟨h0, fun y hy => ?_, fun y hy => ?_⟩
  · obtain ⟨i, hi, rfl⟩ := List.getElem_of_mem hy
    have hi' : i < k ∧ i < l.length := by simp at hi; omega
    have := h1 i hi'.1
    unfold belowA at this
    rw [getD_at hi'.2, decide_eq_true_eq] at this
    rw [List.getElem_take]
    exact this
  · obtain ⟨i, hi, rfl⟩ := List.getElem_of_mem hy
    have hi' : k + i < l.length := by simp at hi; omega
    have := h2 (k + i) (by omega) hi'
    unfold belowA at this
    rw [getD_at hi', decide_eq_false_iff_not] at this
    rw [List.getElem_drop]
    omega
theorem blt_at {i n : Nat} (h : i < n) : Nat.blt i n = true := Nat.ble_eq_true_of_le h
theorem dflt_bal : (Ty.dflt T_api_Balance : (Int × ByteArray) × Int) = zL := rfl
theorem ltij {i j : Nat} (h : i < j) : decide ((i : Int) < (j : Int)) = true := decide_eq_true (by omega)
theorem find_get {l : List Lin} {m : Int} {a : Acc} (hb : Bk l m) (ha : maySB a = true) (hl : l.length ≤ 1000) (k1 : Int) (s1 : ByteArray) (k2 : Int) (s2 : ByteArray) :
    ∃ k, At l a k ∧ book_Get.li0 (l, (l.length : Int), 0, (l.length : Int), k1, s1, k2, s2, a) = some (l, (l.length : Int), (k : Int), k1, s1, k2, s2, a) := by
  obtain ⟨k, h0, h1, h2, h3⟩ := bin_rounds (t := book_Get.ti0) l.length (belowA l a) (hb.mono a) (fun i j => (l, (l.length : Int), (i : Int), (j : Int), k1, s1, k2, s2, a)) (fun i => (l, (l.length : Int), (i : Int), k1, s1, k2, s2, a)) (fun i j hij hj => by
    have hm : (i + j) / 2 < l.length := by omega
    simp only [book_Get.ti0, ltij hij, cond_true, mid_is (show i + j < 4611686018427387904 by omega), ge0', inb hm, Bool.and_self, Int.toNat_natCast, dflt_bal, find1_is (hb.at hm).1 ha, Option.bind_some, wrap_up (show (i + j) / 2 < 9223372036854775807 by omega)]
    unfold belowA
    cases decide (ordA (l.getD ((i + j) / 2) zL).1 a < 0) <;> rfl) (fun i hi => by simp only [book_Get.ti0, outb, cond_false])
  exact ⟨k, at_of h0 h1 h2, h3⟩
theorem find_post {l : List Lin} {m : Int} {a : Acc} (hb : Bk l m) (ha : maySB a = true) (hl : l.length ≤ 1000) (k1 : Int) (s1 : ByteArray) (n1 k2 : Int) (s2 : ByteArray) (n2 k3 : Int) (s3 : ByteArray) :
    ∃ k, At l a k ∧ book_Post.li1 ((l.length : Int), 0, (l.length : Int), l, k1, s1, n1, k2, s2, n2, k3, s3, a) = some ((l.length : Int), (k : Int), l, k1, s1, n1, k2, s2, n2, k3, s3, a) := by
  obtain ⟨k, h0, h1, h2, h3⟩ := bin_rounds (t := book_Post.ti1) l.length (belowA l a) (hb.mono a) (fun i j => ((l.length : Int), (i : Int), (j : Int), l, k1, s1, n1, k2, s2, n2, k3, s3, a)) (fun i => ((l.length : Int), (i : Int), l, k1, s1, n1, k2, s2, n2, k3, s3, a)) (fun i j hij hj => by
    have hm : (i + j) / 2 < l.length := by omega
    simp only [book_Post.ti1, ltij hij, cond_true, mid_is (show i + j < 4611686018427387904 by omega), ge0', inb hm, blt_at hm, Bool.and_self, Int.toNat_natCast, dflt_bal, Nat.zero_add, find1_is (hb.at hm).1 ha, Option.bind_some, wrap_up (show (i + j) / 2 < 9223372036854775807 by omega)]
    unfold belowA
    cases decide (ordA (l.getD ((i + j) / 2) zL).1 a < 0) <;> rfl) (fun i hi => by simp only [book_Post.ti1, outb, cond_false])
  exact ⟨k, at_of h0 h1 h2, h3⟩
theorem find_post0 (k1 : Int) (s1 : ByteArray) (n1 k2 : Int) (s2 : ByteArray) (n2 k3 : Int) (s3 : ByteArray) (a : Acc) :
    book_Post.li0 ([], 0, 0, 0, k1, s1, n1, k2, s2, n2, k3, s3, a) = some ([], 0, 0, k1, s1, n1, k2, s2, n2, k3, s3, a) := rounds_end rfl
theorem bookMay_is {l : List Lin} {m : Int} (hb : Bk l m) (hm : m ≤ 9223372036854775807) (ht : tot l = 0) (hl : l.length ≤ 1000) : book_May.f l = some (decide (l.length ≤ 200)) := by
  have hr := rounds_map (t := book_May.t4) l zL (fun y => y.2) (fun acc i => (l, l, (l.length : Int), ((i : Nat) : Int), acc)) (fun acc => .inr (l, acc)) (fun i hi => by
    have hl' : ((l.take i).map (fun y : Lin => y.2)).length ≤ 1000 := by simp; omega
    have e0 : ((l.getD i zL).2 == 0) = false := by simpa using (hb.at hi).2.1
    have hn : ((((l.take i).map (fun y : Lin => y.2)).length + 1) * 8).ble 140737488355328 = true := Nat.ble_eq_true_of_le (by omega)
    have hn2 : (((l.take i).map (fun y : Lin => y.2)).length + 1).ble 140737488355328 = true := Nat.ble_eq_true_of_le (by omega)
    simp only [book_May.t4, inb hi, cond_true, ge0' i, Bool.and_self, Int.toNat_natCast, dflt_bal, chartMay_is, (hb.at hi).1, Option.bind_some, Bool.not_true, cond_false, e0, List.length_cons, List.length_nil, Nat.zero_add, hn, hn2, wrap_up (show i < 9223372036854775807 by omega)]
    by_cases h0 : i = 0
    · subst h0
      simp only [Int.natCast_zero, show decide ((0 : Int) > 0) = false from rfl, cond_false, cond_true, List.getD_eq_getElem?_getD]
    · obtain ⟨j, rfl⟩ : ∃ j, i = j + 1 := ⟨i - 1, by omega⟩
      have ej : IntKind.wrap .i64 (((j + 1 : Nat) : Int) - 1) = (j : Int) := by rw [wrap_i64 (by omega) (by omega)]; omega
      have hlt := hb.lt (show j < j + 1 by omega) hi
      simp only [decide_eq_true (show ((j + 1 : Nat) : Int) > 0 by omega), cond_true, ej, ge0', inb (show j < l.length by omega), Bool.and_self, Int.toNat_natCast, order_is (hb.at (show j < l.length by omega)).1 (hb.at hi).1, Option.bind_some,
        decide_eq_false (show ¬ ordA (l.getD j zL).1 (l.getD (j + 1) zL).1 ≥ 0 by omega), cond_false]) (fun acc _ => by simp only [book_May.t4, outb, cond_false])
  have ha : Amounts (l.map (·.2)) := by
    intro a ha
    obtain ⟨y, hy, rfl⟩ := List.mem_map.1 ha
    have := hb.fit y hy
    omega
  have hsum : (l.map (·.2)).sum = 0 := ht
  unfold book_May.f book_May.l4
  have hr : rounds book_May.t4 (l, l, (l.length : Int), 0, []) = some (.inr (l, l.map (fun y => y.2))) := hr
  rw [hr, Option.bind_some]
  simp only [money_Sum_is (l := l.map (fun y => y.2)) (by simp; omega) ha]
  rw [show (l.map (fun y : Lin => y.2)).sum = 0 from ht, sumS_of (by unfold Am; omega)]
  simp only [Option.bind_some, BEq.rfl]
  by_cases h : l.length ≤ 200
  · rw [decide_eq_true h, decide_eq_true (show ((l.length : Nat) : Int) ≤ 200 by omega)]; rfl
  · rw [decide_eq_false h, decide_eq_false (show ¬ ((l.length : Nat) : Int) ≤ 200 by omega)]; rfl
theorem bookGet_is {l : List Lin} {m : Int} (hb : Bk l m) (hm : m ≤ 9223372036854775807) (ht : tot l = 0) (hl : l.length ≤ 200) (a : Acc) : book_Get.f (l, a) = some (bal l a) := by
  unfold book_Get.f
  simp only [bookMay_is hb hm ht (show l.length ≤ 1000 by omega), decide_eq_true hl, Option.bind_some, Bool.not_true, cond_false, chartMay_is]
  cases ha : maySB a
  · rw [bal_none fun y hy e => by rw [← e, hb.may y hy] at ha; cases ha]; rfl
  · obtain ⟨k, hk, hf⟩ := find_get hb ha (show l.length ≤ 1000 by omega) a.1 a.2 a.1 a.2
    simp only [Bool.not_true, cond_false, hf, Option.bind_some]
    by_cases hkl : k < l.length
    · simp only [inb hkl, cond_true, ge0', Bool.and_self, Int.toNat_natCast, dflt_bal, find1_is (hb.at hkl).1 ha, Option.bind_some]
      by_cases he : ordA (l.getD k zL).1 a = 0
      · obtain ⟨_, h2, _⟩ := hk.there hb ha hkl he
        rw [he, h2]; rfl
      · obtain ⟨_, h2⟩ := hk.none hb fun _ => he
        rw [show (ordA (l.getD k zL).1 a == 0) = false by simpa using he, h2]; rfl
    · have : k = l.length := by have := hk.le; omega
      subst this
      obtain ⟨_, h2⟩ := hk.none hb fun h => absurd h (by omega)
      rw [h2, outb]; rfl

def goodAm (x : List Lin) (n : Int) : Prop := ∀ y ∈ x, maySB y.1 = true ∧ y.2 ≠ 0 ∧ - n ≤ y.2 ∧ y.2 ≤ n
theorem Bk.more {l : List Lin} {m m' : Int} (hb : Bk l m) (h : m ≤ m') : Bk l m' := ⟨hb.srt, hb.may, hb.nz, fun y hy => by have := hb.fit y hy; omega⟩
theorem setTwo {α : Type} (l : List α) {k : Nat} (h : k < l.length) (x : α) : l.set k x = l.take k ++ x :: l.drop (k + 1) := List.set_eq_take_append_cons_drop.trans (if_pos h)
theorem takeSet {α : Type} (l : List α) (k : Nat) (x : α) : (l.set k x).take k = l.take k := by
  rw [List.take_set_of_le (Nat.le_refl k)]
theorem dropSet {α : Type} (l : List α) (k : Nat) (x : α) : (l.set k x).drop (k + 1) = l.drop (k + 1) := by
  rw [List.drop_set_of_lt (by omega)]
theorem turn_post {L l : List Lin} {m n : Int} {i : Nat} (hb : Bk l m) (hL : goodAm L n) (hi : i < L.length) (hLl : L.length ≤ 1000) (h0 : 0 ≤ m ∧ 0 ≤ n) (hm : m + n ≤ 9223372036854775807) (hl : l.length ≤ 990) :
    ∃ l', book_Post.t11p (L, (L.length : Int), (i : Int), l) = some (.inl (L, (L.length : Int), ((i + 1 : Nat) : Int), l')) ∧ Bk l' (m + n) ∧ (∀ c, bal l' c = bal l c + if (L.getD i zL).1 = c then (L.getD i zL).2 else 0) ∧ tot l' = tot l + (L.getD i zL).2 ∧ l'.length ≤ l.length + 1 := by
  have hy : L.getD i zL ∈ L := by rw [getD_at hi]; exact List.getElem_mem hi
  obtain ⟨⟨a, v⟩, hav⟩ : ∃ y, L.getD i zL = y := ⟨_, rfl⟩
  obtain ⟨g1, g2, g3, g4⟩ := hL _ hy
  rw [hav] at g1 g2 g3 g4 ⊢
  simp only at g1 g2 g3 g4 ⊢
  obtain ⟨k, hk, hf⟩ := find_post hb g1 (show l.length ≤ 1000 by omega) a.1 a.2 v a.1 a.2 v a.1 a.2
  have hkl := hk.le
  have hn1 : Nat.ble ((l.length + 1) * 32) 140737488355328 = true := Nat.ble_eq_true_of_le (by omega)
  have hn2 : Nat.ble (l.length + 1) 140737488355328 = true := Nat.ble_eq_true_of_le (by omega)
  have hle : decide ((k : Int) ≤ (l.length : Int)) = true := decide_eq_true (by omega)
  have hw := wrap_up (n := i) (by omega)
  unfold book_Post.t11p
  simp only [inb hi, cond_true, ge0', Bool.and_self, Int.toNat_natCast, dflt_bal, hav]
  rw [hf]
  simp only [Option.bind_some]
  -- a new account
  have hnew : (k < l.length → ordA (l.getD k zL).1 a ≠ 0) → ∃ l', l' = l.take k ++ [(a, v)] ++ l.drop k ∧ Bk l' (m + n) ∧ (∀ c, bal l' c = bal l c + if a = c then v else 0) ∧ tot l' = tot l + v ∧ l'.length ≤ l.length + 1 := fun hn => by
    obtain ⟨hh, _⟩ := hk.none hb hn
    have := Bk.ins (n := v) (hb.more (show m ≤ m + n by omega)) g1 ⟨g2, by omega, by omega⟩ hk hh
    exact ⟨_, rfl, this.1, this.2.1, this.2.2, by simp; omega⟩
  by_cases hkk : k < l.length
  · simp only [inb hkk, cond_true, ge0', Bool.and_self, Int.toNat_natCast, dflt_bal, Nat.zero_add, blt_at hkk, Bool.true_and, find1_is (hb.at hkk).1 g1, Option.bind_some]
    by_cases he : ordA (l.getD k zL).1 a = 0
    · obtain ⟨e1, _, _, _⟩ := hk.there hb g1 hkk he
      have hat := hb.at hkk
      have hadd := money_Add_is (a := (l.getD k zL).2) (b := v) (by unfold Am; omega) (by unfold Am; omega)
      rw [sumS_of (show Am ((l.getD k zL).2 + v) by unfold Am; omega)] at hadd
      rw [he]
      simp only [BEq.rfl, Bool.not_true, cond_false, hadd, Option.bind_some, bne_self_eq_false, hw]
      by_cases hz : (l.getD k zL).2 + v = 0
      · have hd := hb.del hkk e1
        have hdel : delB (k : Int) (IntKind.wrap .i64 ((k : Int) + 1)) (l.set k ((l.getD k zL).1, (l.getD k zL).2 + v)).length = true := by
          unfold delB
          rw [List.length_set, wrap_up (by omega), ge0', inb hkk, decide_eq_true (show ((k + 1 : Nat) : Int) = (k : Int) + 1 by omega), Nat.ble_eq_true_of_le (show l.length ≤ 140737488355328 by omega)]; rfl
        simp only [hdel, cond_true, show ((l.getD k zL).2 + v == 0) = true by rw [hz]; rfl, takeSet, dropSet]
        refine ⟨_, rfl, hd.1.more (by omega), fun c => ?_, ?_, ?_⟩
        · rw [hd.2.1 c]
          by_cases hc : a = c
          · rw [if_pos hc, if_pos hc]; omega
          · rw [if_neg hc, if_neg hc]
        · rw [hd.2.2]; omega
        · simp; omega
      · have hu := hb.upd (s := (l.getD k zL).2 + v) (m' := m + n) (by omega) hkk e1 ⟨hz, by omega, by omega⟩
        simp only [show ((l.getD k zL).2 + v == 0) = false by simpa using hz, cond_false, e1, setTwo l hkk]
        refine ⟨_, rfl, hu.1, fun c => ?_, ?_, ?_⟩
        · rw [hu.2.1 c]
          by_cases hc : a = c
          · rw [if_pos hc, if_pos hc]; omega
          · rw [if_neg hc, if_neg hc]
        · rw [hu.2.2]; omega
        · simp; omega
    · obtain ⟨l', rfl, h1, h2, h3, h4⟩ := hnew fun _ => he
      simp only [show (ordA (l.getD k zL).1 a == 0) = false by simpa using he, Bool.not_false, cond_true, hle, hn1, hn2, Bool.and_self, hw]
      exact ⟨_, rfl, h1, h2, h3, h4⟩
  · obtain ⟨l', rfl, h1, h2, h3, h4⟩ := hnew fun h => absurd h hkk
    have e : k = l.length := by omega
    simp only [show decide ((k : Int) < (l.length : Int)) = false by rw [e]; exact outb _, cond_false, Bool.not_false, cond_true, ge0', hle, hn1, hn2, Bool.and_self, hw, Int.toNat_natCast]
    exact ⟨_, rfl, h1, h2, h3, h4⟩
theorem turn_post0 {L : List Lin} (hi : 0 < L.length) (hLl : L.length ≤ 1000) : book_Post.t11 (L, (L.length : Int), 0) = some (.inl (L, (L.length : Int), ((1 : Nat) : Int), [L.getD 0 zL])) := by
  have h0 := inb hi
  unfold book_Post.t11
  simp only [Int.natCast_zero] at h0
  simp only [h0, cond_true, show decide ((0 : Int) ≤ 0) = true from rfl, Bool.and_self, Int.toNat_zero, dflt_bal]
  rw [find_post0]
  rfl
theorem lines_post {L : List Lin} {n : Int} (hL : goodAm L n) (hLl : L.length ≤ 8) (hn : 0 ≤ n) : ∀ d i, L.length = i + d → ∀ (l : List Lin) (m : Int), Bk l m → 0 ≤ m → m + d * n ≤ 9223372036854775807 → l.length + d ≤ 990 →
    ∃ l', rounds book_Post.t11p (L, (L.length : Int), (i : Int), l) = some (.inr l') ∧ Bk l' (m + d * n) ∧ (∀ c, bal l' c = bal l c + bal (L.drop i) c) ∧ tot l' = tot l + tot (L.drop i) ∧ l'.length ≤ l.length + d := by
  intro d
  induction d with
  | zero =>
    intro i hi l m hb h0 hm hl
    have : i = L.length := by omega
    subst this
    refine ⟨l, rounds_end (by simp only [book_Post.t11p, outb, cond_false]), hb.more (by omega), fun c => ?_, ?_, by omega⟩
    · rw [List.drop_length]; show _ = _ + 0; omega
    · rw [List.drop_length]; show _ = _ + 0; omega
  | succ d ih =>
    intro i hi l m hb h0 hm hl
    have hd : ((d + 1 : Nat) : Int) * n = d * n + n := by rw [Int.natCast_add, Int.add_mul]; omega
    have hdn : 0 ≤ (d : Int) * n := Int.mul_nonneg (by omega) hn
    rw [hd] at hm ⊢
    obtain ⟨l1, h1, h2, h3, h4, h5⟩ := turn_post (i := i) hb hL (by omega) (by omega) ⟨h0, hn⟩ (by omega) (by omega)
    obtain ⟨l2, g1, g2, g3, g4, g5⟩ := ih (i + 1) (by omega) l1 (m + n) h2 (by omega) (by omega) (by omega)
    have e : L.drop i = L.getD i zL :: L.drop (i + 1) := by rw [getD_at (show i < L.length by omega), ← List.drop_eq_getElem_cons]
    refine ⟨l2, by rw [rounds_next h1, g1], g2.more (by omega), fun c => ?_, ?_, by omega⟩
    · rw [g3 c, h3 c, e, bal_cons]; omega
    · rw [g4, h4, e, tot_cons]; omega
theorem Bk.one {y : Lin} {n : Int} (h : maySB y.1 = true ∧ y.2 ≠ 0 ∧ - n ≤ y.2 ∧ y.2 ≤ n) : Bk [y] n := ⟨List.pairwise_singleton _ _, fun z hz => by rw [List.mem_singleton] at hz; rw [hz]; exact h.1, fun z hz => by rw [List.mem_singleton] at hz; rw [hz]; exact h.2.1, fun z hz => by rw [List.mem_singleton] at hz; rw [hz]; exact h.2.2⟩
theorem bookPost_is {l : List Lin} {m n : Int} {x : Ent} (hb : Bk l m) (h0 : 0 ≤ m ∧ 0 ≤ n) (ht : tot l = 0) (hl : l.length ≤ 200) (hg : goodL x.2.2) (hx : checkE x = 0) (hL : goodAm x.2.2 n) (hx8 : x.2.2.length ≤ 8) (hx2 : 1 ≤ x.2.2.length) (hxt : tot x.2.2 = 0) (hm : m + 8 * n ≤ 9223372036854775807) :
    ∃ l', book_Post.f (l, x) = some (bif decide (l'.length ≤ 200) then (l', 0) else ([], 9)) ∧ Bk l' (m + 8 * n) ∧ (∀ c, bal l' c = bal l c + bal x.2.2 c) ∧ tot l' = 0 ∧ l'.length ≤ l.length + x.2.2.length := by
  obtain ⟨b, r, L⟩ := x
  simp only at hg hL hx8 hx2 hxt ⊢
  have hmul : ∀ d : Nat, d ≤ 8 → (d : Int) * n ≤ 8 * n := fun d hd => Int.mul_le_mul_of_nonneg_right (by omega) h0.2
  have hres : ∀ l' : List Lin, (bif decide ((l'.length : Int) > 200) then some (([] : List Lin), (9 : Int)) else some (l', 0)) = some (bif decide (l'.length ≤ 200) then (l', 0) else ([], 9)) := fun l' => by
    by_cases h : l'.length ≤ 200
    · rw [decide_eq_true h, decide_eq_false (show ¬ ((l'.length : Nat) : Int) > 200 by omega)]; rfl
    · rw [decide_eq_false h, decide_eq_true (show ((l'.length : Nat) : Int) > 200 by omega)]; rfl
  have hcl : slices_Clone_api_Balance_api_Balance.f l = some l := by
    unfold slices_Clone_api_Balance_api_Balance.f
    rw [Nat.zero_add, Nat.ble_eq_true_of_le (show l.length * 32 ≤ 140737488355328 by omega), Nat.ble_eq_true_of_le (show l.length ≤ 140737488355328 by omega)]; rfl
  unfold book_Post.f
  simp only [bookMay_is hb (show m ≤ 9223372036854775807 by omega) ht (show l.length ≤ 1000 by omega), decide_eq_true hl, Option.bind_some, Bool.not_true, cond_false, check_is (x := (b, r, L)) hg, hx, bne_self_eq_false, hcl]
  cases l with
  | nil =>
    have hy : L.getD 0 zL ∈ L := by rw [getD_at (show 0 < L.length by omega)]; exact List.getElem_mem _
    have h1 := turn_post0 (L := L) (by omega) (by omega)
    have hm1 := hmul (L.length - 1) (by omega)
    have hm7 : ((L.length - 1 : Nat) : Int) * n ≤ 7 * n := Int.mul_le_mul_of_nonneg_right (by omega) h0.2
    obtain ⟨l', g1, g2, g3, g4, g5⟩ := lines_post hL hx8 h0.2 (L.length - 1) 1 (by omega) [L.getD 0 zL] n (Bk.one (hL _ hy)) h0.2 (by omega) (by simp; omega)
    have e : L = L.getD 0 zL :: L.drop 1 := by
      have := List.drop_eq_getElem_cons (show 0 < L.length by omega)
      rw [List.drop_zero] at this
      rw [getD_at (show 0 < L.length by omega)]; exact this
    have hp : book_Post.l11 (L, (L.length : Int), 0) = some (.inr l') := by
      unfold book_Post.l11 peel
      rw [h1]
      exact g1
    simp only [hp, Option.bind_some, hres]
    refine ⟨l', rfl, g2.more (by omega), fun c => ?_, ?_, ?_⟩
    · rw [g3 c]
      conv => rhs; rw [e]
      rw [bal_cons, bal_cons]
      show (_ + 0) + _ = 0 + _
      omega
    · rw [e] at hxt
      rw [tot_cons] at hxt
      rw [g4, tot_cons]
      show (_ + 0) + _ = 0
      omega
    · simp at g5; simp; omega
  | cons y ys =>
    have hmL := hmul L.length hx8
    obtain ⟨l', g1, g2, g3, g4, g5⟩ := lines_post hL hx8 h0.2 L.length 0 (by omega) (y :: ys) m hb h0.1 (by omega) (by omega)
    have hp : book_Post.l11p (L, (L.length : Int), 0, y :: ys) = some (.inr l') := g1
    simp only [hp, Option.bind_some, hres]
    refine ⟨l', rfl, g2.more (by omega), fun c => ?_, ?_, g5⟩
    · rw [g3 c, List.drop_zero]
    · rw [g4, List.drop_zero]; omega
end Go.Proofs.YtgipbdecogfgjaaGreatDoor
end
section
namespace Go.Proofs
open Go.Shelf
def Tryz.lays105_ren : Go.Shelf.Ren := ⟨fun | 105 => 67 | 212 => 80 | 99 => 81 | 165 => 82 | 166 => 83 | 170 => 84 | 169 => 85 | 263 => 100 | 264 => 101 | 206 => 102 | 240 => 103 | 241 => 104 | 276 => 119 | 277 => 120 | n => n, fun | 9 => 9 | 3 => 3 | 4 => 4 | 20 => 20 | 0 => 0 | 46 => 101 | 109 => 130 | 5 => 5 | 72 => 135 | 76 => 136 | 51 => 155 | 146 => 156 | 53 => 92 | 148 => 99 | 70 => 133 | 37 => 123 | 75 => 127 | 127 => 159 | 164 => 178 | 80 => 139 | n => n, fun | n => n⟩
theorem Tryz.lays105 : Go.Proofs.Lays.n105 Tryz.prog Tryz.lays105_ren := {
  mixed := by kernel_rfl
  f99 := Tryz.func81.trans (congrArg some (by kernel_rfl))
  f105 := Tryz.func67.trans (congrArg some (by kernel_rfl))
  f165 := Tryz.func82.trans (congrArg some (by kernel_rfl))
  f166 := Tryz.func83.trans (congrArg some (by kernel_rfl))
  f169 := Tryz.func85.trans (congrArg some (by kernel_rfl))
  f170 := Tryz.func84.trans (congrArg some (by kernel_rfl))
  f206 := Tryz.func102.trans (congrArg some (by kernel_rfl))
  f212 := Tryz.func80.trans (congrArg some (by kernel_rfl))
  f240 := Tryz.func103.trans (congrArg some (by kernel_rfl))
  f241 := Tryz.func104.trans (congrArg some (by kernel_rfl))
  f263 := Tryz.func100.trans (congrArg some (by kernel_rfl))
  f264 := Tryz.func101.trans (congrArg some (by kernel_rfl))
  f276 := Tryz.func119.trans (congrArg some (by kernel_rfl))
  f277 := Tryz.func120.trans (congrArg some (by kernel_rfl))
  t0 := Tryz.underlying0
  a0 := Tryz.isAgg0
  z0 := Tryz.sizeOf0
  v0 := Tryz.zeroValue0
  t3 := Tryz.underlying3
  a3 := Tryz.isAgg3
  z3 := Tryz.sizeOf3
  v3 := Tryz.zeroValue3
  t4 := Tryz.underlying4
  a4 := Tryz.isAgg4
  z4 := Tryz.sizeOf4
  v4 := Tryz.zeroValue4
  t5 := Tryz.underlying5
  a5 := Tryz.isAgg5
  z5 := Tryz.sizeOf5
  v5 := Tryz.zeroValue5
  t9 := Tryz.underlying9
  a9 := Tryz.isAgg9
  z9 := Tryz.sizeOf9
  v9 := Tryz.zeroValue9
  t20 := Tryz.underlying20
  a20 := Tryz.isAgg20
  z20 := Tryz.sizeOf20
  v20 := Tryz.zeroValue20
  t37 := Tryz.underlying123
  a37 := Tryz.isAgg123
  z37 := Tryz.sizeOf123
  v37 := Tryz.zeroValue123
  t46 := Tryz.underlying101
  a46 := Tryz.isAgg101
  z46 := Tryz.sizeOf101
  v46 := Tryz.zeroValue101
  t51 := Tryz.underlying155
  a51 := Tryz.isAgg155
  z51 := Tryz.sizeOf155
  v51 := Tryz.zeroValue155
  t53 := Tryz.underlying92
  a53 := Tryz.isAgg92
  z53 := Tryz.sizeOf92
  v53 := Tryz.zeroValue92
  t70 := Tryz.underlying133
  a70 := Tryz.isAgg133
  z70 := Tryz.sizeOf133
  v70 := Tryz.zeroValue133
  t72 := Tryz.underlying135
  a72 := Tryz.isAgg135
  z72 := Tryz.sizeOf135
  v72 := Tryz.zeroValue135
  t75 := Tryz.underlying127
  a75 := Tryz.isAgg127
  z75 := Tryz.sizeOf127
  v75 := Tryz.zeroValue127
  t76 := Tryz.underlying136
  a76 := Tryz.isAgg136
  z76 := Tryz.sizeOf136
  v76 := Tryz.zeroValue136
  t109 := Tryz.underlying130
  a109 := Tryz.isAgg130
  z109 := Tryz.sizeOf130
  v109 := Tryz.zeroValue130
  t127 := Tryz.underlying159
  a127 := Tryz.isAgg159
  z127 := Tryz.sizeOf159
  v127 := Tryz.zeroValue159
  t146 := Tryz.underlying156
  a146 := Tryz.isAgg156
  z146 := Tryz.sizeOf156
  v146 := Tryz.zeroValue156
  t148 := Tryz.underlying99
  a148 := Tryz.isAgg99
  z148 := Tryz.sizeOf99
  v148 := Tryz.zeroValue99
  t164 := Tryz.underlying178
  a164 := Tryz.isAgg178
  z164 := Tryz.sizeOf178
  v164 := Tryz.zeroValue178 }
end Go.Proofs
end
section
set_option linter.unusedVariables false
namespace Go.Proofs.YtgipbdecogfgjaaGreatDoor
open Go Go.Fw Go.RowKit Go.Shelf
theorem repExtra : Builder.Extra P Tryz.lays105_ren where
  sizeBuilder := by kernel_rfl
  liesBuilder := by kernel_rfl
  t5 := Tryz.lays105.t5
  a5 := Tryz.lays105.a5
  z5 := Tryz.lays105.z5
  v5 := Tryz.lays105.v5
  infoByte := by kernel_rfl
  cellsByte := by kernel_rfl
  sizeByte := by kernel_rfl
  neB5 := by decide
def repeatT (s : ByteArray) (n : Int) : Option ByteArray := bif decide (0 ≤ n) && (decide (n ≤ 140737488355328) && decide (s.size * n.toNat ≤ 140737488355328)) then some ⟨(Lib.repeatL s.data.toList n.toNat).toArray⟩ else none
abbrev strings_Repeat.As : Shs := .cons (.x .s) (.cons (.x (.i .i64)) .nil)
abbrev strings_Repeat.m : Back := [(false, .s)]
abbrev strings_Repeat.f (a : (ByteArray × Int)) : Option ByteArray := repeatT a.1 a.2
noncomputable abbrev strings_Repeat.row : Row := fnRow 67 strings_Repeat.As strings_Repeat.m strings_Repeat.f
theorem strings_Repeat.row_ok : RowOK P G0 strings_Repeat.row := by
  have key : ∀ (ds : List D) (a : ByteArray × Int) (q : ByteArray), decArgs strings_Repeat.As ds = some a → strings_Repeat.f a = some q → Fw.Enters P 67 ∧ PCall P G0 67 ds (.s q) := by
    intro ds a q ha hq
    refine ⟨ent_of Tryz.func67 (by kernel_rfl) (by kernel_rfl), ?_⟩
    have hds := (decArgs_argD ha).symm
    refine PCall.coe (ds' := argD strings_Repeat.As a) ?_ (by rw [← hds]; exact coeA_len) fun w I f hf => by rw [← hds]; exact coeA_rel hf
    refine pcall_below fun w I K vs hg hsz hr => ?_
    have h0 := hr 0 (.s a.1) rfl
    have h1 := hr 1 (.i .i64 a.2) rfl
    have hvs : vs = #[.string a.1, .int .i64 a.2] := by
      have hs : vs.size = 2 := hsz
      rw [Array.getD_eq_getD_getElem?, Array.getElem?_eq_getElem (by omega)] at h0 h1
      simp only [Option.getD_some] at h0 h1
      refine Array.ext (by simpa using hs) fun i hi hi' => ?_
      match i, hi with
      | 0, _ => cases h : vs[0] <;> rw [h] at h0 <;> cases h0; rfl
      | 1, _ => cases h : vs[1] <;> rw [h] at h1 <;> cases h1; rfl
      | i + 2, hi => omega
    subst hvs
    unfold strings_Repeat.f repeatT at hq
    obtain ⟨hb, hq⟩ := cond_some hq
    simp only [Bool.and_eq_true, decide_eq_true_eq] at hb
    obtain ⟨h2, h3, h4⟩ := hb
    injection hq with hq
    subst hq
    obtain ⟨u, hu⟩ : ∃ u : Nat, a.2 = u := ⟨a.2.toNat, by omega⟩
    rw [hu] at h2 h3 h4 ⊢
    rw [Int.toNat_natCast] at h4 ⊢
    refine (Any.strings_Repeat Tryz.lays105 repExtra a.1 u w (by omega) h4).mono ?_
    rintro e w' ⟨rfl, hb⟩
    exact ⟨_, rfl, hb, RelD.s _⟩
  exact fun ds a q => key ds a q
end Go.Proofs.YtgipbdecogfgjaaGreatDoor
end
section
set_option linter.unusedVariables false
set_option linter.unusedSimpArgs false
namespace Go.Proofs.YtgipbdecogfgjaaGreatDoor
open Go Go.Fw
def padD : Nat → Nat → List UInt8
  | 0, _ => []
  | k + 1, n => padD k (n / 10) ++ [dgt (n % 10)]
end Go.Proofs.YtgipbdecogfgjaaGreatDoor
end
section
namespace Go.Proofs
open Go.Shelf
def Tryz.laysM171_ren : Go.Shelf.Ren := ⟨fun | 171 => 43 | 243 => 68 | 246 => 86 | 283 => 96 | 284 => 97 | 285 => 98 | 286 => 99 | 129 => 115 | 317 => 114 | 318 => 116 | 319 => 117 | 320 => 118 | 337 => 127 | 338 => 128 | n => n, fun | 3 => 3 | 9 => 9 | 2 => 2 | 4 => 4 | 171 => 150 | 0 => 0 | 53 => 92 | 37 => 123 | 5 => 5 | 173 => 153 | 212 => 175 | 51 => 155 | 20 => 20 | 213 => 176 | 46 => 101 | 232 => 203 | 233 => 204 | n => n, fun | 17 => 0 | 18 => 4 | 19 => 5 | n => n⟩
theorem Tryz.laysM171 : Go.Proofs.LaysM.n171 Tryz.prog Tryz.laysM171_ren := {
  mixed := by kernel_rfl
  f129 := Tryz.func115.trans (congrArg some (by kernel_rfl))
  f171 := Tryz.func43.trans (congrArg some (by kernel_rfl))
  f243 := Tryz.func68.trans (congrArg some (by kernel_rfl))
  f246 := Tryz.func86.trans (congrArg some (by kernel_rfl))
  f283 := Tryz.func96.trans (congrArg some (by kernel_rfl))
  f284 := Tryz.func97.trans (congrArg some (by kernel_rfl))
  f285 := Tryz.func98.trans (congrArg some (by kernel_rfl))
  f286 := Tryz.func99.trans (congrArg some (by kernel_rfl))
  f317 := Tryz.func114.trans (congrArg some (by kernel_rfl))
  f318 := Tryz.func116.trans (congrArg some (by kernel_rfl))
  f319 := Tryz.func117.trans (congrArg some (by kernel_rfl))
  f320 := Tryz.func118.trans (congrArg some (by kernel_rfl))
  f337 := Tryz.func127.trans (congrArg some (by kernel_rfl))
  f338 := Tryz.func128.trans (congrArg some (by kernel_rfl))
  t0 := Tryz.underlying0
  a0 := Tryz.isAgg0
  z0 := Tryz.sizeOf0
  v0 := Tryz.zeroValue0
  t2 := Tryz.underlying2
  a2 := Tryz.isAgg2
  z2 := Tryz.sizeOf2
  v2 := Tryz.zeroValue2
  t3 := Tryz.underlying3
  a3 := Tryz.isAgg3
  z3 := Tryz.sizeOf3
  v3 := Tryz.zeroValue3
  t4 := Tryz.underlying4
  a4 := Tryz.isAgg4
  z4 := Tryz.sizeOf4
  v4 := Tryz.zeroValue4
  t5 := Tryz.underlying5
  a5 := Tryz.isAgg5
  z5 := Tryz.sizeOf5
  v5 := Tryz.zeroValue5
  t9 := Tryz.underlying9
  a9 := Tryz.isAgg9
  z9 := Tryz.sizeOf9
  v9 := Tryz.zeroValue9
  t20 := Tryz.underlying20
  a20 := Tryz.isAgg20
  z20 := Tryz.sizeOf20
  v20 := Tryz.zeroValue20
  t37 := Tryz.underlying123
  a37 := Tryz.isAgg123
  z37 := Tryz.sizeOf123
  v37 := Tryz.zeroValue123
  t46 := Tryz.underlying101
  a46 := Tryz.isAgg101
  z46 := Tryz.sizeOf101
  v46 := Tryz.zeroValue101
  t51 := Tryz.underlying155
  a51 := Tryz.isAgg155
  z51 := Tryz.sizeOf155
  v51 := Tryz.zeroValue155
  t53 := Tryz.underlying92
  a53 := Tryz.isAgg92
  z53 := Tryz.sizeOf92
  v53 := Tryz.zeroValue92
  t171 := Tryz.underlying150
  a171 := Tryz.isAgg150
  z171 := Tryz.sizeOf150
  v171 := Tryz.zeroValue150
  t173 := Tryz.underlying153
  a173 := Tryz.isAgg153
  z173 := Tryz.sizeOf153
  v173 := Tryz.zeroValue153
  t212 := Tryz.underlying175
  a212 := Tryz.isAgg175
  z212 := Tryz.sizeOf175
  v212 := Tryz.zeroValue175
  t213 := Tryz.underlying176
  a213 := Tryz.isAgg176
  z213 := Tryz.sizeOf176
  t232 := Tryz.underlying203
  a232 := Tryz.isAgg203
  z232 := Tryz.sizeOf203
  v232 := Tryz.zeroValue203
  t233 := Tryz.underlying204
  a233 := Tryz.isAgg204
  z233 := Tryz.sizeOf204
  v233 := Tryz.zeroValue204
  g17 := by kernel_rfl
  g18 := by kernel_rfl
  g19 := by kernel_rfl
  i0 := by kernel_rfl
  i2 := by kernel_rfl
  i3 := by kernel_rfl
  i4 := by kernel_rfl
  i5 := by kernel_rfl
  i9 := by kernel_rfl
  i20 := by kernel_rfl
  i37 := by kernel_rfl
  i46 := by kernel_rfl
  i51 := by kernel_rfl
  i53 := by kernel_rfl
  i171 := by kernel_rfl
  i173 := by kernel_rfl
  i212 := by kernel_rfl
  i232 := by kernel_rfl
  i233 := by kernel_rfl
  m17 := by kernel_rfl
  m18 := by kernel_rfl
  m19 := by kernel_rfl }
end Go.Proofs
end
section
set_option linter.unusedVariables false
namespace Go.Proofs.YtgipbdecogfgjaaGreatDoor
open Go Go.Fw Go.RowKit Go.Shelf
def itoaI (n : Int) : List UInt8 := bif decide (n < 0) then 45 :: decF 20 n.natAbs else decF 20 n.toNat
abbrev strconv_Itoa.As : Shs := .cons (.x (.i .i64)) .nil
abbrev strconv_Itoa.m : Back := [(false, .s)]
abbrev strconv_Itoa.f (a : Int) : Option ByteArray := bif decide (-9223372036854775808 ≤ a) && decide (a ≤ 9223372036854775807) then some (bs (itoaI a)) else none
noncomputable abbrev strconv_Itoa.row : Row := fnRow 43 strconv_Itoa.As strconv_Itoa.m strconv_Itoa.f
theorem itoaI_is {n : Int} (h0 : -9223372036854775808 ≤ n) (h1 : n ≤ 9223372036854775807) : itoaI n = Lib.itoa n := by
  unfold itoaI Lib.itoa
  rw [decF_is 19 _ (by omega)]
  by_cases h : n < 0
  · simp [h]
  · simp only [h, decide_false, cond_false, if_false]
    exact decF_is 19 _ (by omega)
theorem strconv_Itoa.row_ok : RowOK P G0 strconv_Itoa.row := by
  have key : ∀ (ds : List D) (a : Int) (q : ByteArray), decArgs strconv_Itoa.As ds = some a → strconv_Itoa.f a = some q → Fw.Enters P 43 ∧ PCall P G0 43 ds (.s q) := by
    intro ds a q ha hq
    refine ⟨ent_of Tryz.func43 (by kernel_rfl) (by kernel_rfl), ?_⟩
    have hds := (decArgs_argD ha).symm
    refine PCall.coe (ds' := argD strconv_Itoa.As a) ?_ (by rw [← hds]; exact coeA_len) fun w I f hf => by rw [← hds]; exact coeA_rel hf
    refine pcall_below fun w I K vs hg hsz hr => ?_
    have h0 := hr 0 (.i .i64 a) rfl
    have hvs : vs = #[.int .i64 a] := by
      have hs : vs.size = 1 := hsz
      rw [Array.getD_eq_getD_getElem?, Array.getElem?_eq_getElem (by omega)] at h0
      simp only [Option.getD_some] at h0
      refine Array.ext (by simpa using hs) fun i hi hi' => ?_
      match i, hi with
      | 0, _ => cases h : vs[0] <;> rw [h] at h0 <;> cases h0; rfl
      | i + 1, hi => omega
    subst hvs
    unfold strconv_Itoa.f at hq
    obtain ⟨hb, hq⟩ := cond_some hq
    simp only [Bool.and_eq_true, decide_eq_true_eq] at hb
    injection hq with hq
    subst hq
    refine (Any.strconv_Itoa Tryz.laysM171 a hb.1 hb.2 w (tab_of_glob hg (g := 0) (by kernel_rfl) rfl)).mono ?_
    rintro e w' ⟨rfl, k, os, rfl⟩
    refine ⟨_, rfl, grow_below w k os, ?_⟩
    rw [itoaI_is hb.1 hb.2]
    exact RelD.s _
  exact fun ds a q => key ds a q
end Go.Proofs.YtgipbdecogfgjaaGreatDoor
end
section
set_option linter.unusedVariables false
set_option linter.unusedSimpArgs false
namespace Go.Proofs.YtgipbdecogfgjaaGreatDoor
open Go Go.Fw
def orL (s : ByteArray) (w : Nat) : List UInt8 := bif decide (s = bs []) then List.replicate w 48 else s.data.toList
end Go.Proofs.YtgipbdecogfgjaaGreatDoor
end
section
set_option linter.unusedVariables false
set_option linter.unusedSimpArgs false
namespace Go.Proofs.YtgipbdecogfgjaaGreatDoor
open Go Go.Fw
def n48 (c : UInt8) : Bool := c == 48
def ownL (l : List UInt8) : List UInt8 := bif l.all n48 then [] else l
def part (l : List UInt8) (i j : Nat) : List UInt8 := (l.take j).drop i
end Go.Proofs.YtgipbdecogfgjaaGreatDoor
end
section
set_option linter.unusedVariables false
set_option maxRecDepth 100000
namespace Go.Proofs.YtgipbdecogfgjaaGreatDoor
open Go Go.Fw
abbrev bursarlaw20_few.As : Shs := (.cons (.x T_api_Post) .nil)
abbrev bursarlaw20_few.m : Back := [(false, T_api_Post)]
noncomputable abbrev bursarlaw20_few.H : HK := hk P G0 E0 J0 [] noLoops 4
theorem bursarlaw20_few.rows : TabOK P G0 (tabF []) := rows_ok (ws := []) trivial
theorem bursarlaw20_few.hok : HKOK P bursarlaw20_few.H := hk_ok e0_ok j0_ok bursarlaw20_few.rows (fun g n => noLoops_ok g n) 4
noncomputable def bursarlaw20_few.f (a : (Int × (Int × (ByteArray × (ByteArray × (ByteArray × Int)))))) : Option (Int × (Int × (ByteArray × (ByteArray × (ByteArray × Int))))) := (bif (decide (((a.2.2.1.size : Int) > (20 : Int)))) then (bif (true && (decide (((20 : Int) ≤ (a.2.2.1.size : Int))))) then (bif (decide (((a.2.2.2.1.size : Int) > (20 : Int)))) then (bif (true && (decide (((20 : Int) ≤ (a.2.2.2.1.size : Int))))) then (bif (decide (((a.2.2.2.2.1.size : Int) > (20 : Int)))) then (bif (true && (decide (((20 : Int) ≤ (a.2.2.2.2.1.size : Int))))) then (some (a.1, (a.2.1, ((ByteArray.extract a.2.2.1 0 20), ((ByteArray.extract a.2.2.2.1 0 20), ((ByteArray.extract a.2.2.2.2.1 0 20), a.2.2.2.2.2)))))) else none) else (some (a.1, (a.2.1, ((ByteArray.extract a.2.2.1 0 20), ((ByteArray.extract a.2.2.2.1 0 20), a.2.2.2.2)))))) else none) else (bif (decide (((a.2.2.2.2.1.size : Int) > (20 : Int)))) then (bif (true && (decide (((20 : Int) ≤ (a.2.2.2.2.1.size : Int))))) then (some (a.1, (a.2.1, ((ByteArray.extract a.2.2.1 0 20), (a.2.2.2.1, ((ByteArray.extract a.2.2.2.2.1 0 20), a.2.2.2.2.2)))))) else none) else (some (a.1, (a.2.1, ((ByteArray.extract a.2.2.1 0 20), a.2.2.2)))))) else none) else (bif (decide (((a.2.2.2.1.size : Int) > (20 : Int)))) then (bif (true && (decide (((20 : Int) ≤ (a.2.2.2.1.size : Int))))) then (bif (decide (((a.2.2.2.2.1.size : Int) > (20 : Int)))) then (bif (true && (decide (((20 : Int) ≤ (a.2.2.2.2.1.size : Int))))) then (some (a.1, (a.2.1, (a.2.2.1, ((ByteArray.extract a.2.2.2.1 0 20), ((ByteArray.extract a.2.2.2.2.1 0 20), a.2.2.2.2.2)))))) else none) else (some (a.1, (a.2.1, (a.2.2.1, ((ByteArray.extract a.2.2.2.1 0 20), a.2.2.2.2)))))) else none) else (bif (decide (((a.2.2.2.2.1.size : Int) > (20 : Int)))) then (bif (true && (decide (((20 : Int) ≤ (a.2.2.2.2.1.size : Int))))) then (some (a.1, (a.2.1, (a.2.2.1, (a.2.2.2.1, ((ByteArray.extract a.2.2.2.2.1 0 20), a.2.2.2.2.2)))))) else none) else (some a))))
theorem bursarlaw20_few.ok : ∀ a : Vals bursarlaw20_few.As.tys, fnK P bursarlaw20_few.H (lp []) 4 bursarlaw20_few.As bursarlaw20_few.m a some = bursarlaw20_few.f a := fun a => by kernel_rfl
noncomputable abbrev bursarlaw20_few.row : Row := fnRow 4 bursarlaw20_few.As bursarlaw20_few.m bursarlaw20_few.f
theorem bursarlaw20_few.row_ok : RowOK P G0 bursarlaw20_few.row := row_told bursarlaw20_few.hok (lp_of (l := []) trivial) (fun _ => rfl) bursarlaw20_few.ok
end Go.Proofs.YtgipbdecogfgjaaGreatDoor
end
section
set_option linter.unusedVariables false
set_option linter.unusedSimpArgs false
namespace Go.Proofs.YtgipbdecogfgjaaGreatDoor
open Go Go.Fw
structure Cut (p : Po) (l : List UInt8) : Prop where
  len : l.length = 59
  k0 : l.getD 0 0 = dgt p.1.toNat
  k : part l 0 1 = [dgt p.1.toNat]
  b : part l 1 11 = padD 10 p.2.1.toNat
  x : part l 11 27 = orL p.2.2.1 16
  y : part l 27 33 = orL p.2.2.2.1 6
  z : part l 33 45 = orL p.2.2.2.2.1 12
  n : part l 45 59 = padD 14 p.2.2.2.2.2.toNat
end Go.Proofs.YtgipbdecogfgjaaGreatDoor
end
section
namespace Go.Proofs
open Go.Shelf
def Tryz.lays157_ren : Go.Shelf.Ren := ⟨fun | 157 => 129 | 229 => 134 | 199 => 135 | 261 => 145 | 311 => 154 | 312 => 155 | n => n, fun | 9 => 9 | 31 => 190 | 3 => 3 | 5 => 5 | 4 => 4 | 119 => 205 | 0 => 0 | 40 => 103 | 152 => 208 | 21 => 21 | 154 => 210 | 51 => 155 | 141 => 212 | 196 => 224 | 193 => 221 | 198 => 227 | 49 => 225 | 194 => 222 | 201 => 230 | 226 => 235 | 46 => 101 | 227 => 236 | n => n, fun | 0 => 6 | 6 => 7 | n => n⟩
theorem Tryz.lays157 : Go.Proofs.Lays.n157 Tryz.prog Tryz.lays157_ren := {
  mixed := by kernel_rfl
  f157 := Tryz.func129.trans (congrArg some (by kernel_rfl))
  f199 := Tryz.func135.trans (congrArg some (by kernel_rfl))
  f229 := Tryz.func134.trans (congrArg some (by kernel_rfl))
  f261 := Tryz.func145.trans (congrArg some (by kernel_rfl))
  f311 := Tryz.func154.trans (congrArg some (by kernel_rfl))
  f312 := Tryz.func155.trans (congrArg some (by kernel_rfl))
  t0 := Tryz.underlying0
  a0 := Tryz.isAgg0
  z0 := Tryz.sizeOf0
  v0 := Tryz.zeroValue0
  t3 := Tryz.underlying3
  a3 := Tryz.isAgg3
  z3 := Tryz.sizeOf3
  v3 := Tryz.zeroValue3
  t4 := Tryz.underlying4
  a4 := Tryz.isAgg4
  z4 := Tryz.sizeOf4
  v4 := Tryz.zeroValue4
  t5 := Tryz.underlying5
  a5 := Tryz.isAgg5
  z5 := Tryz.sizeOf5
  v5 := Tryz.zeroValue5
  t9 := Tryz.underlying9
  a9 := Tryz.isAgg9
  z9 := Tryz.sizeOf9
  v9 := Tryz.zeroValue9
  t21 := Tryz.underlying21
  a21 := Tryz.isAgg21
  z21 := Tryz.sizeOf21
  v21 := Tryz.zeroValue21
  t31 := Tryz.underlying190
  a31 := Tryz.isAgg190
  z31 := Tryz.sizeOf190
  v31 := Tryz.zeroValue190
  t40 := Tryz.underlying103
  a40 := Tryz.isAgg103
  z40 := Tryz.sizeOf103
  v40 := Tryz.zeroValue103
  t46 := Tryz.underlying101
  a46 := Tryz.isAgg101
  z46 := Tryz.sizeOf101
  v46 := Tryz.zeroValue101
  t49 := Tryz.underlying225
  a49 := Tryz.isAgg225
  z49 := Tryz.sizeOf225
  v49 := Tryz.zeroValue225
  t51 := Tryz.underlying155
  a51 := Tryz.isAgg155
  z51 := Tryz.sizeOf155
  v51 := Tryz.zeroValue155
  t119 := Tryz.underlying205
  a119 := Tryz.isAgg205
  z119 := Tryz.sizeOf205
  t141 := Tryz.underlying212
  a141 := Tryz.isAgg212
  z141 := Tryz.sizeOf212
  v141 := Tryz.zeroValue212
  t152 := Tryz.underlying208
  a152 := Tryz.isAgg208
  z152 := Tryz.sizeOf208
  v152 := Tryz.zeroValue208
  t154 := Tryz.underlying210
  a154 := Tryz.isAgg210
  z154 := Tryz.sizeOf210
  v154 := Tryz.zeroValue210
  t193 := Tryz.underlying221
  a193 := Tryz.isAgg221
  z193 := Tryz.sizeOf221
  v193 := Tryz.zeroValue221
  t194 := Tryz.underlying222
  a194 := Tryz.isAgg222
  z194 := Tryz.sizeOf222
  v194 := Tryz.zeroValue222
  t196 := Tryz.underlying224
  a196 := Tryz.isAgg224
  z196 := Tryz.sizeOf224
  v196 := Tryz.zeroValue224
  t198 := Tryz.underlying227
  a198 := Tryz.isAgg227
  z198 := Tryz.sizeOf227
  v198 := Tryz.zeroValue227
  t201 := Tryz.underlying230
  a201 := Tryz.isAgg230
  z201 := Tryz.sizeOf230
  v201 := Tryz.zeroValue230
  t226 := Tryz.underlying235
  a226 := Tryz.isAgg235
  z226 := Tryz.sizeOf235
  v226 := Tryz.zeroValue235
  t227 := Tryz.underlying236
  a227 := Tryz.isAgg236
  z227 := Tryz.sizeOf236
  v227 := Tryz.zeroValue236
  g0 := by kernel_rfl
  g6 := by kernel_rfl }
end Go.Proofs
end
section
set_option linter.unusedVariables false
namespace Go.Proofs.YtgipbdecogfgjaaGreatDoor
open Go Go.Fw Go.RowKit Go.Shelf
abbrev strings_Fields.As : Shs := .cons (.x .s) .nil
abbrev strings_Fields.m : Back := [(true, .l .s)]
abbrev strings_Fields.f (a : ByteArray) : Option (List ByteArray) := bif decide (a.size < 4294967281) && a.data.toList.all (fun b => decide (b.toNat < 128)) then some ((Lib.fields a.data.toList).map fun l => bs l) else none
noncomputable abbrev strings_Fields.row : Row := fnRow 129 strings_Fields.As strings_Fields.m strings_Fields.f
theorem strings_Fields.row_ok : RowOK P G0 strings_Fields.row := by
  have key : ∀ (ds : List D) (a : ByteArray) (q : List ByteArray), decArgs strings_Fields.As ds = some a → strings_Fields.f a = some q → Fw.Enters P 129 ∧ PCall P G0 129 ds (.fr 1 (.t .s q)) := by
    intro ds a q ha hq
    refine ⟨ent_of Tryz.func129 (by kernel_rfl) (by kernel_rfl), ?_⟩
    have hds := (decArgs_argD ha).symm
    refine PCall.coe (ds' := argD strings_Fields.As a) ?_ (by rw [← hds]; exact coeA_len) fun w I f hf => by rw [← hds]; exact coeA_rel hf
    refine pcall_belowI fun w I K vs hg hI hK hsz hr => ?_
    have h0 := hr 0 (.s a) rfl
    have hvs : vs = #[.string a] := by
      have hs : vs.size = 1 := hsz
      rw [Array.getD_eq_getD_getElem?, Array.getElem?_eq_getElem (by omega)] at h0
      simp only [Option.getD_some] at h0
      refine Array.ext (by simpa using hs) fun i hi hi' => ?_
      match i, hi with
      | 0, _ => cases h : vs[0] <;> rw [h] at h0 <;> cases h0; rfl
      | i + 1, hi => omega
    subst hvs
    unfold strings_Fields.f at hq
    obtain ⟨hb, hq⟩ := cond_some hq
    simp only [Bool.and_eq_true, decide_eq_true_eq, List.all_eq_true] at hb
    injection hq with hq
    subst hq
    refine (Any.strings_Fields Tryz.lays157 (by kernel_rfl) (by kernel_rfl) a w hb.1 (fun j b hj => hb.2 b (List.mem_of_getElem? hj)) (tab_of_glob hg (g := 6) (by kernel_rfl) (by kernel_rfl))).mono ?_
    rintro e w' ⟨rfl, rfl⟩
    refine ⟨_, rfl, alloc_below _ _, ?_⟩
    obtain ⟨l, hl⟩ : ∃ l, Lib.fields a.data.toList = l := ⟨_, rfl⟩
    rw [hl]
    have := frOK_alloc (w := w) (I := I) (K := K) (xs := (l.map fun l => bs l).map D.s) (vs := l.map fun l => Value.string ⟨l.toArray⟩) (t := 9) hI hK (by simp) (fun x hx => by
      obtain ⟨y, _, rfl⟩ := List.mem_map.1 hx; rfl) (fun v hv => by
      obtain ⟨y, _, rfl⟩ := List.mem_map.1 hv; rfl) (fun j d hj => by
      simp only [List.getElem?_map] at hj
      obtain ⟨y, hy, rfl⟩ := Option.map_eq_some_iff.1 hj
      obtain ⟨z, hz, rfl⟩ := Option.map_eq_some_iff.1 hy
      simp only [Array.getD_eq_getD_getElem?, List.getElem?_toArray, List.getElem?_map, hz, Option.map_some, Option.getD_some]
      exact RelD.s _)
    simp only [List.length_map] at this
    exact .inl this
  exact fun ds a q => key ds a q
end Go.Proofs.YtgipbdecogfgjaaGreatDoor
end
section
namespace Go.Proofs
open Go.Shelf
def Tryz.laysC172_ren : Go.Shelf.Ren := ⟨fun | 172 => 131 | 244 => 137 | 245 => 95 | 247 => 94 | 279 => 110 | 280 => 111 | 281 => 112 | 282 => 113 | 287 => 109 | 316 => 125 | 171 => 43 | 205 => 126 | 321 => 123 | 322 => 124 | 243 => 68 | 246 => 86 | 283 => 96 | 284 => 97 | 285 => 98 | 286 => 99 | 129 => 115 | 317 => 114 | 318 => 116 | 319 => 117 | 320 => 118 | 337 => 127 | 338 => 128 | n => n, fun | 9 => 9 | 3 => 3 | 75 => 127 | 76 => 136 | 4 => 4 | 5 => 5 | 167 => 168 | 37 => 123 | 0 => 0 | 85 => 128 | 2 => 2 | 168 => 171 | 53 => 92 | 175 => 169 | 46 => 101 | 210 => 187 | 127 => 159 | 145 => 202 | 143 => 200 | 21 => 21 | 171 => 150 | 173 => 153 | 212 => 175 | 51 => 155 | 20 => 20 | 213 => 176 | 232 => 203 | 233 => 204 | 80 => 139 | n => n, fun | 15 => 1 | 16 => 2 | 17 => 0 | 18 => 4 | 19 => 5 | n => n⟩
theorem Tryz.laysC172 : Go.Proofs.LaysC.n172 Tryz.prog Tryz.laysC172_ren := {
  mixed := by kernel_rfl
  f129 := Tryz.func115.trans (congrArg some (by kernel_rfl))
  f171 := Tryz.func43.trans (congrArg some (by kernel_rfl))
  f172 := Tryz.func131.trans (congrArg some (by kernel_rfl))
  f205 := Tryz.func126.trans (congrArg some (by kernel_rfl))
  f243 := Tryz.func68.trans (congrArg some (by kernel_rfl))
  f244 := Tryz.func137.trans (congrArg some (by kernel_rfl))
  f245 := Tryz.func95.trans (congrArg some (by kernel_rfl))
  f246 := Tryz.func86.trans (congrArg some (by kernel_rfl))
  f247 := Tryz.func94.trans (congrArg some (by kernel_rfl))
  f279 := Tryz.func110.trans (congrArg some (by kernel_rfl))
  f280 := Tryz.func111.trans (congrArg some (by kernel_rfl))
  f281 := Tryz.func112.trans (congrArg some (by kernel_rfl))
  f282 := Tryz.func113.trans (congrArg some (by kernel_rfl))
  f283 := Tryz.func96.trans (congrArg some (by kernel_rfl))
  f284 := Tryz.func97.trans (congrArg some (by kernel_rfl))
  f285 := Tryz.func98.trans (congrArg some (by kernel_rfl))
  f286 := Tryz.func99.trans (congrArg some (by kernel_rfl))
  f287 := Tryz.func109.trans (congrArg some (by kernel_rfl))
  f316 := Tryz.func125.trans (congrArg some (by kernel_rfl))
  f317 := Tryz.func114.trans (congrArg some (by kernel_rfl))
  f318 := Tryz.func116.trans (congrArg some (by kernel_rfl))
  f319 := Tryz.func117.trans (congrArg some (by kernel_rfl))
  f320 := Tryz.func118.trans (congrArg some (by kernel_rfl))
  f321 := Tryz.func123.trans (congrArg some (by kernel_rfl))
  f322 := Tryz.func124.trans (congrArg some (by kernel_rfl))
  f337 := Tryz.func127.trans (congrArg some (by kernel_rfl))
  f338 := Tryz.func128.trans (congrArg some (by kernel_rfl))
  t0 := Tryz.underlying0
  a0 := Tryz.isAgg0
  z0 := Tryz.sizeOf0
  v0 := Tryz.zeroValue0
  t2 := Tryz.underlying2
  a2 := Tryz.isAgg2
  z2 := Tryz.sizeOf2
  v2 := Tryz.zeroValue2
  t3 := Tryz.underlying3
  a3 := Tryz.isAgg3
  z3 := Tryz.sizeOf3
  v3 := Tryz.zeroValue3
  t4 := Tryz.underlying4
  a4 := Tryz.isAgg4
  z4 := Tryz.sizeOf4
  v4 := Tryz.zeroValue4
  t5 := Tryz.underlying5
  a5 := Tryz.isAgg5
  z5 := Tryz.sizeOf5
  v5 := Tryz.zeroValue5
  t9 := Tryz.underlying9
  a9 := Tryz.isAgg9
  z9 := Tryz.sizeOf9
  v9 := Tryz.zeroValue9
  t20 := Tryz.underlying20
  a20 := Tryz.isAgg20
  z20 := Tryz.sizeOf20
  v20 := Tryz.zeroValue20
  t21 := Tryz.underlying21
  a21 := Tryz.isAgg21
  z21 := Tryz.sizeOf21
  v21 := Tryz.zeroValue21
  t37 := Tryz.underlying123
  a37 := Tryz.isAgg123
  z37 := Tryz.sizeOf123
  v37 := Tryz.zeroValue123
  t46 := Tryz.underlying101
  a46 := Tryz.isAgg101
  z46 := Tryz.sizeOf101
  v46 := Tryz.zeroValue101
  t51 := Tryz.underlying155
  a51 := Tryz.isAgg155
  z51 := Tryz.sizeOf155
  v51 := Tryz.zeroValue155
  t53 := Tryz.underlying92
  a53 := Tryz.isAgg92
  z53 := Tryz.sizeOf92
  v53 := Tryz.zeroValue92
  t75 := Tryz.underlying127
  a75 := Tryz.isAgg127
  z75 := Tryz.sizeOf127
  v75 := Tryz.zeroValue127
  t76 := Tryz.underlying136
  a76 := Tryz.isAgg136
  z76 := Tryz.sizeOf136
  v76 := Tryz.zeroValue136
  t85 := Tryz.underlying128
  a85 := Tryz.isAgg128
  z85 := Tryz.sizeOf128
  v85 := Tryz.zeroValue128
  t127 := Tryz.underlying159
  a127 := Tryz.isAgg159
  z127 := Tryz.sizeOf159
  v127 := Tryz.zeroValue159
  t143 := Tryz.underlying200
  a143 := Tryz.isAgg200
  z143 := Tryz.sizeOf200
  v143 := Tryz.zeroValue200
  t145 := Tryz.underlying202
  a145 := Tryz.isAgg202
  z145 := Tryz.sizeOf202
  v145 := Tryz.zeroValue202
  t167 := Tryz.underlying168
  a167 := Tryz.isAgg168
  z167 := Tryz.sizeOf168
  v167 := Tryz.zeroValue168
  t168 := Tryz.underlying171
  a168 := Tryz.isAgg171
  z168 := Tryz.sizeOf171
  v168 := Tryz.zeroValue171
  t171 := Tryz.underlying150
  a171 := Tryz.isAgg150
  z171 := Tryz.sizeOf150
  v171 := Tryz.zeroValue150
  t173 := Tryz.underlying153
  a173 := Tryz.isAgg153
  z173 := Tryz.sizeOf153
  v173 := Tryz.zeroValue153
  t175 := Tryz.underlying169
  a175 := Tryz.isAgg169
  z175 := Tryz.sizeOf169
  v175 := Tryz.zeroValue169
  t210 := Tryz.underlying187
  a210 := Tryz.isAgg187
  z210 := Tryz.sizeOf187
  v210 := Tryz.zeroValue187
  t212 := Tryz.underlying175
  a212 := Tryz.isAgg175
  z212 := Tryz.sizeOf175
  v212 := Tryz.zeroValue175
  t213 := Tryz.underlying176
  a213 := Tryz.isAgg176
  z213 := Tryz.sizeOf176
  t232 := Tryz.underlying203
  a232 := Tryz.isAgg203
  z232 := Tryz.sizeOf203
  v232 := Tryz.zeroValue203
  t233 := Tryz.underlying204
  a233 := Tryz.isAgg204
  z233 := Tryz.sizeOf204
  v233 := Tryz.zeroValue204
  g15 := by kernel_rfl
  g16 := by kernel_rfl
  g17 := by kernel_rfl
  g18 := by kernel_rfl
  g19 := by kernel_rfl
  t80 := Tryz.underlying139
  a80 := Tryz.isAgg139
  z80 := Tryz.sizeOf139
  v80 := Tryz.zeroValue139
  i0 := by kernel_rfl
  i2 := by kernel_rfl
  i3 := by kernel_rfl
  i4 := by kernel_rfl
  i5 := by kernel_rfl
  i9 := by kernel_rfl
  i20 := by kernel_rfl
  i21 := by kernel_rfl
  i37 := by kernel_rfl
  i46 := by kernel_rfl
  i51 := by kernel_rfl
  i53 := by kernel_rfl
  i75 := by kernel_rfl
  i76 := by kernel_rfl
  i80 := by kernel_rfl
  i85 := by kernel_rfl
  i127 := by kernel_rfl
  i143 := by kernel_rfl
  i145 := by kernel_rfl
  i167 := by kernel_rfl
  i168 := by kernel_rfl
  i171 := by kernel_rfl
  i173 := by kernel_rfl
  i175 := by kernel_rfl
  i210 := by kernel_rfl
  i212 := by kernel_rfl
  i232 := by kernel_rfl
  i233 := by kernel_rfl
  m15 := by kernel_rfl
  m16 := by kernel_rfl
  m17 := by kernel_rfl
  m18 := by kernel_rfl
  m19 := by kernel_rfl
  c0 := by kernel_rfl
  c2 := by kernel_rfl
  c3 := by kernel_rfl
  c4 := by kernel_rfl
  c5 := by kernel_rfl
  c9 := by kernel_rfl
  c20 := by kernel_rfl
  c21 := by kernel_rfl
  c37 := by kernel_rfl
  c46 := by kernel_rfl
  c51 := by kernel_rfl
  c53 := by kernel_rfl
  c75 := by kernel_rfl
  c76 := by kernel_rfl
  c80 := by kernel_rfl
  c85 := by kernel_rfl
  c127 := by kernel_rfl
  c143 := by kernel_rfl
  c145 := by kernel_rfl
  c167 := by kernel_rfl
  c168 := by kernel_rfl
  c171 := by kernel_rfl
  c173 := by kernel_rfl
  c175 := by kernel_rfl
  c210 := by kernel_rfl
  c212 := by kernel_rfl
  c213 := by kernel_rfl
  c232 := by kernel_rfl
  c233 := by kernel_rfl }
end Go.Proofs
end
section
set_option linter.unusedVariables false
namespace Go.Proofs.YtgipbdecogfgjaaGreatDoor
open Go Go.Fw Go.RowKit Go.Shelf
def atoiU (l : List UInt8) : Int × Bool := match Lib.atoiAll l with
  | .ok v => (v, false)
  | .«syntax» => (0, true)
  | .range => (Lib.atoiSat l, true)
abbrev strconv_Atoi.As : Shs := .cons (.x .s) .nil
abbrev strconv_Atoi.m : Back := [(false, .i .i64), (false, .e)]
abbrev strconv_Atoi.f (a : ByteArray) : Option (Int × Bool) := bif decide (a.size ≤ 281474976710656) then some (atoiU a.data.toList) else none
noncomputable abbrev strconv_Atoi.row : Row := fnRow 131 strconv_Atoi.As strconv_Atoi.m strconv_Atoi.f
theorem atoi_bytes_below (w : World) (t : TypeId) (s : ByteArray) : Below w.heap.size w (Lib.bytesWorld w t s) := by
  unfold Lib.bytesWorld World.freeze
  rw [if_neg (by decide)]
  refine ⟨rfl, rfl, rfl, by simp, fun k hk => ?_⟩
  show ((w.heap.push _).modify _ _)[k]? = _
  rw [Array.getElem?_modify, if_neg (by show ¬ w.heap.size = k; omega), Array.getElem?_push, if_neg (by omega)]
theorem strconv_Atoi.row_ok : RowOK P G1 strconv_Atoi.row := by
  have key : ∀ (ds : List D) (a : ByteArray) (q : Int × Bool), decArgs strconv_Atoi.As ds = some a → strconv_Atoi.f a = some q → Fw.Enters P 131 ∧ PCall P G1 131 ds (.tp [.i .i64 q.1, .er q.2]) := by
    intro ds a q ha hq
    refine ⟨ent_of Tryz.func131 (by kernel_rfl) (by kernel_rfl), ?_⟩
    have hds := (decArgs_argD ha).symm
    refine PCall.coe (ds' := argD strconv_Atoi.As a) ?_ (by rw [← hds]; exact coeA_len) fun w I f hf => by rw [← hds]; exact coeA_rel hf
    refine pcall_below fun w I K vs hg hsz hr => ?_
    have h0 := hr 0 (.s a) rfl
    have hvs : vs = #[.string a] := by
      have hs : vs.size = 1 := hsz
      rw [Array.getD_eq_getD_getElem?, Array.getElem?_eq_getElem (by omega)] at h0
      simp only [Option.getD_some] at h0
      refine Array.ext (by simpa using hs) fun i hi hi' => ?_
      match i, hi with
      | 0, _ => cases h : vs[0] <;> rw [h] at h0 <;> cases h0; rfl
      | i + 1, hi => omega
    subst hvs
    unfold strconv_Atoi.f at hq
    obtain ⟨hb, hq⟩ := cond_some hq
    simp only [decide_eq_true_eq] at hb
    injection hq with hq
    subst hq
    unfold atoiU
    have tup : ∀ (w' : World) (n : Int) (b : Bool) (v : Value), RelD w' I (.er b) v → RelX w' I K (.tp [.i .i64 n, .er b]) (.tuple #[.int .i64 n, v]) := fun w' n b v hv => ⟨_, rfl, RelD.i .i64 n, ⟨hv, trivial, fun b h => by cases b <;> cases h⟩, fun b h => by cases h⟩
    cases hp : Lib.atoiAll a.data.toList with
    | ok u =>
      refine (Any.strconv_Atoi_ok Tryz.laysC172 a (by omega) u hp w).mono ?_
      rintro e w' ⟨rfl, hw⟩
      refine ⟨_, rfl, ?_, tup w' u false _ .er0⟩
      rcases hw with rfl | ⟨t, rfl⟩
      · exact .refl _ _
      · exact atoi_bytes_below _ _ _
    | «syntax» =>
      obtain ⟨tp, p, hv⟩ := err_of_glob (P := P) hg (g := 1) (name := "strconv.ErrSyntax") (by kernel_rfl) rfl
      refine (Any.strconv_Atoi_syntax_var Tryz.laysC172 a hb hp tp p w hv).mono ?_
      rintro e w' ⟨N, rfl, _, _, hb⟩
      exact ⟨_, rfl, hb, tup w' 0 true _ (.er1 _ _)⟩
    | range =>
      obtain ⟨tp, p, hv⟩ := err_of_glob (P := P) hg (g := 2) (name := "strconv.ErrRange") (by kernel_rfl) rfl
      refine (Any.strconv_Atoi_range_var Tryz.laysC172 a hb hp tp p w hv).mono ?_
      rintro e w' ⟨N, rfl, _, _, hb⟩
      exact ⟨_, rfl, hb, tup w' _ true _ (.er1 _ _)⟩
  exact fun ds a q => key ds a q
end Go.Proofs.YtgipbdecogfgjaaGreatDoor
end
