/- HoldParts answers true whatever the hold and the two amounts are, and what was handed in reads as it did: the given statement holdParts. -/
import Derived.Test.YtloambokbipnjaaHg
import Derived.Test.YtloambokbipnjaaGh
import Derived.Test.YtloambokbipnjaaRows
import Derived.WalkKit
import Derived.ProofKit
import Derived.OpenShut
import Derived.ShutString
import Derived.ChangeOld
import Derived.Below
import Derived.SizedLaws
set_option linter.unusedVariables false
set_option linter.unusedSimpArgs false
namespace Go.Proofs.Ytloambokbipnjaa
open Go Go.Fw
theorem h9 : HKOK P H9 := hk_ok (fun g f h => by cases h) (tab_ok (by
  intro w hw
  simp only [List.mem_cons, List.not_mem_nil, or_false] at hw
  rcases hw with rfl | rfl | rfl | rfl | rfl
  · exact few_row
  · exact take_row
  · exact more_row
  · exact less_row
  · exact awake_row)) (fun g n => noLoops_ok g n) 0
end Go.Proofs.Ytloambokbipnjaa
namespace Go.Proofs.Ytloambokbipnjaa.holdParts
open Go.ChangeShapes Go.WideShapes Go.ChangeAt Go.RowKit Go.Fw
open Go.ChangeMaps (open_string shut_string)
theorem own : ownKnob Try.prog.godebug = none := by kernel_rfl
theorem laidOut : laidOutB Try.prog = true := by kernel_rfl
set_option maxRecDepth 100000 in
theorem lifted (os : Os) (started : os.Started) (H : Type) (enc : TypeId × Value → H) :
    ReturnsInHanded {} Try.checked os 3 .any (Rows.holdPartsSpec.pre6 enc Try.prog Try.f3 Rows.holdPartsRow.domain false) (Rows.holdPartsSpec.post enc Try.prog Try.f3 false true false false) := by
  refine returnsInHanded_of_change_sized (C := Try.checked) own started (by kernel_rfl) Try.func3
    (ChangeSpec.witness6 (enc := enc) (C := Try.checked) false ⟨#[], #[.agg #[.string ByteArray.empty, .string ByteArray.empty, .string ByteArray.empty, .int .i64 0, .int .i64 0, .int .i64 0, .bool false], .int .u16 0, .int .u16 0], []⟩ 8 (by kernel_rfl) (by kernel_rfl) (by kernel_rfl) (by kernel_rfl)) ?_
  intro W base args ds gs before hval0 hW hcnd hsz0 _
  have hval : ∀ (j : Nat) t v, Try.f3.params[j]? = some t → args[j]? = some v → Value.okWide Try.prog W .any base t v := hval0
  have hW' := hW
  obtain ⟨p, q, hA0, hV, rfl, hfz, hnd⟩ := hW
  have hA : DataW.TrodAll enc Try.prog W 0 (fun _ => true) true Try.f3.params.toList args.toList ds p := hA0
  rw [Try.params3] at hA hval
  obtain ⟨v0, vs0, d0, ds0, p0, q0, hargs, rfl, rfl, h0, r0⟩ := trodAll_cons hA
  obtain ⟨v1, vs1, d1, ds1, p1, q1, rfl, rfl, rfl, h1, r1⟩ := trodAll_cons r0
  obtain ⟨v2, vs2, d2, ds2, p2, q2, rfl, rfl, rfl, h2, r2⟩ := trodAll_cons r1
  obtain ⟨rfl, rfl, rfl⟩ := trodAll_nil r2
  obtain rfl : args = #[v0, v1, v2] := by cases args; simp_all
  obtain ⟨rfl, rfl⟩ := trodVars_none hV
  obtain ⟨cs, rfl, hcs⟩ := okWide_struct Try.underlying23 (hval 0 23 v0 rfl rfl)
  have k0 := h0
  obtain ⟨fuel, hf⟩ := h0
  obtain ⟨es, ty, rel, hlen⟩ := cells_of (P := Try.prog) (fun b => b < W.heap.size) fuel 3 23 _ _ hf (by kernel_rfl)
  have h7 : Try.prog.cellsOf 23 = 7 := by kernel_rfl
  have hes : es.length = 7 := by rw [rel.1, hlen, h7]
  obtain ⟨a1, rfl, rfl, rfl, w1⟩ := open_int Try.underlying24 (hval 1 24 v1 rfl rfl) h1
  obtain ⟨a2, rfl, rfl, rfl, w2⟩ := open_int Try.underlying24 (hval 2 24 v2 rfl rfl) h2
  match es, hes with
  | [x0, x1, x2, x3, x4, x5, x6], _ =>
  have ty' : (tyC Try.prog 2 9 [x0] && (tyC Try.prog 2 9 [x1] && (tyC Try.prog 2 9 [x2] && (tyC Try.prog 2 2 [x3] && (tyC Try.prog 2 2 [x4] && (tyC Try.prog 2 3 [x5] && (tyC Try.prog 2 4 [x6] && true))))))) = true := by
    have e : tyC Try.prog 3 23 [x0, x1, x2, x3, x4, x5, x6] = (tyC Try.prog 2 9 [x0] && (tyC Try.prog 2 9 [x1] && (tyC Try.prog 2 9 [x2] && (tyC Try.prog 2 2 [x3] && (tyC Try.prog 2 2 [x4] && (tyC Try.prog 2 3 [x5] && (tyC Try.prog 2 4 [x6] && true))))))) := by kernel_rfl
    rw [← e]; exact ty
  simp only [Bool.and_eq_true] at ty'
  obtain ⟨t0, t1, t2, t3, t4, t5, t6, _⟩ := ty'
  obtain ⟨s0, rfl, z0⟩ := ty_string (by kernel_rfl) t0
  obtain ⟨s1, rfl, z1⟩ := ty_string (by kernel_rfl) t1
  obtain ⟨s2, rfl, z2⟩ := ty_string (by kernel_rfl) t2
  obtain ⟨n3, rfl, z3⟩ := ty_int (ki := .i64) (by kernel_rfl) t3
  obtain ⟨n4, rfl, z4⟩ := ty_int (ki := .i64) (by kernel_rfl) t4
  obtain ⟨n5, rfl, z5⟩ := ty_int (ki := .i64) (by kernel_rfl) t5
  obtain ⟨b6, rfl⟩ := ty_bool (by kernel_rfl) t6
  have fit : (Hold.fit ⟨s0, s1, s2, n3, n4, n5, b6⟩) = true := by
    simp only [Hold.fit, Bool.and_eq_true, fits_spec]
    exact ⟨⟨bounds_i64 z3, bounds_i64 z4⟩, bounds_i64 z5⟩
  have u1 := bounds_u16 w1
  have u2 := bounds_u16 w2
  have call := (row_nl h9 3 (parts_true ⟨s0, s1, s2, n3, n4, n5, b6⟩ fit a1 a2 u1.1 u1.2 u2.1 u2.2)).2
  have aggr : RelD W (fun b => b < W.heap.size) (Hold.d ⟨s0, s1, s2, n3, n4, n5, b6⟩) (.agg cs) := rel.agg
  refine (top_call (W := W) (vs := #[.agg cs, .int .u16 a1, .int .u16 a2]) call glob_none rfl (fun j d hd => ?_)).mono ?_
  · match j, hd with
    | 0, hd => simp at hd; subst hd; exact aggr
    | 1, hd => simp at hd; subst hd; exact .i _ _
    | 2, hd => simp at hd; subst hd; exact .i _ _
    | j + 3, hd => simp at hd
  · rintro e W' ⟨⟨v, I', rfl, hx⟩, bel⟩
    have hv : v = .bool true := by cases hx; rfl
    subst hv
    have lt0 : ∀ x ∈ p0, x.block < W.heap.size := by obtain ⟨m, hm⟩ := k0; exact DataW.trod_lt m _ _ _ hm
    exact ⟨_, rfl, _, _, _, [], _, [], hW', trodAll_mk1 (shut_bool Try.underlying4 _),
      (trodAll_cons_mk (Below.trod laidOut (by kernel_rfl) (of_decide_eq_true (by kernel_rfl)) k0 bel lt0) (trodAll_cons_mk (shut_int Try.underlying24 w1) (trodAll_cons_mk (shut_int Try.underlying24 w2) trodAll_mk0))), rfl, bel.frame _, fun h => by cases h⟩
set_option maxRecDepth 100000 in
theorem over : Rows.holdPartsRow.holds Try.pinned (OpenSpec.ofChange Rows.holdPartsSpec) :=
  OpenClaim.holds_of_wide 3 Try.f3 rfl rfl rfl rfl rfl rfl rfl ⟨rfl, rfl, rfl, rfl, rfl⟩ rfl rfl rfl rfl rfl (by kernel_rfl) Try.func3 (by kernel_rfl)
    (of_decide_eq_true (by kernel_rfl)) (by unfold Func.isWrapper; first | (rw [if_pos (by decide +kernel)]; kernel_rfl) | (rw [if_neg (by decide +kernel)]; exact ⟨rfl, rfl⟩))
    (fun os started H enc _ => lifted os started H enc)
theorem proved : Rows.HoldPartsSaid := over
#print axioms proved
end Go.Proofs.Ytloambokbipnjaa.holdParts
namespace Go.Proofs.Ytloambokbipnjaa
/-- The row, under a short name, for the claim. -/
theorem holdParts_holds : Rows.HoldPartsSaid := holdParts.proved
end Go.Proofs.Ytloambokbipnjaa
