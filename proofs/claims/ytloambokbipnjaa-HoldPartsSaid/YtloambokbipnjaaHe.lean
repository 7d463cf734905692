/- Holds: what may be, what is left, what is done to one. By this session. -/
import Derived.Test.YtloambokbipnjaaHd
set_option linter.unusedVariables false
set_option linter.unusedSimpArgs false
namespace Go.Proofs.Ytloambokbipnjaa
open Go Go.Fw
structure Hold where
  rrn : ByteArray
  acq : ByteArray
  pan : ByteArray
  app : Int
  cap : Int
  til : Int
  op : Bool
def Hold.d (h : Hold) : D := .ag [.s h.rrn, .s h.acq, .s h.pan, .i .i64 h.app, .i .i64 h.cap, .i .i64 h.til, .b h.op]
abbrev ebyte : ByteArray := ByteArray.mk (List.toArray [])
def Hold.zero : Hold := ⟨ebyte, ebyte, ebyte, 0, 0, 0, false⟩
def shortB (s : ByteArray) : Bool := Nat.ble s.size 4611686018427387904
def Hold.short (h : Hold) : Bool := shortB h.rrn && shortB h.acq && shortB h.pan
def Hold.fit (h : Hold) : Bool := fits h.app && fits h.cap && fits h.til
def Hold.may (h : Hold) : Bool := refB h.rrn && (accB 1 h.pan && (accB 2 h.acq && (untilB h.til && (decide (h.cap ≥ 0) && (decide (h.cap ≤ h.app) && (bif !h.op then true else decide (h.cap < h.app)))))))
noncomputable abbrev H6 : HK := hk P G0 E0 (tab [refRow, accRow, untilRow]) noLoops 0
theorem may_tree (h : Hold) : pcallK P H6 (noLoops 0) 17 [h.d] some = (cond (Nat.ble (ByteArray.size (Hold.rrn h)) (4611686018427387904)) (cond (Bool.not (refB (Hold.rrn h))) (some (D.b (false))) (cond (Nat.ble (ByteArray.size (Hold.pan h)) (4611686018427387904)) (cond (Bool.not (accB (1 : Int) (Hold.pan h))) (some (D.b (false))) (cond (Nat.ble (ByteArray.size (Hold.acq h)) (4611686018427387904)) (cond (Bool.not (accB (2 : Int) (Hold.acq h))) (some (D.b (false))) (cond (Bool.not (untilB (Hold.til h))) (some (D.b (false))) (cond (decide (GE.ge (Hold.cap h) (0 : Int))) (cond (decide (LE.le (Hold.cap h) (Hold.app h))) (cond (Bool.not (Hold.op h)) (some (D.b (true))) (some (D.b (decide (LT.lt (Hold.cap h) (Hold.app h)))))) (some (D.b (false)))) (some (D.b (false)))))) none)) none)) none) := by kernel_rfl
def mayRow : Row := ⟨17, fun ds => match ds with
  | [.ag [.s a, .s b, .s c, .i .i64 d, .i .i64 e, .i .i64 f, .b g]] => some (Hold.short ⟨a, b, c, d, e, f, g⟩, .b (Hold.may ⟨a, b, c, d, e, f, g⟩))
  | _ => none⟩
theorem h6 : HKOK P H6 := hk_ok (fun g f h => by cases h) (tab_ok (by
  intro w hw
  simp only [List.mem_cons, List.not_mem_nil, or_false] at hw
  rcases hw with rfl | rfl | rfl
  · exact ref_row
  · exact acc_row
  · exact until_row)) (fun g n => noLoops_ok g n) 0
theorem may_row : RowOK P G0 mayRow := by
  intro ds q hq
  simp only [mayRow] at hq
  split at hq
  · rename_i a b c d e f g
    injection hq with hq
    injection hq with k1 k2
    subst k2
    refine row_nl h6 17 ((may_tree ⟨a, b, c, d, e, f, g⟩).trans ?_)
    dsimp only
    simp only [Hold.short, shortB, Bool.and_eq_true] at k1
    rw [k1.1.1, k1.1.2, k1.2]
    unfold Hold.may
    dsimp only
    cases refB a <;> cases accB 1 c <;> cases accB 2 b <;> cases untilB f <;> cases decide (e ≥ 0) <;> cases decide (e ≤ d) <;> cases g <;> rfl
  · cases hq
noncomputable abbrev H7 : HK := hk P G0 E0 (tab [mayRow, addRow, untilRow]) noLoops 3
theorem left_tree (h : Hold) : pcallK P H7 (noLoops 0) 18 [h.d] some = (cond (Hold.short (Hold.mk (Hold.rrn h) (Hold.acq h) (Hold.pan h) (Hold.app h) (Hold.cap h) (Hold.til h) (Hold.op h))) (cond (Bool.not (Hold.may (Hold.mk (Hold.rrn h) (Hold.acq h) (Hold.pan h) (Hold.app h) (Hold.cap h) (Hold.til h) (Hold.op h)))) (some (D.i IntKind.i64 (0 : Int))) (cond (Bool.not (Hold.op h)) (some (D.i IntKind.i64 (0 : Int))) (some (D.i IntKind.i64 (IntKind.wrap IntKind.i64 (HSub.hSub (Hold.app h) (Hold.cap h))))))) none) := by kernel_rfl
theorem take_tree (h : Hold) (m : Int) (l : Bool) : pcallK P H7 (noLoops 0) 10 [h.d, .i .i64 m, .b l] some = (cond (Hold.short (Hold.mk (Hold.rrn h) (Hold.acq h) (Hold.pan h) (Hold.app h) (Hold.cap h) (Hold.til h) (Hold.op h))) (cond (Bool.not (Hold.may (Hold.mk (Hold.rrn h) (Hold.acq h) (Hold.pan h) (Hold.app h) (Hold.cap h) (Hold.til h) (Hold.op h)))) (some (D.tp [(D.ag [(D.s (ByteArray.mk (List.toArray List.nil))), (D.s (ByteArray.mk (List.toArray List.nil))), (D.s (ByteArray.mk (List.toArray List.nil))), (D.i IntKind.i64 (0 : Int)), (D.i IntKind.i64 (0 : Int)), (D.i IntKind.i64 (0 : Int)), (D.b (false))]), (D.i IntKind.i64 (1 : Int))])) (cond (Bool.not (Hold.op h)) (some (D.tp [(D.ag [(D.s (ByteArray.mk (List.toArray List.nil))), (D.s (ByteArray.mk (List.toArray List.nil))), (D.s (ByteArray.mk (List.toArray List.nil))), (D.i IntKind.i64 (0 : Int)), (D.i IntKind.i64 (0 : Int)), (D.i IntKind.i64 (0 : Int)), (D.b (false))]), (D.i IntKind.i64 (14 : Int))])) (cond (decide (LT.lt m (1 : Int))) (some (D.tp [(D.ag [(D.s (ByteArray.mk (List.toArray List.nil))), (D.s (ByteArray.mk (List.toArray List.nil))), (D.s (ByteArray.mk (List.toArray List.nil))), (D.i IntKind.i64 (0 : Int)), (D.i IntKind.i64 (0 : Int)), (D.i IntKind.i64 (0 : Int)), (D.b (false))]), (D.i IntKind.i64 (1 : Int))])) (cond (decide (GT.gt m (IntKind.wrap IntKind.i64 (HSub.hSub (Hold.app h) (Hold.cap h))))) (some (D.tp [(D.ag [(D.s (ByteArray.mk (List.toArray List.nil))), (D.s (ByteArray.mk (List.toArray List.nil))), (D.s (ByteArray.mk (List.toArray List.nil))), (D.i IntKind.i64 (0 : Int)), (D.i IntKind.i64 (0 : Int)), (D.i IntKind.i64 (0 : Int)), (D.b (false))]), (D.i IntKind.i64 (13 : Int))])) (cond (Bool.not l) (some (D.tp [(D.ag [(D.s (Hold.rrn h)), (D.s (Hold.acq h)), (D.s (Hold.pan h)), (D.i IntKind.i64 (Hold.app h)), (D.i IntKind.i64 (IntKind.wrap IntKind.i64 (HAdd.hAdd (Hold.cap h) m))), (D.i IntKind.i64 (Hold.til h)), (D.b (decide (LT.lt (IntKind.wrap IntKind.i64 (HAdd.hAdd (Hold.cap h) m)) (Hold.app h))))]), (D.i IntKind.i64 (0 : Int))])) (some (D.tp [(D.ag [(D.s (Hold.rrn h)), (D.s (Hold.acq h)), (D.s (Hold.pan h)), (D.i IntKind.i64 (Hold.app h)), (D.i IntKind.i64 (IntKind.wrap IntKind.i64 (HAdd.hAdd (Hold.cap h) m))), (D.i IntKind.i64 (Hold.til h)), (D.b (false))]), (D.i IntKind.i64 (0 : Int))]))))))) none) := by kernel_rfl
theorem more_tree (h : Hold) (m t : Int) : pcallK P H7 (noLoops 0) 11 [h.d, .i .i64 m, .i .i64 t] some = (cond (Hold.short (Hold.mk (Hold.rrn h) (Hold.acq h) (Hold.pan h) (Hold.app h) (Hold.cap h) (Hold.til h) (Hold.op h))) (cond (Bool.not (Hold.may (Hold.mk (Hold.rrn h) (Hold.acq h) (Hold.pan h) (Hold.app h) (Hold.cap h) (Hold.til h) (Hold.op h)))) (some (D.tp [(D.ag [(D.s (ByteArray.mk (List.toArray List.nil))), (D.s (ByteArray.mk (List.toArray List.nil))), (D.s (ByteArray.mk (List.toArray List.nil))), (D.i IntKind.i64 (0 : Int)), (D.i IntKind.i64 (0 : Int)), (D.i IntKind.i64 (0 : Int)), (D.b (false))]), (D.i IntKind.i64 (1 : Int))])) (cond (Bool.not (Hold.op h)) (some (D.tp [(D.ag [(D.s (ByteArray.mk (List.toArray List.nil))), (D.s (ByteArray.mk (List.toArray List.nil))), (D.s (ByteArray.mk (List.toArray List.nil))), (D.i IntKind.i64 (0 : Int)), (D.i IntKind.i64 (0 : Int)), (D.i IntKind.i64 (0 : Int)), (D.b (false))]), (D.i IntKind.i64 (14 : Int))])) (cond (decide (LT.lt m (1 : Int))) (some (D.tp [(D.ag [(D.s (ByteArray.mk (List.toArray List.nil))), (D.s (ByteArray.mk (List.toArray List.nil))), (D.s (ByteArray.mk (List.toArray List.nil))), (D.i IntKind.i64 (0 : Int)), (D.i IntKind.i64 (0 : Int)), (D.i IntKind.i64 (0 : Int)), (D.b (false))]), (D.i IntKind.i64 (1 : Int))])) (cond (Bool.not (untilB t)) (some (D.tp [(D.ag [(D.s (ByteArray.mk (List.toArray List.nil))), (D.s (ByteArray.mk (List.toArray List.nil))), (D.s (ByteArray.mk (List.toArray List.nil))), (D.i IntKind.i64 (0 : Int)), (D.i IntKind.i64 (0 : Int)), (D.i IntKind.i64 (0 : Int)), (D.b (false))]), (D.i IntKind.i64 (1 : Int))])) (cond (Bool.and (fits (Hold.app h)) (fits m)) (cond (bne (cond (fits (HAdd.hAdd (Hold.app h) m)) (0 : Int) (2 : Int)) (0 : Int)) (some (D.tp [(D.ag [(D.s (ByteArray.mk (List.toArray List.nil))), (D.s (ByteArray.mk (List.toArray List.nil))), (D.s (ByteArray.mk (List.toArray List.nil))), (D.i IntKind.i64 (0 : Int)), (D.i IntKind.i64 (0 : Int)), (D.i IntKind.i64 (0 : Int)), (D.b (false))]), (D.i IntKind.i64 (cond (fits (HAdd.hAdd (Hold.app h) m)) (0 : Int) (2 : Int)))])) (cond (Hold.op h) (some (D.tp [(D.ag [(D.s (Hold.rrn h)), (D.s (Hold.acq h)), (D.s (Hold.pan h)), (D.i IntKind.i64 (cond (fits (HAdd.hAdd (Hold.app h) m)) (HAdd.hAdd (Hold.app h) m) (0 : Int))), (D.i IntKind.i64 (Hold.cap h)), (D.i IntKind.i64 (t)), (D.b (decide (LT.lt (Hold.cap h) (cond (fits (HAdd.hAdd (Hold.app h) m)) (HAdd.hAdd (Hold.app h) m) (0 : Int)))))]), (D.i IntKind.i64 (0 : Int))])) (some (D.tp [(D.ag [(D.s (Hold.rrn h)), (D.s (Hold.acq h)), (D.s (Hold.pan h)), (D.i IntKind.i64 (cond (fits (HAdd.hAdd (Hold.app h) m)) (HAdd.hAdd (Hold.app h) m) (0 : Int))), (D.i IntKind.i64 (Hold.cap h)), (D.i IntKind.i64 (t)), (D.b (false))]), (D.i IntKind.i64 (0 : Int))])))) none))))) none) := by kernel_rfl
theorem less_tree (h : Hold) (m : Int) : pcallK P H7 (noLoops 0) 13 [h.d, .i .i64 m] some = (cond (Hold.short (Hold.mk (Hold.rrn h) (Hold.acq h) (Hold.pan h) (Hold.app h) (Hold.cap h) (Hold.til h) (Hold.op h))) (cond (Bool.not (Hold.may (Hold.mk (Hold.rrn h) (Hold.acq h) (Hold.pan h) (Hold.app h) (Hold.cap h) (Hold.til h) (Hold.op h)))) (some (D.tp [(D.ag [(D.s (ByteArray.mk (List.toArray List.nil))), (D.s (ByteArray.mk (List.toArray List.nil))), (D.s (ByteArray.mk (List.toArray List.nil))), (D.i IntKind.i64 (0 : Int)), (D.i IntKind.i64 (0 : Int)), (D.i IntKind.i64 (0 : Int)), (D.b (false))]), (D.i IntKind.i64 (1 : Int))])) (cond (Bool.not (Hold.op h)) (some (D.tp [(D.ag [(D.s (ByteArray.mk (List.toArray List.nil))), (D.s (ByteArray.mk (List.toArray List.nil))), (D.s (ByteArray.mk (List.toArray List.nil))), (D.i IntKind.i64 (0 : Int)), (D.i IntKind.i64 (0 : Int)), (D.i IntKind.i64 (0 : Int)), (D.b (false))]), (D.i IntKind.i64 (14 : Int))])) (cond (decide (LT.lt m (1 : Int))) (some (D.tp [(D.ag [(D.s (ByteArray.mk (List.toArray List.nil))), (D.s (ByteArray.mk (List.toArray List.nil))), (D.s (ByteArray.mk (List.toArray List.nil))), (D.i IntKind.i64 (0 : Int)), (D.i IntKind.i64 (0 : Int)), (D.i IntKind.i64 (0 : Int)), (D.b (false))]), (D.i IntKind.i64 (1 : Int))])) (cond (decide (GT.gt m (IntKind.wrap IntKind.i64 (HSub.hSub (Hold.app h) (Hold.cap h))))) (some (D.tp [(D.ag [(D.s (ByteArray.mk (List.toArray List.nil))), (D.s (ByteArray.mk (List.toArray List.nil))), (D.s (ByteArray.mk (List.toArray List.nil))), (D.i IntKind.i64 (0 : Int)), (D.i IntKind.i64 (0 : Int)), (D.i IntKind.i64 (0 : Int)), (D.b (false))]), (D.i IntKind.i64 (13 : Int))])) (cond (Hold.op h) (some (D.tp [(D.ag [(D.s (Hold.rrn h)), (D.s (Hold.acq h)), (D.s (Hold.pan h)), (D.i IntKind.i64 (IntKind.wrap IntKind.i64 (HSub.hSub (Hold.app h) m))), (D.i IntKind.i64 (Hold.cap h)), (D.i IntKind.i64 (Hold.til h)), (D.b (decide (LT.lt (Hold.cap h) (IntKind.wrap IntKind.i64 (HSub.hSub (Hold.app h) m)))))]), (D.i IntKind.i64 (0 : Int))])) (some (D.tp [(D.ag [(D.s (Hold.rrn h)), (D.s (Hold.acq h)), (D.s (Hold.pan h)), (D.i IntKind.i64 (IntKind.wrap IntKind.i64 (HSub.hSub (Hold.app h) m))), (D.i IntKind.i64 (Hold.cap h)), (D.i IntKind.i64 (Hold.til h)), (D.b (false))]), (D.i IntKind.i64 (0 : Int))]))))))) none) := by kernel_rfl
theorem text_tree (s : ByteArray) : pcallK P H7 (noLoops 0) 14 [.s s] some = (cond (decide (GT.gt (@Nat.cast Int _ (ByteArray.size s)) (30 : Int))) (cond (Bool.and (decide (LE.le (0 : Int) (30 : Int))) (decide (LE.le (30 : Int) (@Nat.cast Int _ (ByteArray.size s))))) (some (D.s (ByteArray.extract s (0) (30)))) none) (some (D.s (s)))) := by kernel_rfl
theorem h7 : HKOK P H7 := hk_ok (fun g f h => by cases h) (tab_ok (by
  intro w hw
  simp only [List.mem_cons, List.not_mem_nil, or_false] at hw
  rcases hw with rfl | rfl | rfl
  · exact may_row
  · exact add_row
  · exact until_row)) (fun g n => noLoops_ok g n) 3
def Hold.left (h : Hold) : Int := bif !h.may then 0 else bif !h.op then 0 else IntKind.wrap .i64 (h.app - h.cap)
def Hold.take (h : Hold) (m : Int) (l : Bool) : Hold × Int := bif !h.may then (.zero, 1) else bif !h.op then (.zero, 14) else bif decide (m < 1) then (.zero, 1) else
  bif decide (m > IntKind.wrap .i64 (h.app - h.cap)) then (.zero, 13) else
  (⟨h.rrn, h.acq, h.pan, h.app, IntKind.wrap .i64 (h.cap + m), h.til, bif !l then decide (IntKind.wrap .i64 (h.cap + m) < h.app) else false⟩, 0)
def Hold.more (h : Hold) (m t : Int) : Hold × Int := bif !h.may then (.zero, 1) else bif !h.op then (.zero, 14) else bif decide (m < 1) then (.zero, 1) else
  bif !untilB t then (.zero, 1) else bif !fits (h.app + m) then (.zero, 2) else
  (⟨h.rrn, h.acq, h.pan, h.app + m, h.cap, t, bif h.op then decide (h.cap < h.app + m) else false⟩, 0)
def Hold.less (h : Hold) (m : Int) : Hold × Int := bif !h.may then (.zero, 1) else bif !h.op then (.zero, 14) else bif decide (m < 1) then (.zero, 1) else
  bif decide (m > IntKind.wrap .i64 (h.app - h.cap)) then (.zero, 13) else
  (⟨h.rrn, h.acq, h.pan, IntKind.wrap .i64 (h.app - m), h.cap, h.til, bif h.op then decide (h.cap < IntKind.wrap .i64 (h.app - m)) else false⟩, 0)
def two (p : Hold × Int) : D := .tp [p.1.d, .i .i64 p.2]
def leftRow : Row := ⟨18, fun ds => match ds with
  | [.ag [.s a, .s b, .s c, .i .i64 d, .i .i64 e, .i .i64 f, .b g]] => some (Hold.short ⟨a, b, c, d, e, f, g⟩, .i .i64 (Hold.left ⟨a, b, c, d, e, f, g⟩))
  | _ => none⟩
def takeRow : Row := ⟨10, fun ds => match ds with
  | [.ag [.s a, .s b, .s c, .i .i64 d, .i .i64 e, .i .i64 f, .b g], .i .i64 m, .b l] => some (Hold.short ⟨a, b, c, d, e, f, g⟩, two (Hold.take ⟨a, b, c, d, e, f, g⟩ m l))
  | _ => none⟩
def moreRow : Row := ⟨11, fun ds => match ds with
  | [.ag [.s a, .s b, .s c, .i .i64 d, .i .i64 e, .i .i64 f, .b g], .i .i64 m, .i .i64 t] => some (Hold.short ⟨a, b, c, d, e, f, g⟩ && (fits d && fits m), two (Hold.more ⟨a, b, c, d, e, f, g⟩ m t))
  | _ => none⟩
def lessRow : Row := ⟨13, fun ds => match ds with
  | [.ag [.s a, .s b, .s c, .i .i64 d, .i .i64 e, .i .i64 f, .b g], .i .i64 m] => some (Hold.short ⟨a, b, c, d, e, f, g⟩, two (Hold.less ⟨a, b, c, d, e, f, g⟩ m))
  | _ => none⟩
theorem left_row : RowOK P G0 leftRow := by
  intro ds q hq
  simp only [leftRow] at hq
  split at hq
  · rename_i a b c d e f g
    injection hq with hq
    injection hq with k1 k2
    subst k2
    refine row_nl h7 18 ((left_tree ⟨a, b, c, d, e, f, g⟩).trans ?_)
    dsimp only
    rw [k1]
    unfold Hold.left
    dsimp only
    cases Hold.may ⟨a, b, c, d, e, f, g⟩ <;> cases g <;> rfl
  · cases hq
theorem take_row : RowOK P G0 takeRow := by
  intro ds q hq
  simp only [takeRow] at hq
  split at hq
  · rename_i a b c d e f g m l
    injection hq with hq
    injection hq with k1 k2
    subst k2
    refine row_nl h7 10 ((take_tree ⟨a, b, c, d, e, f, g⟩ m l).trans ?_)
    dsimp only
    rw [k1]
    unfold Hold.take
    dsimp only
    cases Hold.may ⟨a, b, c, d, e, f, g⟩ <;> cases g <;> cases decide (m < 1) <;> cases decide (m > IntKind.wrap .i64 (d - e)) <;> cases l <;> rfl
  · cases hq
theorem more_row : RowOK P G0 moreRow := by
  intro ds q hq
  simp only [moreRow] at hq
  split at hq
  · rename_i a b c d e f g m t
    injection hq with hq
    injection hq with k1 k2
    subst k2
    rw [Bool.and_eq_true] at k1
    refine row_nl h7 11 ((more_tree ⟨a, b, c, d, e, f, g⟩ m t).trans ?_)
    dsimp only
    rw [k1.1, k1.2]
    unfold Hold.more
    dsimp only
    cases Hold.may ⟨a, b, c, d, e, f, g⟩ <;> cases g <;> cases decide (m < 1) <;> cases untilB t <;> cases fits (d + m) <;> rfl
  · cases hq
theorem less_row : RowOK P G0 lessRow := by
  intro ds q hq
  simp only [lessRow] at hq
  split at hq
  · rename_i a b c d e f g m
    injection hq with hq
    injection hq with k1 k2
    subst k2
    refine row_nl h7 13 ((less_tree ⟨a, b, c, d, e, f, g⟩ m).trans ?_)
    dsimp only
    rw [k1]
    unfold Hold.less
    dsimp only
    cases Hold.may ⟨a, b, c, d, e, f, g⟩ <;> cases g <;> cases decide (m < 1) <;> cases decide (m > IntKind.wrap .i64 (d - e)) <;> rfl
  · cases hq
def cut30 (s : ByteArray) : ByteArray := bif decide ((s.size : Int) > 30) then s.extract 0 30 else s
def textRow : Row := ⟨14, fun ds => match ds with
  | [.s s] => some (true, .s (cut30 s))
  | _ => none⟩
theorem text_row : RowOK P G0 textRow := by
  intro ds q hq
  simp only [textRow] at hq
  split at hq
  · rename_i s
    injection hq with hq
    injection hq with k1 k2
    subst k2
    refine row_nl h7 14 ((text_tree s).trans ?_)
    unfold cut30
    by_cases h : (s.size : Int) > 30
    · have h2 : (30 : Int) ≤ (s.size : Int) := by omega
      simp only [h, h2, decide_true, cond_true]
      rfl
    · simp only [h, decide_false, cond_false]
  · cases hq
end Go.Proofs.Ytloambokbipnjaa
