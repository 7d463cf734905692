/- Code, and whole functions, do what the plain evaluator says. By this session. -/
import Derived.Test.YtloambokbipnjaaFn
import Derived.LoopN
import Derived.Tactics
set_option linter.unusedVariables false
set_option linter.unusedSimpArgs false
namespace Go.Fw
variable {P : Program}

structure SR (G : Nat → Option (List D)) (nt : Nat) (c : Cf) (st : St) (a : Act) : Prop where
  g : c.G = G
  s : RelS c st.n st.f a.tmps
  h : RelH c st.n st.h
  size : a.tmps.size = nt
  defers : a.defers = []

theorem put_size (a : Act) (dst : Option Nat) (v : Value) : (a.put dst v).tmps.size = a.tmps.size := by
  cases dst <;> simp [Act.put]
theorem put_defers (a : Act) (dst : Option Nat) (v : Value) : (a.put dst v).defers = a.defers := by
  cases dst <;> rfl

theorem SR.put {G : Nat → Option (List D)} {nt : Nat} {c c' : Cf} {st : St} {a : Act} (h : SR G nt c st a) {r : V × Nat × Heap} {v : Value} (ho : Outs c st.n r v c') {dst : Option Nat} (hd : ∀ d, dst = some d → d < nt) :
    SR G nt c' (St.put { st with n := r.2.1, h := r.2.2 } dst r.1) (a.put dst v) := by
  refine ⟨ho.ext.G.trans h.g, ?_, ?_, by rw [put_size]; exact h.size, by rw [put_defers]; exact h.defers⟩
  · have h1 : RelS c' r.2.1 st.f a.tmps := h.s.mono ho.ext ho.le
    cases dst with
    | none => exact h1
    | some d => exact h1.put ho.rel (by rw [h.size]; exact hd d rfl)
  · cases dst <;> exact ho.heap

theorem SR.skip {G : Nat → Option (List D)} {nt : Nat} {c : Cf} {st : St} {a : Act} (h : SR G nt c st a) {dst : Option Nat} (hd : ∀ d, dst = some d → d < nt) : SR G nt c (st.put dst (.d (.tp []))) (a.put dst undef) := by
  refine ⟨h.g, ?_, ?_, by rw [put_size]; exact h.size, by rw [put_defers]; exact h.defers⟩
  · cases dst with
    | none => exact h.s
    | some d => exact h.s.put (.d _ _ (.tp [] #[] rfl (by simp))) (by rw [h.size]; exact hd d rfl)
  · cases dst <;> exact h.h

theorem evOp_wp {h : Hs} (hok : CallsOK P h) {o : Oper} {f : Slots} {n : Nat} {hp : Heap} {a : Act} {c : Cf} {r : V × Nat × Heap} (he : evOp P h o f n hp = some r) (hG : h.G = c.G) (hs : RelS c n f a.tmps) (hH : RelH c n hp)
    {K : Act → World → Prop} {Q : Exit → Act → World → Prop} (hK : ∀ v c', Outs c n r v c' → K (a.put o.dst v) c'.w) : o.wp P a c.w K Q := by
  by_cases hcf : callFree o.op = true
  · obtain ⟨v, c', hr, ho⟩ := evOp_sound hcf he hG hs hH
    exact hr.wp (hK v c' ho)
  · unfold evOp at he
    unfold callFree at hcf
    split at hcf
    · rename_i cl hop
      rw [hop] at he
      simp only [] at he
      split at he
      · rename_i hcl; rw [hcl] at hcf; exact absurd rfl hcf
      · rename_i hcl; rw [hcl] at hcf; exact absurd rfl hcf
      · rename_i g hcl
        exact calleeV_wp hok hop hcl he hG hs hH hK
      · cases he
    · exact absurd rfl hcf

theorem step1_wp {h : Hs} (hok : CallsOK P h) {nt : Nat} {o : Oper} {st st' : St} {a : Act} {c : Cf} (he : step1 P h o st = some st') (hr : SR h.G nt c st a) (hd : ∀ d, o.dst = some d → d < nt)
    {K : Act → World → Prop} {Q : Exit → Act → World → Prop} (hK : ∀ v c', Ext c st.n c' → st.n ≤ st'.n → SR h.G nt c' st' (a.put o.dst v) → K (a.put o.dst v) c'.w) : o.wp P a c.w K Q := by
  unfold step1 at he
  split at he
  · rename_i v n hp hop
    injection he with he
    subst he
    refine evOp_wp hok hop hr.g.symm hr.s hr.h fun val c' ho => hK _ c' ho.ext ?_ (hr.put ho hd)
    have := ho.le
    cases o.dst <;> exact this
  · cases he

theorem yielded_of {all : Array Oper} {c : Cf} {n : Nat} {f : Slots} {a : Act} (hs : RelS c n f a.tmps) {nt : Nat} (hsz : a.tmps.size = nt) {j t : Nat} {x : Bool} (hg : guardAt all.toList j = some t) (ht : t < nt) (hx : get f t = .d (.b x)) :
    yielded all a.tmps j = some x := by
  have h1 := hs.get t
  rw [hx] at h1
  unfold yielded
  unfold guardAt at hg
  rw [Array.getElem?_toList] at hg
  rw [hg]
  simp only [Option.bind_some]
  have h2 : a.tmps[t]? = some (a.tmps.getD t undef) := by rw [Array.getD_eq_getD_getElem?, Array.getElem?_eq_getElem (by omega)]; rfl
  rw [h2]
  generalize a.tmps.getD t undef = v at h1
  cases h1.inv_d
  rfl

theorem yielded_none {all : Array Oper} {c : Cf} {n : Nat} {f : Slots} {a : Act} (hs : RelS c n f a.tmps) {nt : Nat} (hsz : a.tmps.size = nt) {j t : Nat} (hg : guardAt all.toList j = some t) (ht : t < nt) (hx : get f t = .d (.tp [])) :
    yielded all a.tmps j = none := by
  have h1 := hs.get t
  rw [hx] at h1
  unfold yielded
  unfold guardAt at hg
  rw [Array.getElem?_toList] at hg
  rw [hg]
  simp only [Option.bind_some]
  have h2 : a.tmps[t]? = some (a.tmps.getD t undef) := by rw [Array.getD_eq_getD_getElem?, Array.getElem?_eq_getElem (by omega)]; rfl
  rw [h2]
  generalize a.tmps.getD t undef = v at h1
  cases h1.inv_d
  rfl

/-- one operation, with its guard -/
theorem evOper_wp {h : Hs} (hok : CallsOK P h) {nt : Nat} {all : Array Oper} (hall : ∀ o ∈ all.toList, ∀ d, o.dst = some d → d < nt) {o : Oper} (hin : o ∈ all.toList) {st st1 : St} {a : Act} {c : Cf}
    (he : evOper P h all.toList o st = some st1) (hr : SR h.G nt c st a) {K : Act → World → Prop} {Q : Exit → Act → World → Prop}
    (hK : ∀ v c', Ext c st.n c' → st.n ≤ st1.n → SR h.G nt c' st1 (a.put o.dst v) → K (a.put o.dst v) c'.w) :
    if Region.wanted o (yielded all a.tmps) then o.wp P a c.w K Q ∨ (o.asks P a c.w ∧ LetsOut Q) else K (a.put o.dst undef) c.w := by
  have hd : ∀ d, o.dst = some d → d < nt := hall o hin
  unfold evOper at he
  have skip : st1 = st.put o.dst (.d (.tp [])) → K (a.put o.dst undef) c.w := by
    rintro rfl
    refine hK _ c (.refl c _) ?_ (hr.skip hd)
    cases o.dst <;> exact Nat.le_refl _
  split at he
  · rename_i hg
    rw [if_pos (by simp [Region.wanted, hg])]
    exact .inl (step1_wp hok he hr hd hK)
  · rename_i j want hg
    split at he
    · rename_i t ht
      have htl : t < nt := by
        unfold guardAt at ht
        obtain ⟨o', ho', hd'⟩ := Option.bind_eq_some_iff.1 ht
        exact hall o' (List.mem_of_getElem? ho') t hd'
      split at he
      · rename_i x hx
        have hy := yielded_of hr.s hr.size ht htl hx
        by_cases hxw : (x == want) = true
        · rw [hxw] at he
          rw [if_pos (by simp [Region.wanted, hg, hy]; simpa using hxw)]
          exact .inl (step1_wp hok he hr hd hK)
        · rw [Bool.eq_false_iff.mpr hxw] at he
          injection he with he
          rw [if_neg (by simp [Region.wanted, hg, hy]; simpa using hxw)]
          exact skip he.symm
      · rename_i hx
        have hy := yielded_none hr.s hr.size ht htl hx
        injection he with he
        rw [if_neg (by simp [Region.wanted, hg, hy])]
        exact skip he.symm
      · cases he
    · cases he

theorem evOps_wp {h : Hs} (hok : CallsOK P h) {nt : Nat} {all : Array Oper} (hall : ∀ o ∈ all.toList, ∀ d, o.dst = some d → d < nt) {Q : Exit → Act → World → Prop} : ∀ (os : List Oper) (st st' : St) (a : Act) (c : Cf), (∀ o ∈ os, o ∈ all.toList) →
    evOps P h all.toList os st = some st' → SR h.G nt c st a → (∀ a' c', Ext c st.n c' → st.n ≤ st'.n → SR h.G nt c' st' a' → Q .normal a' c'.w) → wpList P all Q os a c.w
  | [], st, st', a, c, hin, he, hr, hQ => by
    simp only [evOps, Option.some.injEq] at he
    subst he
    exact hQ a c (.refl c _) (Nat.le_refl _) hr
  | o :: os, st, st', a, c, hin, he, hr, hQ => by
    simp only [evOps] at he
    split at he
    · rename_i st1 h1
      unfold wpList
      exact evOper_wp hok hall (hin o List.mem_cons_self) h1 hr fun v c' hx hn hr' =>
        evOps_wp hok hall os st1 st' _ c' (fun o ho => hin o (List.mem_cons_of_mem _ ho)) he hr' fun a2 c2 hx2 hn2 hr2 => hQ a2 c2 (hx.trans hx2 hn) (Nat.le_trans hn hn2) hr2
    · cases he

end Go.Fw
