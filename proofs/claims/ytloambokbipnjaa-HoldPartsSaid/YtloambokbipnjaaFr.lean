/- Code does what the plain evaluator says. By this session. -/
import Derived.Test.YtloambokbipnjaaFv
set_option linter.unusedVariables false
set_option linter.unusedSimpArgs false
namespace Go.Fw
variable {P : Program}

def exitOf : X → Exit
  | .n => .normal
  | .ret => .ret
  | .exit id => .exit id

def CodeOK (P : Program) (G : Nat → Option (List D)) (nt : Nat) (code : Code) (st : St) (r : X × St) : Prop :=
  ∀ (c : Cf) (a : Act) (Q : Exit → Act → World → Prop), SR G nt c st a → (∀ a' c', Ext c st.n c' → st.n ≤ r.2.n → SR G nt c' r.2 a' → Q (exitOf r.1) a' c'.w) → code.wp P Q a c.w

def LoopsOK (P : Program) (h : Hs) : Prop := ∀ nt body st r, okCode nt body = true → h.loop body st = some r → CodeOK P h.G nt (.loop body) st r

theorem ev_wp {h : Hs} (hok : CallsOK P h) (hl : LoopsOK P h) {nt : Nat} : ∀ (code : Code) (st : St) (r : X × St), okCode nt code = true → ev P h code st = some r → CodeOK P h.G nt code st r
  | .skip, st, r, hk, he => by
    simp only [ev, Option.some.injEq] at he
    subst he
    intro c a Q hr hQ
    exact wp_skip (hQ a c (.refl c _) (Nat.le_refl _) hr)
  | .region id ops false, st, r, hk, he => by
    simp only [ev, norm] at he
    split at he
    · rename_i st' h1
      injection he with he
      subst he
      intro c a Q hr hQ
      refine wp_region_list (evOps_wp hok ?_ ops.toList st st' a c (fun o ho => ho) h1 hr hQ)
      intro o ho d hd
      simp only [okCode, List.all_eq_true] at hk
      have := hk o ho
      rw [hd] at this
      exact Nat.le_of_ble_eq_true this
    · cases he
  | .region id ops true, st, r, hk, he => by
    simp only [ev] at he
    obtain ⟨hm, he⟩ := cond_some he
    unfold norm at he
    split at he
    · rename_i st' h1
      injection he with he
      subst he
      intro c a Q hr hQ
      refine evDraw_wp hok hm ?_ h1 hr hQ
      intro o ho d hd
      simp only [okCode, List.all_eq_true] at hk
      have := hk o ho
      rw [hd] at this
      exact Nat.le_of_ble_eq_true this
    · cases he
  | .seq x y, st, r, hk, he => by
    simp only [okCode, Bool.and_eq_true] at hk
    simp only [ev] at he
    intro c a Q hr hQ
    split at he
    · rename_i st1 h1
      refine wp_seq (ev_wp hok hl x st _ hk.1 h1 c a _ hr fun a1 c1 hx1 hn1 hr1 => ?_)
      exact ev_wp hok hl y st1 r hk.2 he c1 a1 Q hr1 fun a2 c2 hx2 hn2 hr2 => hQ a2 c2 (hx1.trans hx2 hn1) (Nat.le_trans hn1 hn2) hr2
    · rename_i hne
      refine wp_seq (ev_wp hok hl x st r hk.1 he c a _ hr fun a1 c1 hx1 hn1 hr1 => ?_)
      have := hQ a1 c1 hx1 hn1 hr1
      obtain ⟨x', st'⟩ := r
      cases x' with
      | n => exact absurd he (hne st')
      | ret => exact this
      | exit id => exact this
  | .cond co x y, st, r, hk, he => by
    simp only [okCode, Bool.and_eq_true] at hk
    simp only [ev] at he
    intro c a Q hr hQ
    split at he
    · rename_i t ht
      have hv := opV_rel hr.s co
      rw [hr.g, ht] at hv
      have hc : a.eval co = .bool t := by
        generalize a.eval co = v at hv
        cases hv.inv_d
        rfl
      refine wp_cond hc ?_
      cases t with
      | true => exact ev_wp hok hl x st r hk.1 he c a Q hr hQ
      | false => exact ev_wp hok hl y st r hk.2 he c a Q hr hQ
    · cases he
  | .block id x, st, r, hk, he => by
    simp only [okCode] at hk
    simp only [ev] at he
    intro c a Q hr hQ
    refine wp_block ?_
    unfold leave at he
    split at he
    · rename_i j st1 h1
      refine ev_wp hok hl x st _ hk h1 c a _ hr fun a1 c1 hx1 hn1 hr1 => ?_
      by_cases hj : j = id
      · subst hj
        simp only [beq_self_eq_true, cond_true, Option.some.injEq] at he
        subst he
        simp only [exitOf, Exit.inBlock, if_true]
        exact hQ a1 c1 hx1 hn1 hr1
      · rw [show (j == id) = false from by simpa using hj] at he
        simp only [cond_false, Option.some.injEq] at he
        subst he
        simp only [exitOf, Exit.inBlock, if_neg hj]
        exact hQ a1 c1 hx1 hn1 hr1
    · rename_i hne
      refine ev_wp hok hl x st r hk he c a _ hr fun a1 c1 hx1 hn1 hr1 => ?_
      have := hQ a1 c1 hx1 hn1 hr1
      obtain ⟨x', st'⟩ := r
      cases x' with
      | n => exact this
      | ret => exact this
      | exit j => exact absurd he (hne j st')
  | .loop x, st, r, hk, he => by
    simp only [okCode] at hk
    simp only [ev] at he
    exact hl nt x st r hk he
  | .exit id, st, r, hk, he => by
    simp only [ev, Option.some.injEq] at he
    subst he
    intro c a Q hr hQ
    exact wp_exit (hQ a c (.refl c _) (Nat.le_refl _) hr)
  | .ret, st, r, hk, he => by
    simp only [ev, Option.some.injEq] at he
    subst he
    intro c a Q hr hQ
    exact wp_ret (hQ a c (.refl c _) (Nat.le_refl _) hr)
  | .rangeFunc .., st, r, hk, he => by simp [ev] at he
  | .scope _, st, r, hk, he => by simp [ev] at he
  | .label _, st, r, hk, he => by simp [ev] at he
  | .goto _, st, r, hk, he => by simp [ev] at he
  | .refuse _, st, r, hk, he => by simp [ev] at he
end Go.Fw
