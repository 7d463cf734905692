/- Part 3 of what the proof of this statement stands on: Two states are the same just if their pairs are, where both may be; the code and the document say the same of any two states. -/
import Derived.RangeFuncNested
import Derived.Test.YtopoklifappmcaaGreatDoorKShelfSame2
section
set_option linter.unusedVariables false
set_option linter.unusedSimpArgs false
namespace Go.Fw
variable {P : Program}

theorem OkR.seq {ro : Option Nat} {a b : Code} (h : OkR ro (.seq a b)) : OkR ro a ∧ OkR ro b := by
  rcases h with h | h
  · exact ⟨.inl h, .inl h⟩
  · simp only [okRound, Bool.and_eq_true] at h; exact ⟨.inr h.1, .inr h.2⟩
theorem OkR.cond {ro : Option Nat} {o : Operand} {a b : Code} (h : OkR ro (.cond o a b)) : OkR ro a ∧ OkR ro b := by
  rcases h with h | h
  · exact ⟨.inl h, .inl h⟩
  · simp only [okRound, Bool.and_eq_true] at h; exact ⟨.inr h.1, .inr h.2⟩
theorem OkR.block {ro : Option Nat} {id : Nat} {a : Code} (h : OkR ro (.block id a)) : OkR ro a := h
theorem OkR.loop {ro : Option Nat} {a : Code} (h : OkR ro (.loop a)) : OkR ro a := h
def LoopsOK (P : Program) (h : Hs) : Prop := ∀ nt body st r, okCode nt body = true → h.loop body st = some r → CodeOK P h.G nt (.loop body) st r

def Cf.hid (c : Cf) (o : Obj) : Cf := { c with w := c.w.alloc o }
theorem ext_hid {c : Cf} {n : Nat} {hp : Heap} (h : RelH c n hp) (o : Obj) : Ext c n (c.hid o) where
  size := by simp [Cf.hid]
  kept := fun b hb => ⟨hb, alloc_old c.w o b (h.low b hb)⟩
  shape := fun b cs e fz hc => ⟨cs, by rw [← hc]; exact alloc_old c.w o b (Array.getElem?_eq_some_iff.1 hc).1, rfl⟩
  loops := fun b r hr => ⟨r, by rw [← hr]; exact alloc_old c.w o b (Array.getElem?_eq_some_iff.1 hr).1, rfl, rfl, rfl, rfl, rfl, rfl⟩
  defs := fun b hb => ⟨by rw [← hb.1]; exact alloc_old c.w o b (Array.getElem?_eq_some_iff.1 hb.1).1, hb.2⟩
  bk := fun _ _ => rfl
  ln := fun _ _ => rfl
  K := rfl
  G := rfl
  keptK := fun b hb => alloc_old c.w o b (h.lowK b hb)
  os := rfl
  tape := rfl
  output := rfl
theorem relH_hid {c : Cf} {n : Nat} {hp : Heap} (h : RelH c n hp) (o : Obj) : RelH (c.hid o) n hp :=
  h.mono (ext_hid h o) (Nat.le_refl n) (fun id ho => alloc_old c.w o _ (own_lt h ho)) (fun id ho => h.own id ho) (fun b hb => by have := h.low b hb; simp [Cf.hid]; omega) h.disj
theorem rangeEnd_some {f : Slots} {id : Nat} {q : Out} {r : X × St} (h : rangeEnd f id q = some r) : ∃ v n hp, q = some (v, n, hp) ∧ r.2 = ⟨f, n, (id, .dead) :: hp⟩ ∧ ((lk hp id = .ot (.lp .ready) ∧ r.1 = .n) ∨ lk hp id = .ot (.lp (.done r.1))) := by
  unfold rangeEnd at h
  split at h
  · rename_i v n hp
    split at h
    · rename_i hl; injection h with h; subst h; exact ⟨v, n, hp, rfl, rfl, .inl ⟨hl, rfl⟩⟩
    · rename_i x hl; injection h with h; subst h; exact ⟨v, n, hp, rfl, rfl, .inr hl⟩
    · cases h
  · cases h
theorem iterV_some {h : Hs} {f : Slots} {o : Operand} {y : V} {n : Nat} {hp : Heap} {r : V × Nat × Heap} (he : iterV h f o y n hp = some r) {c : Cf} {m : Nat} {a : Act} (hv : RelV c m (opV h.G f o) (a.eval o)) (hm : m ≤ n) :
    ∃ g xs lb, h.call g (y :: xs) n hp = some r ∧ a.eval o = .func (.func g) #[] lb ∧ RelL c m xs lb.toList := by
  unfold iterV at he
  split at he
  · rename_i g cs hf
    rw [hf] at hv
    generalize a.eval o = v at hv
    cases hv.inv_d with
    | fn _ _ vs hl hh =>
      refine ⟨g, _, vs, he, rfl, by simpa using hl, fun j x hj => ?_⟩
      simp only [List.getElem?_map] at hj
      obtain ⟨d, hd, rfl⟩ := Option.map_eq_some_iff.1 hj
      have hlt := (List.getElem?_eq_some_iff.1 hd).1
      refine ⟨vs.getD j undef, ?_, .d _ _ (hh j d hd)⟩
      rw [Array.getElem?_toList, Array.getD_eq_getD_getElem?, Array.getElem?_eq_getElem (by omega)]; rfl
  · rename_i g cs hf
    rw [hf] at hv
    generalize a.eval o = v at hv
    cases hv with
    | fn _ _ vs hl hh =>
      refine ⟨g, _, vs, he, rfl, by simpa using hl, fun j x hj => ?_⟩
      have hlt := (List.getElem?_eq_some_iff.1 hj).1
      refine ⟨vs.getD j undef, ?_, hh j x hj⟩
      rw [Array.getElem?_toList, Array.getD_eq_getD_getElem?, Array.getElem?_eq_getElem (by omega)]; rfl
  · cases he
theorem range_wp {h : Hs} (hok : CallsOK P h) {nt : Nat} {g : Operand} {ps : Array Tmp} {assign body : Code} {st : St} {r : X × St} (hk : okCode nt (.rangeFunc g ps assign body) = true) (he : rangeEnd st.f st.n (iterV h st.f g (.yd st.n (aboutS ps.toList assign body st.f) ps.toList assign body) (st.n + 1) ((st.n, .ot (.lp .ready)) :: st.h)) = some r) :
    CodeOK P h.G nt (.rangeFunc g ps assign body) st r := by
  intro ro hro lo c a Q hr hQ
  have hro : ro = none := by rcases hro with h | h; exact h; cases h
  subst hro
  obtain ⟨v, n', hp', hq, h2, hend⟩ := rangeEnd_some he
  obtain ⟨gf, xs, lb, hcall, hg, hL⟩ := iterV_some hq (by have := opV_rel hr.s g; rw [hr.g] at this; exact this) (Nat.le_succ _)
  obtain ⟨hent, hm⟩ := hok.call _ _ _ _ _ hcall
  refine wpIn_rangeFunc fun fn _ => ?_
  obtain ⟨rc, hrc⟩ : ∃ rc : Loop, rc = { state := .ready, pending := none, fn, tmps := a.tmps, params := ps, assign, body, defers := c.w.heap.size } := ⟨_, rfl⟩
  have hx1 := ext_hid hr.h (.deferred (some []))
  have hH1 := relH_hid hr.h (.deferred (some []))
  obtain ⟨c1, hc1⟩ : ∃ c1, c.hid (.deferred (some [])) = c1 := ⟨_, rfl⟩
  rw [hc1] at hx1 hH1
  have hx2 : Ext c1 st.n (c1.new st.n (.loop rc) 0) := ext_new hH1 _ 0
  have hdb : c1.w.heap[c.w.heap.size]? = some (.deferred (some [])) := by rw [← hc1]; exact heap_alloc_new c.w _
  have hs1 : c1.w.heap.size = c.w.heap.size + 1 := by rw [← hc1]; simp [Cf.hid]
  have hH2 : RelH (c1.new st.n (.loop rc) 0) (st.n + 1) ((st.n, .ot (.lp .ready)) :: st.h) := relH_new hH1 _ ⟨⟨rc, by rw [Cf.new_bk]; exact heap_alloc_new c1.w _, by rw [hrc]; exact ⟨rfl, rfl⟩⟩, by rw [Cf.new_bk]; intro hI; have := hH1.low _ hI; omega⟩
  have hbk : (c1.new st.n (.loop rc) 0).bk st.n = c.w.heap.size + 1 := by rw [Cf.new_bk, hs1]
  have hx12 : Ext c st.n (c1.new st.n (.loop rc) 0) := hx1.trans hx2 (Nat.le_refl _)
  have hw2 : (c1.new st.n (.loop rc) 0).w = (c.w.alloc (.deferred (some []))).alloc (.loop rc) := by rw [← hc1]; rfl
  have hsz2 : (c1.new st.n (.loop rc) 0).w.heap.size = c.w.heap.size + 2 := by rw [hw2]; simp
  have hlb : (c1.new st.n (.loop rc) 0).w.heap[c.w.heap.size + 1]? = some (.loop rc) := by
    have := heap_alloc_new c1.w (.loop rc)
    rw [hs1] at this
    exact this
  obtain ⟨c2, hc2⟩ : ∃ c2, c1.new st.n (.loop rc) 0 = c2 := ⟨_, rfl⟩
  rw [hc2] at hx2 hH2 hbk hx12 hw2 hsz2 hlb
  have hS2 := hr.s.mono hx12 (Nat.le_succ st.n)
  have hy : RelV c2 (st.n + 1) (.yd st.n (aboutS ps.toList assign body st.f) ps.toList assign body) (.func (.yield (c.w.heap.size + 1)) #[] #[]) := by
    rw [← hbk]
    refine .yd _ _ _ _ _ a.tmps (Nat.lt_succ_self _) ⟨rc, by rw [hbk]; exact hlb, by rw [hrc], by rw [hrc], by rw [hrc], by rw [hrc]⟩ ?_ (keepS_rel hS2 _)
    exact Nat.le_trans ((okCode_iff _).1 hk) hr.size
  have hargs : RelL c2 (st.n + 1) (.yd st.n (aboutS ps.toList assign body st.f) ps.toList assign body :: xs) (#[Value.func (.yield (c.w.heap.size + 1)) #[] #[]] ++ lb).toList := by
    refine ⟨by simp [hL.1], fun j x hj => ?_⟩
    rw [Array.toList_append]
    match j, hj with
    | 0, hj => injection hj with hj; subst hj; exact ⟨_, rfl, hy⟩
    | j + 1, hj =>
      obtain ⟨u, hu, hru⟩ := hL.2 j x hj
      exact ⟨u, hu, hru.mono hx12 (Nat.le_succ _)⟩
  have hcl := hm c2 (#[Value.func (.yield (c.w.heap.size + 1)) #[] #[]] ++ lb) (hx12.G.trans hr.g) hS2.glob hH2 hargs
  refine ⟨c.w.heap.size + 1, [markOf c.w.heap.size], c2.w, { target := .fn (.func gf) lb, args := #[Value.func (.yield (c.w.heap.size + 1)) #[] #[]] }, c2.w, gf, #[Value.func (.yield (c.w.heap.size + 1)) #[] #[]] ++ lb, c2.w, ?_, ?_, ?_, ?_, fun h => ?_, ?_⟩
  · rw [hw2, hrc]; exact run_enterLoop_outer _ _ _ _ _
  · simp only [resolve, hg]
    simp [go_sem]
  · intro f' _; exact Fe_fn none f'
  · simp [invoke, go_sem, hent.run]
  · cases h
  · refine Fe_calls (ro := none) (hcl.mono ?_)
    rintro e w' ⟨u, c3, rfl, rfl, hO⟩
    have hx3 : Ext c st.n c3 := hx12.trans hO.ext (Nat.le_succ _)
    have hn3 : st.n + 1 ≤ n' := hO.le
    have hbk3 : c3.bk st.n = c.w.heap.size + 1 := (hO.ext.bk st.n (Nat.lt_succ_self _)).trans hbk
    have fin : ∀ (s : LSt), lk hp' st.n = .ot (.lp s) → s ≠ .busy → (∀ j, (match s with | .done x => xCode x | _ => none) = j → rangePost (Fe none) 3 P (c.w.heap.size + 1) Q { a with defers := [markOf c.w.heap.size] ++ a.defers } (.returned u) c3.w ∨ True) → 
        ∃ (j : Option Code) (c4 : Cf), (Instr.endLoop (c.w.heap.size + 1)).run P c3.w = .ok j c4.w ∧ j = (match s with | .done x => xCode x | _ => none) ∧ Ext c st.n c4 ∧ SR h.G lo nt c4 r.2 { a with defers := [markOf c.w.heap.size] ++ a.defers } := by
      intro s hs hb _
      obtain ⟨r3, hr3, hL3⟩ := lp_rec hO.heap hs
      rw [hbk3] at hr3
      have hnb : r3.state ≠ .busy := by
        cases s with
        | ready => rw [hL3.1]; intro h; cases h
        | busy => exact absurd rfl hb
        | done x => rw [hL3.1]; intro h; cases h
      have ho : (lk hp' st.n).own = true := by rw [hs]; rfl
      have hx4 : Ext c3 n' (c3.put (c3.bk st.n) (.loop { r3 with state := .exhausted })) := ext_put (by rw [hbk3]; exact hr3) (fun _ _ _ h => by cases h) (fun r0 h => by injection h with h; subst h; exact ⟨_, rfl, rfl, rfl, rfl, rfl, rfl, rfl⟩) (hO.heap.own _ ho) (hO.heap.ownK _ ho)
      refine ⟨r3.pending, c3.put (c3.bk st.n) (.loop { r3 with state := .exhausted }), by rw [hbk3]; exact run_endLoop hr3 hnb, ?_, hx3.trans hx4 (Nat.le_trans (Nat.le_succ _) hn3), ?_⟩
      · cases s with
        | ready => exact hL3.2
        | busy => exact absurd rfl hb
        | done x => exact hL3.2
      · have hxf : Ext c st.n (c3.put (c3.bk st.n) (.loop { r3 with state := .exhausted })) := hx3.trans hx4 (Nat.le_trans (Nat.le_succ _) hn3)
        rw [h2]
        refine ⟨hxf.G.trans hr.g, hr.s.mono hxf (Nat.le_trans (Nat.le_succ _) hn3), relH_put_dead hO.heap ho hx4, hr.size, ?_⟩
        exact hr.defers.push hxf (hx4.defs _ (hO.ext.defs _ (hx2.defs _ ⟨hdb, fun hI => by
          rw [← hc1] at hI
          have := hr.h.low _ hI
          omega⟩)))
    rcases hend with ⟨hs, hx⟩ | hs
    · obtain ⟨j, c4, e1, rfl, e3, e4⟩ := fin .ready hs (fun h => by cases h) (fun _ _ => .inr trivial)
      refine ⟨none, c4.w, e1, ?_⟩
      have := hQ _ c4 e3 (by rw [h2]; exact Nat.le_trans (Nat.le_succ _) hn3) e4
      rw [hx] at this
      exact this
    · obtain ⟨j, c4, e1, rfl, e3, e4⟩ := fin (.done r.1) hs (fun h => by cases h) (fun _ _ => .inr trivial)
      have := hQ _ c4 e3 (by rw [h2]; exact Nat.le_trans (Nat.le_succ _) hn3) e4
      refine ⟨xCode r.1, c4.w, e1, ?_⟩
      cases hx : r.1 with
      | n => rw [hx] at this; exact this
      | ret => rw [hx] at this; exact wpIn_ret this
      | exit k => rw [hx] at this; exact wpIn_exit this
theorem ev_wp {h : Hs} (hok : CallsOK P h) (hl : LoopsOK P h) {nt : Nat} : ∀ (code : Code) (st : St) (r : X × St), okCode nt code = true → ev P h code st = some r → CodeOK P h.G nt code st r
  | .skip, st, r, hk, he => by
    simp only [ev, Option.some.injEq] at he
    subst he
    intro ro hro lo c a Q hr hQ
    exact wpIn_skip (hQ a c (.refl c _) (Nat.le_refl _) hr)
  | .region id ops false, st, r, hk, he => by
    simp only [ev, norm] at he
    split at he
    · rename_i st' h1
      injection he with he
      subst he
      intro ro hro lo c a Q hr hQ
      refine wpIn_region_list (evOps_wp hok ?_ ops.toList st st' a c (fun o ho => ho) h1 hr hQ)
      intro o ho d hd
      simp only [okCode, List.all_eq_true] at hk
      have := hk o ho
      rw [hd] at this
      exact Nat.le_of_ble_eq_true this
    · cases he
  | .region id ops true, st, r, hk, he => by
    simp only [ev] at he
    obtain ⟨hm, he⟩ := cond_some he
    unfold norm at he
    split at he
    · rename_i st' h1
      injection he with he
      subst he
      intro ro hro lo c a Q hr hQ
      refine evDraw_wp hok hm ?_ h1 hr hQ
      intro o ho d hd
      simp only [okCode, List.all_eq_true] at hk
      have := hk o ho
      rw [hd] at this
      exact Nat.le_of_ble_eq_true this
    · cases he
  | .seq x y, st, r, hk, he => by
    simp only [okCode, Bool.and_eq_true] at hk
    simp only [ev] at he
    intro ro hro lo c a Q hr hQ
    split at he
    · rename_i st1 h1
      refine wpIn_seq (ev_wp hok hl x st _ hk.1 h1 ro hro.seq.1 lo c a _ hr fun a1 c1 hx1 hn1 hr1 => ?_)
      exact ev_wp hok hl y st1 r hk.2 he ro hro.seq.2 lo c1 a1 Q hr1 fun a2 c2 hx2 hn2 hr2 => hQ a2 c2 (hx1.trans hx2 hn1) (Nat.le_trans hn1 hn2) hr2
    · rename_i hne
      refine wpIn_seq (ev_wp hok hl x st r hk.1 he ro hro.seq.1 lo c a _ hr fun a1 c1 hx1 hn1 hr1 => ?_)
      have := hQ a1 c1 hx1 hn1 hr1
      obtain ⟨x', st'⟩ := r
      cases x' with
      | n => exact absurd he (hne st')
      | ret => exact this
      | exit id => exact this
  | .cond co x y, st, r, hk, he => by
    simp only [okCode, Bool.and_eq_true] at hk
    simp only [ev] at he
    intro ro hro lo c a Q hr hQ
    split at he
    · rename_i t ht
      have hv := opV_rel hr.s co
      rw [hr.g, ht] at hv
      have hc : a.eval co = .bool t := by
        generalize a.eval co = v at hv
        cases hv.inv_d
        rfl
      refine wpIn_cond hc ?_
      cases t with
      | true => exact ev_wp hok hl x st r hk.1 he ro hro.cond.1 lo c a Q hr hQ
      | false => exact ev_wp hok hl y st r hk.2 he ro hro.cond.2 lo c a Q hr hQ
    · cases he
  | .block id x, st, r, hk, he => by
    simp only [okCode] at hk
    simp only [ev] at he
    intro ro hro lo c a Q hr hQ
    refine wpIn_block ?_
    unfold leave at he
    split at he
    · rename_i j st1 h1
      refine ev_wp hok hl x st _ hk h1 ro hro.block lo c a _ hr fun a1 c1 hx1 hn1 hr1 => ?_
      by_cases hj : j = id
      · subst hj
        simp only [beq_self_eq_true, cond_true, Option.some.injEq] at he
        subst he
        simp only [exitOf, Exit.inBlock, if_true]
        exact hQ a1 c1 hx1 hn1 hr1
      · rw [show (j == id) = false from by simpa using hj] at he
        simp only [cond_false, Option.some.injEq] at he
        subst he
        simp only [exitOf, Exit.inBlock, if_neg hj]
        exact hQ a1 c1 hx1 hn1 hr1
    · rename_i hne
      refine ev_wp hok hl x st r hk he ro hro.block lo c a _ hr fun a1 c1 hx1 hn1 hr1 => ?_
      have := hQ a1 c1 hx1 hn1 hr1
      obtain ⟨x', st'⟩ := r
      cases x' with
      | n => exact this
      | ret => exact this
      | exit j => exact absurd he (hne j st')
  | .loop x, st, r, hk, he => by
    simp only [okCode] at hk
    simp only [ev] at he
    exact hl nt x st r hk he
  | .exit id, st, r, hk, he => by
    simp only [ev, Option.some.injEq] at he
    subst he
    intro ro hro lo c a Q hr hQ
    exact wpIn_exit (hQ a c (.refl c _) (Nat.le_refl _) hr)
  | .ret, st, r, hk, he => by
    simp only [ev, Option.some.injEq] at he
    subst he
    intro ro hro lo c a Q hr hQ
    exact wpIn_ret (hQ a c (.refl c _) (Nat.le_refl _) hr)
  | .rangeFunc g ps assign body, st, r, hk, he => by
    simp only [ev] at he
    exact range_wp hok hk (cond_some he).2
  | .scope _, st, r, hk, he => by simp [ev] at he
  | .label _, st, r, hk, he => by simp [ev] at he
  | .goto _, st, r, hk, he => by simp [ev] at he
  | .refuse _, st, r, hk, he => by simp [ev] at he
end Go.Fw
end
section
set_option linter.unusedVariables false
set_option linter.unusedSimpArgs false
namespace Go.Fw
variable {P : Program}

def resF (tmps : Array Value) : ResultVar → Sem Value
  | .tmp t => pure (tmps.getD t undef)
  | .cell a t => do loadVar t (← asAddr (tmps.getD a undef))

theorem resV_sound {G : Nat → Option (List D)} {lo nt : Nat} {c : Cf} {st : St} {a : Act} (hr : SR G lo nt c st a) {rv : ResultVar} {v : V} (h : resV P st rv = some v) :
    ∃ u, (resF a.tmps rv).run P c.w = .ok u c.w ∧ RelV c st.n v u := by
  cases rv with
  | tmp t =>
    simp only [resV, Option.some.injEq] at h
    subst h
    exact ⟨_, rfl, hr.s.get t⟩
  | cell p t =>
    simp only [resV] at h
    obtain ⟨u, h1, h2⟩ := loadV_sound hr.h h (hr.s.get p)
    refine ⟨u, ?_, h2⟩
    have hp : ∃ ad, a.tmps.getD p undef = .pointer (some ad) := by
      have hrel := hr.s.get p
      unfold loadV at h
      split at h
      · rename_i hg; rw [hg] at hrel; generalize a.tmps.getD p undef = q at hrel; cases hrel; exact ⟨_, rfl⟩
      · rename_i hg; rw [hg] at hrel; generalize a.tmps.getD p undef = q at hrel; cases hrel; exact ⟨_, rfl⟩
      · rename_i hg; rw [hg] at hrel; generalize a.tmps.getD p undef = q at hrel; cases hrel; exact ⟨_, rfl⟩
      · cases h
    obtain ⟨ad, hp⟩ := hp
    simp only [resF, hp, asAddr, Sem.run_bind, Sem.run_pure, Result.andThen_ok]
    simpa [Instr.loadAt, Instr.sureAddr, hp] using h1

theorem ress_sound {G : Nat → Option (List D)} {lo nt : Nat} {c : Cf} {st : St} {a : Act} (hr : SR G lo nt c st a) : ∀ (rs : List ResultVar) (vs : List V), ress P st rs = some vs →
    ∃ us, (rs.mapM (resF a.tmps)).run P c.w = .ok us c.w ∧ RelL c st.n vs us
  | [], vs, h => by
    simp only [ress, Option.some.injEq] at h
    subst h
    exact ⟨[], by simp, rfl, by simp⟩
  | rv :: rs, vs, h => by
    simp only [ress] at h
    split at h
    · rename_i v vs' h1 h2
      injection h with h
      subst h
      obtain ⟨u, hu, hru⟩ := resV_sound hr h1
      obtain ⟨us, hus, hl, hrel⟩ := ress_sound hr rs vs' h2
      refine ⟨u :: us, by simp only [List.mapM_cons, Sem.run_bind, hu, hus, Result.andThen_ok, Sem.run_pure], by simp [hl], fun j x hj => ?_⟩
      cases j with
      | zero => simp only [List.getElem?_cons_zero, Option.some.injEq] at hj; subst hj; exact ⟨u, rfl, hru⟩
      | succ j => simpa using hrel j x (by simpa using hj)
    · cases h

theorem results_sound {G : Nat → Option (List D)} {lo nt : Nat} {c : Cf} {st : St} {a : Act} (hr : SR G lo nt c st a) {fn : Func} {vs : List V} (h : ress P st fn.results.toList = some vs) :
    ∃ u, (results fn a.tmps).run P c.w = .ok u c.w ∧ RelV c st.n (oneV vs) u := by
  obtain ⟨us, h1, hl, hrel⟩ := ress_sound hr _ _ h
  have hmap : (fn.results.mapM (resF a.tmps)).run P c.w = .ok us.toArray c.w := by
    rw [Array.mapM_eq_mapM_toList]
    simp only [Sem.run_map, h1, Result.andThen_ok]
  have hres : (results fn a.tmps).run P c.w = .ok (if h : us.toArray.size = 1 then us.toArray[0] else .tuple us.toArray) c.w := by
    have : (results fn a.tmps) = (do let vs ← fn.results.mapM (resF a.tmps); pure (if h : vs.size = 1 then vs[0] else .tuple vs)) := by
      unfold results
      congr 2
    rw [this, Sem.run_bind, hmap]
    rfl
  refine ⟨_, hres, ?_⟩
  by_cases h1 : us.length = 1
  · rw [dif_pos (by simpa using h1)]
    have h2 : vs.length = 1 := by omega
    obtain ⟨v, rfl⟩ := List.length_eq_one_iff.1 h2
    obtain ⟨u, rfl⟩ := List.length_eq_one_iff.1 h1
    obtain ⟨u', hu, hru⟩ := hrel 0 v rfl
    simp only [List.getElem?_cons_zero, Option.some.injEq] at hu
    subst hu
    exact hru
  · rw [dif_neg (by simpa using h1)]
    have : oneV vs = mkTp vs := by
      unfold oneV
      split
      · rename_i v; exact absurd (by simpa using hl) h1
      · rfl
    rw [this]
    refine mkTp_rel _ _ (by simpa using hl) fun j x hj => ?_
    obtain ⟨u, hu, hru⟩ := hrel j x hj
    rw [Array.getD_eq_getD_getElem?, List.getElem?_toArray, hu]
    exact hru

theorem zipArgs_get : ∀ (vs : List V) (k i : Nat), get (zipArgs k vs) i = if k ≤ i then (vs[i - k]?).getD .junk else .junk
  | [], k, i => by simp [zipArgs, get]
  | v :: vs, k, i => by
    simp only [zipArgs, get_cons, zipArgs_get vs]
    by_cases h : k = i
    · subst h; simp
    · rw [if_neg h]
      by_cases h2 : k + 1 ≤ i
      · rw [if_pos h2, if_pos (by omega), show i - k = (i - (k + 1)) + 1 from by omega]
        simp
      · rw [if_neg h2, if_neg (by omega)]

theorem fnOf_spec {g : FuncId} {d : Fd} (h : fnOf P g = some d) : ∃ fn, P.funcs[g]? = some fn ∧ fn.body = some d.code ∧ (fn.name == "runtime.NumGoroutine") = false ∧ okCode d.nt d.code = true ∧ fn.ntmps = d.nt ∧ fn.results.toList = d.res := by
  unfold fnOf at h
  split at h
  · rename_i fn hfn
    split at h
    · rename_i c hc
      obtain ⟨hb, h⟩ := cond_some h
      injection h with h
      subst h
      rw [Bool.and_eq_true] at hb
      refine ⟨fn, hfn, hc, ?_, hb.2, rfl, rfl⟩
      have := hb.1
      simpa [bne] using this
    · cases h
  · cases h

def Shut (lo : Nat) (c : Cf) (H : Array Obj) : Prop := H.size = c.w.heap.size ∧ ∀ b : Nat, H[b]? = c.w.heap[b]? ∨ (lo ≤ b ∧ DefAt c b)
def Cf.on (c : Cf) (H : Array Obj) : Cf := { c with w := { c.w with heap := H } }
theorem own_obj {c : Cf} {n : Nat} {hp : Heap} (h : RelH c n hp) {id : Nat} (ho : (lk hp id).own = true) : ¬ DefAt c (c.bk id) := by
  intro hd
  have hd := hd.1
  cases hl : lk hp id with
  | box cs => obtain ⟨vs, e, h1, _⟩ := h.box id cs hl; rw [h1] at hd; cases hd
  | arr wd xs => obtain ⟨_, vs, e, fz, h1, _⟩ := h.arr id wd xs hl; rw [h1] at hd; cases hd
  | ot o =>
    have := h.ot id o hl
    cases o with
    | mp K V l => obtain ⟨es, clock, h1, _⟩ := this; rw [h1] at hd; cases hd
    | fm k l => obtain ⟨es, clock, h1, _⟩ := this; rw [h1] at hd; cases hd
    | it s pos => have h1 : c.w.heap[c.bk id]? = some (.stringIter s pos) := this; rw [h1] at hd; cases hd
    | lp st => obtain ⟨r, h1, _⟩ := this; rw [h1] at hd; cases hd
  | fz wd xs => rw [hl] at ho; cases ho
  | dead => rw [hl] at ho; cases ho
theorem Shut.same {lo : Nat} {c : Cf} {H : Array Obj} (h : Shut lo c H) {b : Nat} (hb : ¬ DefAt c b) : H[b]? = c.w.heap[b]? := (h.2 b).resolve_right fun k => hb k.2
theorem Shut.extM {lo : Nat} {c : Cf} {H : Array Obj} (h : Shut lo c H) (n : Nat) : ExtM c n (c.on H) where
  size := Nat.le_of_eq h.1.symm
  kept := fun b hb => ⟨hb, h.same fun k => k.2 hb⟩
  loops := fun b r hr => ⟨r, (h.same fun k => by rw [k.1] at hr; cases hr).trans hr, rfl, rfl, rfl, rfl, rfl, rfl⟩
  shape := fun b cs e fz hc => ⟨cs, (h.same fun k => by rw [k.1] at hc; cases hc).trans hc, rfl⟩
  bk := fun _ _ => rfl
  ln := fun _ _ => rfl
  K := rfl
  G := rfl
theorem Shut.relH {lo : Nat} {c : Cf} {H : Array Obj} (h : Shut lo c H) {n : Nat} {hp : Heap} (hH : RelH c n hp) : RelH (c.on H) n hp :=
  hH.monoM (h.extM n) (Nat.le_refl n) (fun id ho => h.same (own_obj hH ho)) (fun id ho => hH.own id ho) (fun b hb => by have := hH.low b hb; show b < H.size; rw [h.1]; exact this) hH.disj
theorem Shut.ext {c0 c : Cf} {n : Nat} {H : Array Obj} (h : Shut c0.w.heap.size c H) (hx : Ext c0 n c) (hK : ∀ b, c0.K b → b < c0.w.heap.size) : Ext c0 n (c.on H) := by
  have old : ∀ b, b < c0.w.heap.size → H[b]? = c.w.heap[b]? := fun b hb => (h.2 b).resolve_right fun k => by omega
  have lt : ∀ {b : Nat} {o : Obj}, c0.w.heap[b]? = some o → b < c0.w.heap.size := fun h => (Array.getElem?_eq_some_iff.1 h).1
  refine ⟨by show _ ≤ H.size; rw [h.1]; exact hx.size, fun b hb => ⟨(hx.kept b hb).1, (h.same fun k => k.2 (hx.kept b hb).1).trans (hx.kept b hb).2⟩, fun b cs e fz hc => ?_, fun b r hr => ?_, hx.bk, hx.ln, hx.K, hx.G, fun b hb => (old b (hK b hb)).trans (hx.keptK b hb), hx.os, hx.tape, hx.output, fun b hb => ?_⟩
  · obtain ⟨cs', h1, h2⟩ := hx.shape b cs e fz hc
    exact ⟨cs', (old b (lt hc)).trans h1, h2⟩
  · obtain ⟨r', h1, h2⟩ := hx.loops b r hr
    exact ⟨r', (old b (lt hr)).trans h1, h2⟩
  · have := hx.defs b hb
    exact ⟨(old b (lt hb.1)).trans this.1, this.2⟩
theorem leaves_marks {lo : Nat} {c : Cf} {fn : Func} {tmps : Array Value} {R : Ending → World → Prop} (fin : ∀ H, Shut lo c H → ∃ v, (results fn tmps).run P (c.on H).w = .ok v (c.on H).w ∧ R (.returned v) (c.on H).w) :
    ∀ (bs : List Nat) (H : Array Obj), bs.Nodup → (∀ b ∈ bs, lo ≤ b ∧ DefAt c b ∧ H[b]? = some (.deferred (some []))) → Shut lo c H → LeavesInM .wide 3 P fn tmps R (bs.map markOf) .returning (c.on H).w
  | [], H, _, _, hs => fin H hs
  | b :: bs, H, hn, hb, hs => by
    obtain ⟨h1, h2, h3⟩ := hb b (List.mem_cons_self ..)
    obtain ⟨n1, n2⟩ := List.nodup_cons.1 hn
    have hlt : b < H.size := (Array.getElem?_eq_some_iff.1 h3).1
    refine ⟨(fun h => by cases h), .inl ⟨b, (c.on (H.setIfInBounds b (.deferred none))).w, rfl, run_takeDeferred (w := (c.on H).w) h3, ?_⟩⟩
    refine leaves_marks fin bs _ n2 (fun b' hb' => ?_) ⟨by rw [Array.size_setIfInBounds]; exact hs.1, fun b' => ?_⟩
    · obtain ⟨k1, k2, k3⟩ := hb b' (List.mem_cons_of_mem _ hb')
      refine ⟨k1, k2, ?_⟩
      rw [Array.getElem?_setIfInBounds_ne (by rintro rfl; exact n1 hb')]
      exact k3
    · by_cases e : b = b'
      · subst e; exact .inr ⟨h1, h2⟩
      · rw [Array.getElem?_setIfInBounds_ne e]; exact hs.2 b'
theorem marks_leave {G : Nat → Option (List D)} {nt n : Nat} {c0 c : Cf} {st : St} {a : Act} {fn : Func} {R : Ending → World → Prop} (hr : SR G c0.w.heap.size nt c st a) (hx : Ext c0 n c) (hK : ∀ b, c0.K b → b < c0.w.heap.size)
    (fin : ∀ c1, Ext c0 n c1 → SR G c0.w.heap.size nt c1 st { a with defers := [] } → ∃ v, (results fn a.tmps).run P c1.w = .ok v c1.w ∧ R (.returned v) c1.w) : LeavesInM .wide 3 P fn a.tmps R a.defers .returning c.w := by
  obtain ⟨h0, bs, h1, h2, h3⟩ := hr.defers
  rw [h1]
  refine leaves_marks (c := c) (lo := c0.w.heap.size) (fun H hs => ?_) bs c.w.heap h2 (fun b hb => ⟨(h3 b hb).1, (h3 b hb).2, (h3 b hb).2.1⟩) ⟨rfl, fun b => .inl rfl⟩
  refine fin (c.on H) (hs.ext hx hK) ⟨hr.g, hr.s.monoM (hs.extM st.n) (Nat.le_refl _), hs.relH hr.h, hr.size, .nil ?_⟩
  show _ ≤ H.size
  rw [hs.1]; exact h0
theorem callBody_sound' {h : Hs} (hok : CallsOK P h) (hl : LoopsOK P h) {g : FuncId} {xs : List V} {n : Nat} {hp : Heap} {r : V × Nat × Heap} {d : Fd} (hd : fnOf P g = some d) (hle : Nat.ble xs.length d.nt = true) (he : fin P d (ev P h d.code ⟨zipArgs 0 xs, n, hp⟩) = some r) : Enters P g ∧ MCall P h.G g xs n hp r := by
  · obtain ⟨fn, h1, h2, h3, h4, h5, h6⟩ := fnOf_spec hd
    have hle := Nat.le_of_ble_eq_true hle
    refine ⟨⟨fn, h1, h3, by rw [h2]; rfl⟩, ?_⟩
    intro c vs hG hg hH hL
    have hsz : vs.size = xs.length := by have := hL.1; simpa using this
    have hr0 : SR h.G c.w.heap.size d.nt c ⟨zipArgs 0 xs, n, hp⟩ { tmps := vs ++ Array.replicate (fn.ntmps - vs.size) undef, defers := [] } := by
      refine ⟨hG, ⟨hg, fun i => ?_⟩, hH, by simp; omega, .nil (Nat.le_refl _)⟩
      rw [zipArgs_get, if_pos (Nat.zero_le _)]
      simp only [Nat.sub_zero]
      by_cases hi : i < xs.length
      · obtain ⟨u, hu, hru⟩ := hL.2 i _ (List.getElem?_eq_getElem hi)
        rw [List.getElem?_eq_getElem hi]
        rw [Array.getElem?_toList] at hu
        rw [Array.getD_eq_getD_getElem?, Array.getElem?_append, if_pos (by omega), hu]
        exact hru
      · rw [List.getElem?_eq_none (by omega)]
        exact .junk _
    refine (callsIn_wide (n := 3)).1 (callsIn_of_wp_marks (F := .wide) h1 h2 trivial ?_ rfl)
    have finish : ∀ (st : St) (a' : Act) (c' : Cf) (vs' : List V), Ext c n c' → n ≤ st.n → SR h.G c.w.heap.size d.nt c' st a' → ress P st d.res = some vs' → r = (oneV vs', st.n, st.h) →
        LeavesInM .wide 3 P fn a'.tmps (fun e w' => ∃ v' c'', e = .returned v' ∧ w' = c''.w ∧ Outs c n r v' c'') a'.defers .returning c'.w := by
      rintro st a' c' vs' hx hn hr hres rfl
      rw [← h6] at hres
      refine marks_leave hr hx hH.lowK fun c1 hx1 hr1 => ?_
      obtain ⟨u, hu, hru⟩ := results_sound (P := P) hr1 hres
      exact ⟨u, hu, u, c1, rfl, rfl, hx1, hn, hr1.h, hru⟩
    unfold fin at he
    split at he
    · rename_i st hev
      split at he
      · rename_i vs' hres
        injection he with he
        exact ev_wp hok hl d.code _ _ h4 hev none (.inl rfl) _ c _ _ hr0 fun a' c' hx hn hr => finish st a' c' vs' hx hn hr hres he.symm
      · cases he
    · rename_i st hev
      split at he
      · rename_i vs' hres
        injection he with he
        exact ev_wp hok hl d.code _ _ h4 hev none (.inl rfl) _ c _ _ hr0 fun a' c' hx hn hr => finish st a' c' vs' hx hn hr hres he.symm
      · cases he
    · cases he
theorem callBody_sound {h : Hs} (hok : CallsOK P h) (hl : LoopsOK P h) {g : FuncId} {xs : List V} {n : Nat} {hp : Heap} {r : V × Nat × Heap} (he : callBody P h g xs n hp = some r) : Enters P g ∧ MCall P h.G g xs n hp r := by
  unfold callBody at he
  split at he
  · rename_i d hd
    obtain ⟨hle, he⟩ := cond_some he
    obtain ⟨r0, h1, rfl⟩ := Option.map_eq_some_iff.1 he
    obtain ⟨h2, h3⟩ := callBody_sound' hok hl hd hle h1
    exact ⟨h2, h3.cut⟩
  · cases he

theorem relH_empty {c : Cf} (hI : ∀ b, c.I b → b < c.w.heap.size) (hK : ∀ b, c.K b → b < c.w.heap.size) (hd : ∀ b, c.I b → ¬ c.K b) : RelH c 0 [] where
  ot := fun id o h => by cases h
  lt := fun id h => absurd rfl h
  box := fun id cs h => by cases h
  arr := fun id a b h => by cases h
  fz := fun id a b h => by cases h
  own := fun id h => by cases h
  inj := fun i j h => by cases h
  low := hI
  ownK := fun id h => by cases h
  disj := hd
  lowK := hK

theorem pcallBody_sound {h : Hs} (hok : CallsOK P h) (hl : LoopsOK P h) {g : FuncId} {ds : List D} {r : D} (he : pcallBody P h g ds = some r) : Enters P g ∧ PCall P h.G g ds r := by
  unfold pcallBody expO at he
  split at he
  · rename_i v n hp hb
    obtain ⟨hent, hm⟩ := callBody_sound hok hl hb
    refine ⟨hent, ?_⟩
    intro w I K vs hg hI hK hd hsz hargs
    have hH : RelH ⟨w, I, K, fun _ => 0, fun _ => 0, h.G⟩ 0 [] := relH_empty hI hK hd
    refine (hm ⟨w, I, K, fun _ => 0, fun _ => 0, h.G⟩ vs rfl hg hH ⟨by simpa using hsz, fun j x hj => ?_⟩).mono ?_
    · simp only [List.getElem?_map] at hj
      obtain ⟨d, hd', rfl⟩ := Option.map_eq_some_iff.1 hj
      have hlt := (List.getElem?_eq_some_iff.1 hd').1
      refine ⟨vs.getD j undef, ?_, .d _ _ (hargs j d hd')⟩
      rw [Array.getElem?_toList, Array.getD_eq_getD_getElem?, Array.getElem?_eq_getElem (by omega)]; rfl
    · rintro e w' ⟨u, c', rfl, rfl, hO⟩
      obtain ⟨c2, hp2, hF, hX⟩ := expD_sound he hO.heap hO.rel
      have hx := hO.ext.trans hF.ext hO.le
      have hw : c2.w = c'.w := hF.w
      refine ⟨u, c2.I, rfl, hO.ext.size, ?_, ?_, fun b hb => ⟨?_, ?_⟩, ?_, hO.ext.os, hO.ext.tape, hO.ext.output, ?_⟩
      · have := hx.kept; rw [hw] at this; exact this
      · exact hO.ext.keptK
      · have := hF.heap.low b hb; rw [hw] at this; exact this
      · have := hF.heap.disj b hb
        rw [hx.K] at this
        exact this
      · exact hO.ext.shape
      · have hKK : c2.K = K := hx.K
        rw [hw, hKK] at hX
        exact hX
  · cases he

theorem hsN_G (G : Nat → Option (List D)) (E : FuncId → Option (List D → Option D)) (J : FuncId → Option TypeId) (T : FuncId → List D → Option D) (k : Nat) : (hsN P G E J T k).G = G := by cases k <;> rfl
def Rounds (P : Program) (h : Hs) (k : Nat) : Prop := ∀ nt body st r, okCode nt body = true → h.loop body st = some r →
  ∀ (ro : Option Nat), OkR ro body → ∀ (lo : Nat) (c : Cf) (a : Act) (Q : Exit → Act → World → Prop), SR h.G lo nt c st a → (∀ a' c', Ext c st.n c' → st.n ≤ r.2.n → SR h.G lo nt c' r.2 a' → Q (exitOf r.1) a' c'.w) → Code.roundsIn (Fe ro) 3 P body Q k a c.w

theorem Rounds.loops {h : Hs} {k : Nat} (hr : Rounds P h k) : LoopsOK P h := fun nt body st r hk he ro hro lo c a Q hs hQ => wpIn_loop_rounds k (hr nt body st r hk he ro hro.loop lo c a Q hs hQ)

theorem fzN_is {n : Nat} {K : Nat → Res} : fzN n K = K n := by cases n <;> rfl
theorem fzI_is {n : Int} {K : Int → Res} : fzI n K = K n := by cases n <;> simp only [fzI, fzN_is]
theorem fzD_is {x : D} {K : D → Res} : fzD x K = K x := by
  unfold fzD
  split
  · split <;> rfl
  · exact fzI_is
  · rfl
  · rfl
  · rfl
theorem fzV_is {x : V} {K : V → Res} : fzV x K = K x := by
  unfold fzV
  split
  · exact fzD_is
  · rfl
theorem fzVs_is : ∀ {x : List V} {K : List V → Res}, fzVs x K = K x
  | [], K => rfl
  | v :: vs, K => by simp only [fzVs]; rw [fzV_is, fzVs_is]
theorem fzDs_is : ∀ {x : List D} {K : List D → Res}, fzDs x K = K x
  | [], K => rfl
  | v :: vs, K => by simp only [fzDs]; rw [fzD_is, fzDs_is]
theorem fzB_is {x : Blk} {K : Blk → Res} : fzB x K = K x := by
  unfold fzB
  split
  · exact fzVs_is
  · exact fzDs_is
  · rfl
theorem trimF_is : ∀ {s : List Nat} {f : Slots} {K : Slots → Res}, ∃ f', trimF s f K = K f' ∧ ∀ t, hasN s t = false → get f' t = get f t
  | s, [], K => ⟨[], rfl, fun t _ => rfl⟩
  | s, (j, v) :: r, K => by
    simp only [trimF]
    cases hj : hasN s j
    · obtain ⟨f', h1, h2⟩ := trimF_is (s := j :: s) (f := r) (K := fun r => K ((j, v) :: r))
      refine ⟨(j, v) :: f', by rw [cond_false, fzV_is, h1], fun t ht => ?_⟩
      simp only [get]
      cases hb : (j == t)
      · exact h2 t (by simp only [hasN, hb, ht, Bool.or_false])
      · rfl
    · obtain ⟨f', h1, h2⟩ := trimF_is (s := s) (f := r) (K := K)
      refine ⟨f', by rw [cond_true, h1], fun t ht => ?_⟩
      rw [h2 t ht]
      simp only [get]
      cases hb : (j == t)
      · rfl
      · rw [eq_of_beq hb] at hj; rw [hj] at ht; cases ht
theorem trimH_is : ∀ {s : List Nat} {f : Heap} {K : Heap → Res}, ∃ f', trimH s f K = K f' ∧ ∀ t, hasN s t = false → lk f' t = lk f t
  | s, [], K => ⟨[], rfl, fun t _ => rfl⟩
  | s, (j, v) :: r, K => by
    simp only [trimH]
    cases hj : hasN s j
    · obtain ⟨f', h1, h2⟩ := trimH_is (s := j :: s) (f := r) (K := fun r => K ((j, v) :: r))
      refine ⟨(j, v) :: f', by rw [cond_false, fzB_is, h1], fun t ht => ?_⟩
      simp only [lk]
      cases hb : (j == t)
      · exact h2 t (by simp only [hasN, hb, ht, Bool.or_false])
      · rfl
    · obtain ⟨f', h1, h2⟩ := trimH_is (s := s) (f := r) (K := K)
      refine ⟨f', by rw [cond_true, h1], fun t ht => ?_⟩
      rw [h2 t ht]
      simp only [lk]
      cases hb : (j == t)
      · rfl
      · rw [eq_of_beq hb] at hj; rw [hj] at ht; cases ht
theorem trim_is {f : Slots} {hp : Heap} {K : Slots → Heap → Res} : ∃ f' hp', (trimF [] f fun f => trimH [] hp fun hp => K f hp) = K f' hp' ∧ (∀ t, get f' t = get f t) ∧ ∀ t, lk hp' t = lk hp t := by
  obtain ⟨f', h1, h2⟩ := trimF_is (s := []) (f := f) (K := fun f => trimH [] hp fun hp => K f hp)
  obtain ⟨hp', h3, h4⟩ := trimH_is (s := []) (f := hp) (K := fun hp => K f' hp)
  exact ⟨f', hp', by rw [h1, h3], fun t => h2 t rfl, fun t => h4 t rfl⟩
theorem SR.like {G : Nat → Option (List D)} {lo nt : Nat} {c : Cf} {st : St} {a : Act} {f : Slots} {hp : Heap} (h : SR G lo nt c st a) (hf : ∀ t, get f t = get st.f t) (hh : ∀ t, lk hp t = lk st.h t) : SR G lo nt c ⟨f, st.n, hp⟩ a := by
  obtain ⟨h1, h2, h3, h4, h5⟩ := h
  refine ⟨h1, ⟨h2.glob, fun t => by rw [hf]; exact h2.get t⟩, ?_, h4, h5⟩
  constructor
  · intro id o; rw [hh]; exact h3.ot id o
  · intro id; rw [hh]; exact h3.lt id
  · intro id cs; rw [hh]; exact h3.box id cs
  · intro id wd xs; rw [hh]; exact h3.arr id wd xs
  · intro id wd xs; rw [hh]; exact h3.fz id wd xs
  · intro id; rw [hh]; exact h3.own id
  · intro id id'; rw [hh, hh]; exact h3.inj id id'
  · exact h3.low
  · intro id; rw [hh]; exact h3.ownK id
  · exact h3.disj
  · exact h3.lowK

theorem hsN_good {G : Nat → Option (List D)} {E : FuncId → Option (List D → Option D)} {J : FuncId → Option TypeId} {T : FuncId → List D → Option D} (hE : ∀ g f, E g = some f → ExtOK P g f) (hJ : InsAll P J) (hT : ∀ g ds r, T g ds = some r → Enters P g ∧ PCall P G g ds r) : ∀ k, CallsOK P (hsN P G E J T k) ∧ Rounds P (hsN P G E J T k) k
  | 0 => ⟨⟨fun g f h => hE g f h, (fun g ds r h => hT g ds r h), (fun g xs n hp r h => by cases h), (fun nt code st r _ h => by cases h)⟩, (fun nt body st r hk h => by cases h)⟩
  | k + 1 => by
    obtain ⟨hc, hr⟩ := hsN_good hE hJ hT k
    have hl := hr.loops
    have hG : (hsN P G E J T (k + 1)).G = (hsN P G E J T k).G := by rw [hsN_G, hsN_G]
    refine ⟨⟨fun g f h => hE g f h, fun g ds r h => ?_, fun g xs n hp r h => ?_, fun nt code st r hk h => ?_⟩, ?_⟩
    · rw [hG]
      have h' : orT T (pcallBody P (hsN P G E J T k)) g ds = some r := h
      unfold orT at h'
      split at h'
      · rename_i q hq
        injection h' with h'
        subst h'
        rw [hsN_G]
        exact hT g ds _ hq
      · exact pcallBody_sound hc hl h'
    · rw [hG]
      have h' : callJ P J (callBody P (hsN P G E J T k)) g xs n hp = some r := h
      unfold callJ at h'
      split at h'
      · rename_i e he
        obtain ⟨hj1, hj2⟩ : (e < 1000000 → InsC P g e ∧ P.cellsOf e ≠ 1) ∧ (¬ e < 1000000 → DelC P g (e - 1000000) ∧ P.cellsOf (e - 1000000) ≠ 1) := hJ g e he
        cases hlt : Nat.blt e 1000000
        · rw [hlt] at h'
          exact delV_sound (hj2 (fun h => by rw [← Nat.blt_eq, hlt] at h; cases h)) h'
        · rw [hlt] at h'
          exact insV_sound (hj1 (by rw [Nat.blt_eq] at hlt; exact hlt)) h'
      · exact callBody_sound hc hl h'
    · rw [hG]; exact ev_wp hc hl code st r hk h
    · intro nt body st r hk he ro hro lo c a Q hs hQ
      rw [hG] at hs hQ
      rw [roundsIn_succ]
      have he' : loopStep (hsN P G E J T k) body (ev P (hsN P G E J T k) body st) = some r := he
      unfold loopStep at he'
      split at he'
      · rename_i st' h1
        obtain ⟨f', hp', e1, e2, e3⟩ := trim_is (f := st'.f) (hp := st'.h) (K := fun f hp => (hsN P G E J T k).loop body ⟨f, st'.n, hp⟩)
        rw [e1] at he'
        refine ev_wp hc hl body st _ hk h1 ro hro lo c a _ hs fun a1 c1 hx1 hn1 hs1 => ?_
        exact hr nt body ⟨f', st'.n, hp'⟩ r hk he' ro hro lo c1 a1 Q (hs1.like e2 e3) fun a2 c2 hx2 hn2 hs2 => hQ a2 c2 (hx1.trans hx2 hn1) (Nat.le_trans hn1 hn2) hs2
      · rename_i hne
        refine ev_wp hc hl body st r hk he' ro hro lo c a _ hs fun a1 c1 hx1 hn1 hs1 => ?_
        have := hQ a1 c1 hx1 hn1 hs1
        obtain ⟨x', st'⟩ := r
        cases x' with
        | n => exact absurd he' (hne st')
        | ret => exact this
        | exit id => exact this

end Go.Fw
end
section
set_option linter.unusedVariables false
namespace Go.Fw

def isB : D → Bool
  | .b _ => true
  | _ => false
def bOf : D → Bool
  | .b x => x
  | _ => false
def isI (k : IntKind) : D → Bool
  | .i k' _ => decide (k = k')
  | _ => false
def iOf : D → Int
  | .i _ n => n
  | _ => 0
def isS : D → Bool
  | .s _ => true
  | _ => false
def sOf : D → ByteArray
  | .s x => x
  | _ => ByteArray.empty
def isNsl : D → Bool
  | .nsl => true
  | _ => false
def isSlD : D → Bool
  | .sl _ _ => true
  | _ => false
def wOf : D → Nat
  | .sl w _ => w
  | _ => 0
def xsOf : D → Ls
  | .sl _ xs => xs
  | _ => .r []
def isAg (n : Nat) : D → Bool
  | .ag cs => cs.length == n
  | _ => false
def isBytes : List D → Bool
  | [] => true
  | .i .u8 _ :: ds => isBytes ds
  | _ :: _ => false
def bytesOf : List D → List UInt8
  | [] => []
  | d :: ds => UInt8.ofNat (iOf d).toNat :: bytesOf ds

section
variable {α : Type}
def leafK (z x : D) (K : D → Option α) : Option α := match z with
  | .b _ => bif isB x then K (.b (bOf x)) else none
  | .i k _ => bif isI k x then K (.i k (iOf x)) else none
  | .s _ => bif isS x then K (.s (sOf x)) else none
  | .nsl => bif isNsl x then K .nsl else bif isSlD x then K (.sl (wOf x) (xsOf x)) else none
  | _ => K x
def cellsK (cs : List D) : List D → Nat → (List D → Option α) → Option α
  | [], _, K => K []
  | z :: zs, c, K => leafK z (cs.getD c .nsl) fun d => cellsK cs zs (c + 1) fun ds => K (d :: ds)
def someK (r : Option V) (K : V → Option α) : Option α := match r with
  | some v => K v
  | none => none
end

section
variable {α : Type} (P : Program)
def partK (t : TypeId) (cs : List D) (off : Nat) (K : D → Option α) : Option α := match aggT P t, zeroD P t with
  | some true, some (.ag zs) => bif zs.length == sz P t && Nat.ble (off + sz P t) cs.length then cellsK cs zs off fun ds => K (.ag ds) else none
  | some false, some z => bif Nat.blt off cs.length then leafK z (cs.getD off .nsl) K else none
  | _, _ => none
def loadK (t : TypeId) (hp : Heap) (a : V) (K : V → Option α) : Option α := match a with
  | .pt id off => someK (loadV P t hp (.pt id off)) K
  | .ep id w k c => match lk hp id with
    | .arr w' xs => bif w == w' && Nat.blt k xs.len then partK P t (xs.rd k).cells c fun d => K (.d d) else none
    | .fz w' xs => bif w == w' && Nat.blt k xs.len then partK P t (xs.rd k).cells c fun d => K (.d d) else none
    | _ => none
  | .rp cs c => partK P t cs c fun d => K (.d d)
  | _ => none
def storeK (t : TypeId) (hp : Heap) (a v : V) (K : Heap → Option α) : Option α := match a with
  | .ep id w k o => bif okC v && v.cells.length == sz P t && Nat.blt 0 (sz P t) then
      match lk hp id with
      | .arr w' (.t T l) => bif w == w' && Nat.blt k l.length then
          match allD v.cells with
          | some ds => match reD (T.elt (l.getD k T.dflt)) o ds with
            | some x' => K ((id, .arr w' ((Ls.t T l).put k x')) :: hp)
            | none => none
          | none => none
        else none
      | .arr w' (.r xs) => bif w == w' && Nat.blt k xs.length && o == 0 then
          match allD v.cells with
          | some ds => match aggT P t with
            | some true => bif isAg ds.length (xs.getD k .nsl) then K ((id, .arr w' (.r (xs.set k (.ag ds)))) :: hp) else none
            | some false => match ds with
              | [d] => bif (xs.getD k .nsl).leaf && d.leaf then K ((id, .arr w' (.r (xs.set k d))) :: hp) else none
              | _ => none
            | none => none
          | none => none
        else none
      | _ => none
    else none
  | a => match storeV P t hp a v with
    | some hp' => K hp'
    | none => none

def eqFldsB (eq : TypeId → D → D → Option Bool) (xs ys : List D) : List Field → Option Bool
  | [] => some true
  | f :: fs => bif f.name != "_" then
      match partD P f.type xs f.offset, partD P f.type ys f.offset with
      | some x, some y => match eq f.type x y, eqFldsB eq xs ys fs with
        | some t, some u => some (t && u)
        | _, _ => none
      | _, _ => none
    else eqFldsB eq xs ys fs
def eqTB : Nat → TypeId → D → D → Option Bool
  | 0, _, _, _ => none
  | n + 1, t, x, y => match x, y with
    | .ag xs, .ag ys => match P.underlying t with
      | some (.struct fs) => bif P.stoodInHeld t then none else eqFldsB P (eqTB n) xs ys fs.toList
      | _ => none
    | x, y => eqLeaf P t x y
def nilLs {α : Type} (a : Ls) (z : Option α) (K : Ls → Option α) : Option α := match a with
  | .r xs => match xs with
    | [] => z
    | x :: xs => K (.r (x :: xs))
  | .t T l => match l with
    | [] => z
    | x :: l => K (.t T (x :: l))
def binK (op : BinOp) (t : TypeId) (x y : V) (K : V → Option α) : Option α := match x, y with
  | .d (.i k a), .d (.i k' c) => match op with
    | .shl => bif decide (c < 0) then none else K (.d (.i k (k.wrap (a * 2 ^ (min c.toNat k.bits)))))
    | .shr => bif decide (c < 0) then none else K (.d (.i k (a.fdiv (2 ^ (min c.toNat k.bits)))))
    | .quo => bif decide (k = k') then (bif decide (c = 0) then none else K (.d (.i k (k.wrap (a.tdiv c))))) else none
    | .rem => bif decide (k = k') then (bif decide (c = 0) then none else K (.d (.i k (a.tmod c)))) else none
    | _ => someK (binV P op t x y) K
  | .d (.s a), .d (.s c) => match op with
    | .add => bif Nat.ble (a.size + c.size) 9223372036854775807 then K (.d (.s (a ++ c))) else none
    | _ => someK (binV P op t x y) K
  | .d (.ag xs), .d (.ag ys) => bif P.eqGuardType P.depth t then none else match op with
    | .eql => match eqTB P 50 t (.ag xs) (.ag ys) with
      | some r => K (.d (.b r))
      | none => none
    | .neq => match eqTB P 50 t (.ag xs) (.ag ys) with
      | some r => K (.d (.b !r))
      | none => none
    | _ => none
  | .d (.sl w xs), .d .nsl => nilLs xs none fun xs => someK (binV P op t (.d (.sl w xs)) (.d .nsl)) K
  | _, _ => someK (binV P op t x y) K
def asNatK (n : Int) (below : Nat) (K : Nat → Option α) : Option α := bif decide (0 ≤ n) && decide (n < (below : Int)) then K n.toNat else none
def bndK (G : Nat → Option (List D)) (f : Slots) (o : Option Operand) (dflt most : Nat) (K : Nat → Option α) : Option α := match o with
  | none => K dflt
  | some x => match opV G f x with
    | .d (.i _ n) => bif decide (0 ≤ n) && decide (n ≤ (most : Int)) then K n.toNat else none
    | _ => none
def isNF : D → Bool
  | .nF => true
  | _ => false
def fnZ (e : TypeId) : Bool := match zeroD P e with
  | some (.ag zs) => zs.any isNF
  | some z => isNF z
  | none => false
def splitK (n : Int) (K : Nat → Option α) : Nat → Nat → Option α
  | _, 0 => none
  | j, m + 1 => bif n == (j : Int) then K j else splitK n K (j + 1) m
def partsD (e : TypeId) (cs : List D) : Nat → Nat → Option (List D)
  | _, 0 => some []
  | j, m + 1 => match partD P e cs (j * sz P e) with
    | some d => match partsD e cs (j + 1) m with
      | some ds => some (d :: ds)
      | none => none
    | none => none
def typedArr (e : TypeId) (len : Nat) (cs : List D) : Option (Σ T : Ty, List T.den) := bif Nat.ble 17 len && Nat.ble 2 (sz P e) then (match tyOf P 8 e with
  | some T => match partsD P e cs 0 len with
    | some ds => match T.decs ds with
      | some l => some ⟨T, l⟩
      | none => none
    | none => none
  | none => none) else none
def indexK (t : TypeId) (x i : V) (K : V → Option α) : Option α := match i with
  | .d (.i _ n) => match x with
    | .d (.s s) => bif strT P t then asNatK n s.size fun j => K (.d (.i .u8 ((s.data.toList.getD j 0).toNat : Int))) else none
    | .d (.ag cs) => match arrT P t with
      | some (len, e) => match typedArr P e len cs with
        | some ⟨T, l⟩ => asNatK n len fun j => K (.d (T.elt (l.getD j T.dflt)))
        | none => bif fnZ P e || Nat.ble len 256 then splitK n (fun j => partK P e cs (j * sz P e) fun d => K (.d d)) 0 len else asNatK n len fun j => partK P e cs (j * sz P e) fun d => K (.d d)
      | none => none
    | _ => someK (indexV P t x i) K
  | _ => none
def indexAddrK (t : TypeId) (x i : V) (K : V → Option α) : Option α := match i with
  | .d (.i _ n) => match elemT P t with
    | some e => match x with
      | .d (.sl w xs) => bif w == sz P e && Nat.blt 0 w then asNatK n xs.len fun j => K (.rp (xs.rd j).cells 0) else none
      | .fl w xs => bif w == sz P e && Nat.blt 0 w then asNatK n xs.len fun j => K (.rp (xs.rd j).cells 0) else none
      | .ms id w off len => bif w == sz P e && Nat.blt 0 w then asNatK n len fun j => K (.ep id w (off + j) 0) else none
      | _ => none
    | none => match arrT P t with
      | some (len, e) => match x with
        | .pt id o => bif Nat.blt 0 (sz P e) then (bif Nat.ble len 8 then splitK n (fun j => K (.pt id (o + j * sz P e))) 0 len else asNatK n len fun j => K (.pt id (o + j * sz P e))) else none
        | .ep id w k 0 => bif w == sz P e && Nat.blt 0 w then asNatK n len fun j => K (.ep id w (k + j) 0) else none
        | .rp cs o => bif Nat.blt 0 (sz P e) then asNatK n len fun j => K (.rp cs (o + j * sz P e)) else none
        | _ => none
      | none => none
  | _ => none
def sliceK (G : Nat → Option (List D)) (t : TypeId) (f : Slots) (x : V) (lo hi mx : Option Operand) (K : V → Option α) : Option α := match x with
  | .d (.s s) => bif strT P t then (match mx with
    | some _ => none
    | none => bndK G f hi s.size s.size fun h => bndK G f lo 0 h fun l => K (.d (.s (s.extract l h)))) else none
  | .d .nsl => someK (sliceV P G t f (.d .nsl) lo hi mx) K
  | .d (.sl w xs) => bif elemT P t |>.any (fun e => sz P e == w && Nat.blt 0 w) then bndK G f hi xs.len xs.len fun h => bndK G f lo 0 h fun l => (match mx, hi with
        | none, _ => K (.d (.sl w (xs.cut l (h - l))))
        | some y, some _ => bndK G f (some y) xs.len xs.len fun m => bif m == h then K (.fl w (xs.cut l (h - l))) else none
        | _, _ => none) else none
  | .fl w xs => bif elemT P t |>.any (fun e => sz P e == w && Nat.blt 0 w) then (match mx with
    | none => bndK G f hi xs.len xs.len fun h => bndK G f lo 0 h fun l => bif h == xs.len then K (.fl w (xs.cut l (h - l))) else K (.d (.sl w (xs.cut l (h - l))))
    | some _ => none) else none
  | .ms id w off len => bif elemT P t |>.any (fun e => sz P e == w && Nat.blt 0 w) then (match mx with
    | none => bndK G f hi len len fun h => bndK G f lo 0 h fun l => K (.ms id w (off + l) (h - l))
    | some _ => none) else none
  | _ => none

def frzB (hp : Heap) : V → Bool
  | .d _ => true
  | .ag cs => frzsB hp cs
  | .fn _ cs => frzsB hp cs
  | .ms id _ _ _ => match lk hp id with
    | .arr _ _ => true
    | .fz _ _ => true
    | _ => false
  | .mf id _ => match lk hp id with
    | .arr _ _ => true
    | .fz _ _ => true
    | _ => false
  | .fl _ _ => true
  | _ => false
where frzsB (hp : Heap) : List V → Bool
  | [] => true
  | v :: vs => frzB hp v && frzsB hp vs
def frzK {α : Type} (hp : Heap) (v : V) (K : D → Heap → Option α) : Option α := match v with
  | .d x => K x hp
  | .ms id w off len => match lk hp id with
    | .arr w' xs => bif Nat.ble (off + len) xs.len && w == w' then K (.sl w (xs.cut off len)) ((id, .fz w' xs) :: hp) else none
    | .fz w' xs => bif Nat.ble (off + len) xs.len && w == w' then K (.sl w (xs.cut off len)) hp else none
    | _ => none
  | .mf id w => match lk hp id with
    | .arr w' xs => bif w == w' then K (.sl w xs) ((id, .fz w' xs) :: hp) else none
    | .fz w' xs => bif w == w' then K (.sl w xs) hp else none
    | _ => none
  | .fl w xs => K (.sl w xs) hp
  | v => match frz hp v with
    | some (d, hp') => K d hp'
    | none => none
def frzsK {α : Type} : List V → Heap → (List D → Heap → Option α) → Option α
  | [], hp, K => K [] hp
  | v :: vs, hp, K => frzK hp v fun d hp' => frzsK vs hp' fun ds hp'' => K (d :: ds) hp''

def elsK {α : Type} (e : TypeId) (u : TypeId) (hp : Heap) (x : V) (K : Nat → Ls → Option α) : Option α := match x with
  | .d (.s b) => bif strT P u && sz P e == 1 then K 1 (bytesL b) else none
  | .d (.sl w xs) => bif (elemT P u).isSome then K w xs else none
  | .d .nsl => bif (elemT P u).isSome then K 0 (.r []) else none
  | .fl w xs => bif (elemT P u).isSome then K w xs else none
  | .ms id w off len => bif (elemT P u).isSome then (match lk hp id with
    | .arr w' xs => bif Nat.ble (off + len) xs.len && w == w' then K w (xs.cut off len) else none
    | .fz w' xs => bif Nat.ble (off + len) xs.len && w == w' then K w (xs.cut off len) else none
    | _ => none) else none
  | .mf id w => bif (elemT P u).isSome then (match lk hp id with
    | .arr w' xs => bif w == w' then K w xs else none
    | .fz w' xs => bif w == w' then K w xs else none
    | _ => none) else none
  | _ => none
def clearK {α : Type} (t : TypeId) (x : V) (n : Nat) (hp : Heap) (K : V → Nat → Heap → Option α) : Option α := match elemT P t with
  | some e => match zeroD P e with
    | some z => match x with
      | .ms id w off len => match lk hp id with
        | .arr w' xs => bif w' == w && w == sz P e && z.width == sz P e && Nat.blt 0 (sz P e) && Nat.ble (off + len) xs.len then K .junk n ((id, .arr w' (xs.wipe off len z)) :: hp) else none
        | _ => none
      | .d .nsl => K .junk n hp
      | _ => none
    | none => none
  | none => none
def appendK {α : Type} (t u : TypeId) (s x : V) (n : Nat) (hp : Heap) (K : V → Nat → Heap → Option α) : Option α := match elemT P t with
  | some e => match zeroD P e with
    | some z => bif z.width == sz P e && Nat.blt 0 (sz P e) then elsK P e u hp x fun w ys =>
        nilLs ys (match s with
          | .d .nsl => K s n hp
          | .d (.sl _ _) => K s n hp
          | .fl _ _ => K s n hp
          | .mf _ _ => K s n hp
          | .ms _ _ _ _ => K s n hp
          | _ => none) fun ys => bif w == sz P e then (match s with
          | .d .nsl => bif Nat.ble ((0 + ys.len) * P.bytesOf e) 140737488355328 && Nat.ble (0 + ys.len) 140737488355328 then
              K (.mf n w) (n + 1) ((n, .arr w (ys.of P e)) :: hp) else none
          | .fl w' xs => bif w' == w && Nat.ble ((xs.len + ys.len) * P.bytesOf e) 140737488355328 && Nat.ble (xs.len + ys.len) 140737488355328 then
              K (.mf n w) (n + 1) ((n, .arr w (xs.app ys)) :: hp) else none
          | .mf id w' => match lk hp id with
            | .arr w'' xs => bif w' == w && w'' == w && Nat.ble ((xs.len + ys.len) * P.bytesOf e) 140737488355328 && Nat.ble (xs.len + ys.len) 140737488355328 then
                K (.mf n w) (n + 1) ((n, .arr w (xs.app ys)) :: (id, .dead) :: hp) else none
            | _ => none
          | .ms id w' off len => match lk hp id with
            | .arr w'' xs => bif w' == w && w'' == w && off == 0 && len == xs.len && Nat.ble ((xs.len + ys.len) * P.bytesOf e) 140737488355328 && Nat.ble (xs.len + ys.len) 140737488355328 then
                K (.mf n w) (n + 1) ((n, .arr w (xs.app ys)) :: (id, .dead) :: hp) else none
            | _ => none
          | _ => none) else none
      else none
    | none => none
  | none => none
def makeSliceK {α : Type} (t : TypeId) (len cap : V) (n : Nat) (hp : Heap) (K : V → Nat → Heap → Option α) : Option α := match elemT P t with
  | some e => match zeroD P e, len, cap with
    | some z, .d (.i _ l), .d (.i _ c) =>
      bif decide (0 ≤ l) && decide (l ≤ c) && decide ((P.bytesOf e : Int) * c ≤ 140737488355328) && decide (c ≤ 140737488355328) && z.width == sz P e && Nat.blt 0 (sz P e) then
        K (.mf n (sz P e)) (n + 1) ((n, .arr (sz P e) (repLs P e l.toNat z)) :: hp)
      else none
    | _, _, _ => none
  | none => none
def convK {α : Type} (src dst : TypeId) (x : V) (n : Nat) (hp : Heap) (K : V → Nat → Heap → Option α) : Option α := match x with
  | .d (.s s) => bif strT P dst then someK (convV P src dst (.d (.s s))) (fun v => K v n hp) else
      (match elemT P dst with
       | some e => bif strT P src && decide (intT P e = some .u8) && sz P e == 1 && Nat.ble s.size 140737488355328 then K (.mf n 1) (n + 1) ((n, .arr 1 (bytesL s)) :: hp) else none
       | none => none)
  | .d (.i k a) => someK (convV P src dst (.d (.i k a))) (fun v => K v n hp)
  | x => match elemT P src with
    | some e => bif strT P dst && decide (intT P e = some .u8) then elsK P e src hp x fun w xs => (match xs with
        | .r xs => bif (w == 1 || xs.isEmpty) && isBytes xs then K (.d (.s ⟨(bytesOf xs).toArray⟩)) n hp else none
        | .t (.i .u8) l => bif (w == 1) then K (.d (.s ⟨(octs l).toArray⟩)) n hp else none
        | _ => none) else none
    | none => none
end

structure HK where
  G : Nat → Option (List D)
  ext : FuncId → Option (List D → Option (Bool × D))
  pc : FuncId → List D → Option D
  pk : FuncId → List D → {α : Type} → (D → Option α) → Option α
  call : FuncId → List V → Nat → Heap → {α : Type} → (V → Nat → Heap → Option α) → Option α
  inl : FuncId → Bool
  code : Nat → Code → St → {α : Type} → (X → St → Option α) → Option α
def bare (f : List D → Option (Bool × D)) (ds : List D) : Option D := match f ds with
  | some (b, r) => bif b then some r else none
  | none => none
def HK.hs (H : HK) : Hs := ⟨H.G, fun g => (H.ext g).map bare, H.pc, fun _ _ _ _ => none, fun _ _ => none, H.inl, fun _ _ _ => none⟩

section
variable {α : Type} (P : Program) (H : HK)
def callK (g : FuncId) (args : List V) (n : Nat) (hp : Heap) (K : V → Nat → Heap → Option α) : Option α := bif !H.inl g && frzB.frzsB hp args then
    frzsK args hp fun ds hp' => match H.ext g with
      | some f => match f ds with
        | some (b, r) => bif b then K (.d r) n hp' else none
        | none => none
      | none => H.pk g ds fun r => K (impD n hp' r).1 (impD n hp' r).2.1 (impD n hp' r).2.2
  else match H.ext g with
    | some _ => none
    | none => H.call g args n hp K
def lookMK (t : TypeId) (hp : Heap) (x k : V) (ok : Bool) (K : V → Option α) : Option α := match x, k with
  | .mp id, .d kd => match lk hp id with
    | .ot (.mp KT VT l) => bif okMap P t KT VT then (match KT.dec kd, zeroT P t VT with
      | some k, some z => bif KT.keyFit k then (bif ok then K (.d (.tp [VT.elt (mgetD KT VT l k z), .b (mhas KT VT l k)])) else K (.d (VT.elt (mgetD KT VT l k z)))) else none
      | _, _ => none) else none
    | _ => none
  | _, _ => none
def fgetK : List (Int × V) → Int → (V → Option α) → Option α
  | [], _, K => K (.d .nF)
  | e :: l, m, K => bif e.1 == m then K e.2 else fgetK l m K
def keyDK (k' : IntKind) (k : V) (K : Int → Option α) : Option α := match k with
  | .d (.i k m) => bif decide (k = k') then (bif (Lit.int k' m).wf then K m else none) else none
  | _ => none
def lookupK (t : TypeId) (hp : Heap) (x k : V) (ok : Bool) (K : V → Option α) : Option α := match fmAt hp x with
  | some (_, k', l) => bif okFm P t k' && !ok then keyDK k' k fun m => fgetK l m K else none
  | none => lookMK P t hp x k ok K
def updMK (t : TypeId) (hp : Heap) (m k x : V) (K : Heap → Option α) : Option α := match m, k, x with
  | .mp id, .d kd, .d xd => match lk hp id with
    | .ot (.mp KT VT l) => bif okMap P t KT VT then (match KT.dec kd, VT.dec xd with
      | some k, some v => bif KT.keyFit k then K ((id, .ot (.mp KT VT (mput KT VT l k v))) :: hp) else none
      | _, _ => none) else none
    | _ => none
  | _, _, _ => none
def updateK (t : TypeId) (hp : Heap) (m k x : V) (K : Heap → Option α) : Option α := match fmAt hp m with
  | some (id, k', l) => bif okFm P t k' && okC x then keyDK k' k (fun m => bif fnew l m then K ((id, .ot (.fm k' (l ++ [(m, x)]))) :: hp) else none) else none
  | none => updMK P t hp m k x K
def nextK (isS : Bool) (it : V) (n : Nat) (hp : Heap) (K : V → Nat → Heap → Option α) : Option α := match it, isS with
  | .pt id 0, true => match lk hp id with
    | .ot (.it s pos) => bif Nat.blt pos s.size then K (.d (.tp [.b true, .i .i64 pos, .i .i32 (runeD s pos).1])) n ((id, .ot (.it s (pos + (runeD s pos).2))) :: hp) else K (.d (.tp [.b false])) n hp
    | _ => none
  | _, _ => none
def roundK (id : Nat) (sl : Slots) (ps : List Nat) (assign body : Code) (args : List V) (n : Nat) (hp : Heap) (K : V → Nat → Heap → Option α) : Option α := match lk hp id with
  | .ot (.lp .ready) => bif (args.length == ps.length) && (okRound assign && okRound body) then
      H.code (ydN ps assign body) assign ⟨psPut ps args sl, n, hp⟩ fun x st1 => (match x with
        | .n => (match lk st1.h id with
          | .ot (.lp .ready) => H.code (ydN ps assign body) body ⟨st1.f, st1.n, (id, .ot (.lp .busy)) :: st1.h⟩ fun x st2 => (match lk st2.h id with
            | .ot (.lp .busy) => (match x with
              | .n => K (.d (.b true)) st2.n ((id, .ot (.lp .ready)) :: st2.h)
              | .ret => K (.d (.b false)) st2.n ((id, .ot (.lp (.done .ret))) :: st2.h)
              | .exit j => K (.d (.b false)) st2.n ((id, .ot (.lp (.done (.exit j)))) :: st2.h))
            | _ => none)
          | _ => none)
        | _ => none) else none
  | _ => none
def minK (x y : V) (K : V → Option α) : Option α := match x, y with
  | .d (.i k a), .d (.i _ b) => bif decide (b < a) then K (.d (.i k b)) else K (.d (.i k a))
  | _, _ => none
def opK (o : Oper) (f : Slots) (n : Nat) (hp : Heap) (K : V → Nat → Heap → Option α) : Option α := match o.op with
  | .pick c a b => match opV H.G f c with
    | .d (.b t) => bif t then K (opV H.G f a) n hp else K (opV H.G f b) n hp
    | _ => none
  | .binOp op t x y _ => bif (nilConst x || nilConst y) || !(mayNil (opV H.G f x) && mayNil (opV H.G f y)) then binK P op t (full hp (opV H.G f x)) (full hp (opV H.G f y)) (fun v => K v n hp) else none
  | .convert src dst x => convK P src dst (opV H.G f x) n hp K
  | .index t x i => indexK P t (opV H.G f x) (opV H.G f i) fun v => K v n hp
  | .indexAddr t x i => indexAddrK P t (full hp (opV H.G f x)) (opV H.G f i) fun v => K v n hp
  | .load t a => loadK P t hp (opV H.G f a) fun v => K v n hp
  | .store t a x => storeK P t hp (opV H.G f a) (opV H.G f x) fun hp' => K .junk n hp'
  | .slice t x lo hi mx => sliceK P H.G t f (full hp (opV H.G f x)) lo hi mx fun v => K v n hp
  | .makeSlice t l c => makeSliceK P t (opV H.G f l) (opV H.G f c) n hp K
  | .lookup t x k ok => lookupK P t hp (opV H.G f x) (opV H.G f k) ok fun v => K v n hp
  | .mapUpdate t m k x => updateK P t hp (opV H.G f m) (opV H.G f k) (opV H.G f x) fun hp' => K .junk n hp'
  | .insert t m k x => updateK P t hp (opV H.G f m) (opV H.G f k) (opV H.G f x) fun hp' => K .junk n hp'
  | .next it isS => nextK isS (opV H.G f it) n hp K
  | .call c => match c.callee with
    | .builtin .len => match c.args.toList, c.argTypes.toList with
      | [x], [t] => someK (lenV P t (full hp (opV H.G f x))) fun v => K v n hp
      | _, _ => none
    | .builtin .append => match c.args.toList, c.argTypes.toList with
      | [s, x], [t, u] => appendK P t u (opV H.G f s) (opV H.G f x) n hp K
      | _, _ => none
    | .builtin .clear => match c.args.toList, c.argTypes.toList with
      | [x], [t] => clearK P t (full hp (opV H.G f x)) n hp K
      | _, _ => none
    | .builtin .min => match c.args.toList with
      | [x, y] => minK (opV H.G f x) (opV H.G f y) fun v => K v n hp
      | _ => none
    | .value g => match opV H.G f g with
      | .d (.fn g cs) => callK H g (c.args.toList.map (opV H.G f) ++ cs.map .d) n hp K
      | .fn g cs => callK H g (c.args.toList.map (opV H.G f) ++ cs) n hp K
      | .bm g cs => callK H g (cs ++ c.args.toList.map (opV H.G f)) n hp K
      | .yd id sl ps assign body => roundK H id sl ps assign body (c.args.toList.map (opV H.G f)) n hp K
      | _ => none
    | _ => none
  | _ => match evOp P H.hs o f n hp with
    | some (v, n, hp) => K v n hp
    | none => none

def stepK (o : Oper) (st : St) (K : St → Option α) : Option α := opK P H o st.f st.n st.h fun v n hp => K (St.put ⟨st.f, n, hp⟩ o.dst v)
def operK (all : List Oper) (o : Oper) (st : St) (K : St → Option α) : Option α := match o.guard with
  | none => stepK P H o st K
  | some (j, want) => match guardAt all j with
    | some t => match get st.f t with
      | .d (.b x) => bif x then (bif want then stepK P H o ⟨(t, .d (.b true)) :: st.f, st.n, st.h⟩ K else K (St.put ⟨(t, .d (.b true)) :: st.f, st.n, st.h⟩ o.dst (.d (.tp []))))
          else (bif want then K (St.put ⟨(t, .d (.b false)) :: st.f, st.n, st.h⟩ o.dst (.d (.tp []))) else stepK P H o ⟨(t, .d (.b false)) :: st.f, st.n, st.h⟩ K)
      | .d (.tp []) => K (st.put o.dst (.d (.tp [])))
      | _ => none
    | none => none
def opersK (all : List Oper) : List Oper → St → (St → Option α) → Option α
  | [], st, K => K st
  | o :: os, st, K => operK P H all o st fun st' => opersK all os st' K

def tellRc (t : Nat) (b : Bool) (rs : List Rc) : List Rc := rs.map fun r => { r with s := r.s.map fun x => bif x.1 == t then (x.1, .d (.b b)) else x }
def drawStepK (all : List Oper) (f0 : Slots) (n0 : Nat) (h0 : Heap) (rs : List Rc) (n : Nat) (o : Oper) (K : List Rc → Rc → Option α) : Option α := match ancB rs o.after.toList with
  | some A =>
    let vw (rs : List Rc) : Heap := viewH (A.testBit ·) rs h0 (seeOf H.G (selS (A.testBit ·) 0 rs ++ f0) o)
    let rc (rs : List Rc) (st' : St) : Rc := rcOf A o n (seeOf H.G (selS (A.testBit ·) 0 rs ++ f0) o) (vw rs) st'
    let fin (rs : List Rc) (st' : St) : Option α := bif okRc (A.testBit ·) n0 rs (rc rs st') then K rs (rc rs st') else none
    let step (rs : List Rc) : Option α := stepK P { H with call := fun _ _ _ _ _ _ => none, code := fun _ _ _ _ _ => none } o ⟨selS (A.testBit ·) 0 rs ++ f0, n, vw rs⟩ (fin rs)
    let skip (rs : List Rc) : Option α := fin rs (St.put ⟨selS (A.testBit ·) 0 rs ++ f0, n, vw rs⟩ o.dst (.d (.tp [])))
    match o.guard with
    | none => step rs
    | some (j, want) => match guardAt all j with
      | some t => match get (selS (A.testBit ·) 0 rs ++ f0) t with
        | .d (.b x) => bif x then (bif want then step (tellRc t true rs) else skip (tellRc t true rs)) else (bif want then skip (tellRc t false rs) else step (tellRc t false rs))
        | .d (.tp []) => skip rs
        | _ => none
      | none => none
  | none => none
def forceD (x : D) (K : D → Option α) : Option α := match x with
  | .b t => K (.b t)
  | .i k n => K (.i k n)
  | .s t => K (.s t)
  | .ag cs => K (.ag cs)
  | .tp vs => K (.tp vs)
  | .sl w xs => K (.sl w xs)
  | .nsl => K .nsl
  | x => K x
def forceV (v : V) (K : V → Option α) : Option α := match v with
  | .d x => forceD x fun x => K (.d x)
  | .pt a b => K (.pt a b)
  | .mf a b => K (.mf a b)
  | .ms a b c d => K (.ms a b c d)
  | .ep a b c d => K (.ep a b c d)
  | .rp cs c => K (.rp cs c)
  | .junk => K .junk
  | v => K v
def forceS (s : Slots) (K : Slots → Option α) : Option α := match s with
  | [] => K []
  | x :: r => match x with
    | (j, v) => forceV v fun v => forceS r fun r => K ((j, v) :: r)
def forceB (b : Blk) (K : Blk → Option α) : Option α := match b with
  | .box cs => K (.box cs)
  | .arr w xs => K (.arr w xs)
  | .fz w xs => K (.fz w xs)
  | .ot (.mp A B l) => K (.ot (.mp A B l))
  | .ot (.fm k l) => K (.ot (.fm k l))
  | .ot (.it s p) => K (.ot (.it s p))
  | .ot (.lp .ready) => K (.ot (.lp .ready))
  | .ot (.lp .busy) => K (.ot (.lp .busy))
  | .ot (.lp (.done x)) => K (.ot (.lp (.done x)))
  | .dead => K .dead
def forceH (s : Heap) (K : Heap → Option α) : Option α := match s with
  | [] => K []
  | x :: r => match x with
    | (j, b) => forceB b fun b => forceH r fun r => K ((j, b) :: r)
def forceN (n : Nat) (K : Nat → Option α) : Option α := match n with
  | 0 => K 0
  | k + 1 => K (k + 1)
def forceRc (r : Rc) (K : Rc → Option α) : Option α := forceS r.s fun s => forceH r.p fun p => forceN r.A fun A => forceN r.lo fun lo => forceN r.hi fun hi => match r.see with
  | none => K ⟨A, s, p, lo, hi, none⟩
  | some l => K ⟨A, s, p, lo, hi, some l⟩
def forceRs (rs : List Rc) (K : List Rc → Option α) : Option α := match rs with
  | [] => K []
  | r :: rs => forceRc r fun r => forceRs rs fun rs => K (r :: rs)
def drawGoK (all : List Oper) (f0 : Nat → Slots) (n0 : Nat) (h0 : Heap) : List Oper → List Rc → Nat → (List Rc → Nat → Option α) → Option α
  | [], rs, n, K => K rs n
  | o :: os, rs, n, K => drawStepK P H all (f0 rs.length) n0 h0 rs n o fun rs r => forceRs (rs ++ [r]) fun q => forceN r.hi fun hi => drawGoK all f0 n0 h0 os q hi K
def drawK0 (all : List Oper) (st : St) (K : St → Option α) : Option α := forceNs (masks all []) fun ms => drawGoK P H all (fun i => jkGo ms (gslots all) i all 0 ++ st.f) st.n st.h all [] st.n fun rs n =>
  bif natsB (rs.map (·.A)) ms then K ⟨selS (fun _ => true) 0 rs ++ (junked all ++ st.f), n, selH (fun _ => true) 0 rs ++ st.h⟩ else none

def drawK (all : List Oper) (st : St) (K : St → Option α) : Option α := match lastCall all with
  | some (pre, L) => drawK0 P H pre st fun st1 => opersK P H all [L] st1 K
  | none => drawK0 P H all st K

def nodes : Code → Nat
  | .seq a b => nodes a + nodes b
  | .cond _ a b => 1 + nodes a + nodes b
  | .block _ c => 1 + nodes c
  | .loop _ => 1
  | .region _ _ _ => 1
  | _ => 0
def nodeAt : Code → Nat → Option Code
  | .seq a b, k => bif Nat.blt k (nodes a) then nodeAt a k else nodeAt b (k - nodes a)
  | .cond c a b, k => bif k == 0 then some (.cond c a b) else bif Nat.blt (k - 1) (nodes a) then nodeAt a (k - 1) else nodeAt b (k - 1 - nodes a)
  | .block id c, k => bif k == 0 then some (.block id c) else nodeAt c (k - 1)
  | .loop c, k => bif k == 0 then some (.loop c) else none
  | .region a b c, k => bif k == 0 then some (.region a b c) else none
  | _, _ => none

abbrev Summ := St → {α : Type} → (X → St → Option α) → Option α
inductive Told : Type 1 where
  | no
  | yes (s : Summ)
abbrev Loops := Nat → Told
def rangeEndK (f : Slots) (id : Nat) (n : Nat) (hp : Heap) (K : X → St → Option α) : Option α := match lk hp id with
  | .ot (.lp .ready) => K .n ⟨f, n, (id, .dead) :: hp⟩
  | .ot (.lp (.done x)) => (match x with
    | .n => K .n ⟨f, n, (id, .dead) :: hp⟩
    | .ret => K .ret ⟨f, n, (id, .dead) :: hp⟩
    | .exit j => K (.exit j) ⟨f, n, (id, .dead) :: hp⟩)
  | _ => none
def evK (L : Loops) : Code → Nat → St → (X → St → Option α) → Option α
  | .skip, _, st, K => K .n st
  | .region _ ops b, k, st, K => match L k with
    | .yes s => s st K
    | .no => match b with
      | false => opersK P H ops.toList ops.toList st fun st' => K .n st'
      | true => bif P.follows .mixedOrders then drawK P H ops.toList st fun st' => K .n st' else none
  | .seq a b, k, st, K => evK L a k st fun x st' => match x with
    | .n => evK L b (k + nodes a) st' K
    | x => K x st'
  | .cond c a b, k, st, K => match L k with
    | .yes s => s st K
    | .no => match opV H.G st.f c with
      | .d (.b t) => bif t then evK L a (k + 1) st K else evK L b (k + 1 + nodes a) st K
      | _ => none
  | .block id c, k, st, K => match L k with
    | .yes s => s st K
    | .no => evK L c (k + 1) st fun x st' => match x with
      | .exit j => bif j == id then K .n st' else K (.exit j) st'
      | x => K x st'
  | .loop c, k, st, K => match L k with
    | .yes s => s st K
    | .no => none
  | .exit id, _, st, K => K (.exit id) st
  | .ret, _, st, K => K .ret st
  | .rangeFunc g ps assign body, _, st, K => bif okRound assign && okRound body then (match opV H.G st.f g with
      | .d (.fn g cs) => H.call g (.yd st.n (aboutS ps.toList assign body st.f) ps.toList assign body :: cs.map .d) (st.n + 1) ((st.n, .ot (.lp .ready)) :: st.h) fun _ n hp => rangeEndK st.f st.n n hp K
      | .fn g cs => H.call g (.yd st.n (aboutS ps.toList assign body st.f) ps.toList assign body :: cs) (st.n + 1) ((st.n, .ot (.lp .ready)) :: st.h) fun _ n hp => rangeEndK st.f st.n n hp K
      | _ => none) else none
  | _, _, _, _ => none

def resK (st : St) : List ResultVar → (List V → Option α) → Option α
  | [], K => K []
  | .tmp t :: rs, K => resK st rs fun vs => K (get st.f t :: vs)
  | .cell a t :: rs, K => loadK P t st.h (get st.f a) fun v => resK st rs fun vs => K (v :: vs)
def finK (d : Fd) (x : X) (st : St) (K : V → Nat → Heap → Option α) : Option α := match x with
  | .n => resK P st d.res fun vs => K (oneV vs) st.n st.h
  | .ret => resK P st d.res fun vs => K (oneV vs) st.n st.h
  | _ => none
def cutVK (v : V) (n : Nat) (hp : Heap) (K : V → Nat → Heap → Option α) : Option α := match v with
  | .ms id w off len => bif off == 0 then (match lk hp id with
    | .arr w' xs => bif w' == w && Nat.ble len xs.len then K (.mf n w) (n + 1) ((n, .arr w (xs.cut 0 len)) :: (id, .dead) :: hp) else none
    | _ => K v n hp) else K v n hp
  | _ => K v n hp
def bodyK (L : Loops) (g : FuncId) (args : List V) (n : Nat) (hp : Heap) (K : V → Nat → Heap → Option α) : Option α := match fnOf P g with
  | some d => bif Nat.ble args.length d.nt then evK P H L d.code 0 ⟨zipArgs 0 args, n, hp⟩ fun x st => finK P d x st fun v n hp => cutVK v n hp K else none
  | none => none
end

def outK {α : Type} (hp : Heap) (v : V) (K : D → Heap → Option α) : Option α := match v with
  | .mf id w => match lk hp id with
    | .arr w' xs => bif w == w' then K (.fr w xs) ((id, .dead) :: hp) else none
    | _ => frzK hp v K
  | .ms id w off len => match lk hp id with
    | .arr w' xs => bif off == 0 && len == xs.len && w == w' then K (.fr w xs) ((id, .dead) :: hp) else frzK hp v K
    | _ => frzK hp v K
  | _ => frzK hp v K
def outsK {α : Type} : List V → Heap → (List D → Heap → Option α) → Option α
  | [], hp, K => K [] hp
  | v :: vs, hp, K => outK hp v fun d hp' => outsK vs hp' fun ds hp'' => K (d :: ds) hp''
structure Row where
  g : FuncId
  A : Type
  R : Type
  dec : List D → Option A
  F : A → Option R
  enc : R → D
  spl : R → {α : Type} → (D → Option α) → Option α
  spl_ok : ∀ (r : R) (α : Type) (K : D → Option α), spl r K = K (enc r)
def Row.f (w : Row) (ds : List D) : Option D := match w.dec ds with
  | some a => match w.F a with
    | some r => some (w.enc r)
    | none => none
  | none => none
def tabF : List Row → FuncId → List D → Option D
  | [], _, _ => none
  | w :: ws, g, ds => bif w.g == g then (match w.dec ds with
    | some a => match w.F a with
      | some r => some (w.enc r)
      | none => none
    | none => tabF ws g ds) else tabF ws g ds
def tabK : List Row → FuncId → List D → {α : Type} → (D → Option α) → Option α
  | [], _, _, _, _ => none
  | w :: ws, g, ds, _, K => bif w.g == g then (match w.dec ds with
    | some a => (w.F a).bind fun r => w.spl r K
    | none => tabK ws g ds K) else tabK ws g ds K

def hasRow : List Row → FuncId → Bool
  | [], _ => false
  | w :: ws, g => bif w.g == g then true else hasRow ws g
def inlOf (E : FuncId → Option (List D → Option (Bool × D))) (T : List Row) (g : FuncId) : Bool := bif hasRow T g then false else match E g with
  | some _ => false
  | none => true
def ownK (hp : Heap) {α : Type} (v : V) (K : Nat → Nat → Ls → Option α) : Option α := match v with
  | .mf id w => match lk hp id with
    | .arr w' xs => bif w' == w then K id w xs else none
    | _ => none
  | .ms id w off len => match lk hp id with
    | .arr w' xs => bif w' == w && off == 0 && Nat.ble len xs.len then K id w (xs.cut 0 len) else none
    | _ => none
  | _ => none
def insK (P : Program) (e : TypeId) (args : List V) (n : Nat) (hp : Heap) {α : Type} (K : V → Nat → Heap → Option α) : Option α := match args with
  | [s, .d (.i .i64 k), v] => ownK hp v fun iv wv ys => bif Nat.beq ys.len 1 && wv == sz P e && Nat.blt 0 (sz P e) then (match s with
      | .d .nsl => bif insB P e k 0 then K (.mf n wv) (n + 1) ((n, .arr wv ys) :: (iv, .dead) :: hp) else none
      | .fl w xs => bif w == wv && insB P e k xs.len then K (.mf n wv) (n + 1) ((n, .arr wv (xs.ins k.toNat ys)) :: (iv, .dead) :: hp) else none
      | s => ownK hp s fun id w xs => bif w == wv && !(id == iv) && insB P e k xs.len then K (.mf n wv) (n + 1) ((n, .arr wv (xs.ins k.toNat ys)) :: (id, .dead) :: (iv, .dead) :: hp) else none) else none
  | _ => none
def delK (P : Program) (e : TypeId) (args : List V) (n : Nat) (hp : Heap) {α : Type} (K : V → Nat → Heap → Option α) : Option α := match args with
  | [s, .d (.i .i64 k), .d (.i .i64 j)] => ownK hp s fun id w xs => bif w == sz P e && (Nat.blt 0 (sz P e) && delB k j xs.len) then K (.mf n w) (n + 1) ((n, .arr w (xs.del k.toNat)) :: (id, .dead) :: hp) else none
  | _ => none
def callJK (P : Program) (J : FuncId → Option TypeId) {α : Type} (f : (β : Type) → (V → Nat → Heap → Option β) → Option β) (g : FuncId) (args : List V) (n : Nat) (hp : Heap) (K : V → Nat → Heap → Option α) : Option α := match J g with
  | some e => bif Nat.blt e 1000000 then insK P e args n hp K else delK P (e - 1000000) args n hp K
  | none => f α K
def hk (P : Program) (G : Nat → Option (List D)) (E : FuncId → Option (List D → Option (Bool × D))) (J : FuncId → Option TypeId) (T : List Row) (L : FuncId → Nat → Loops) : Nat → HK
  | 0 => ⟨G, E, tabF T, tabK T, fun _ _ _ _ _ _ => none, inlOf E T, fun _ _ _ _ _ => none⟩
  | k + 1 => ⟨G, E, tabF T, tabK T, fun g args n hp _ K => callJK P J (fun _ K => bodyK P (hk P G E J T L k) (L g n) g args n hp K) g args n hp K, inlOf E T, fun _ c st _ K => evK P (hk P G E J T L k) (fun _ => .no) c 0 st K⟩
end Go.Fw
end
section
set_option linter.unusedVariables false
set_option linter.unusedSimpArgs false
namespace Go.Fw
variable {P : Program} {α : Type} {r : α}

theorem someK_sound {x : Option V} {K : V → Option α} (h : someK x K = some r) : ∃ v, x = some v ∧ K v = some r := by
  unfold someK at h
  split at h
  · exact ⟨_, rfl, h⟩
  · cases h
theorem leafK_sound {z x : D} {K : D → Option α} (h : leafK z x K = some r) : K x = some r := by
  unfold leafK at h
  split at h
  · obtain ⟨h1, h2⟩ := cond_some h
    cases x <;> first | (cases h1; done) | exact h2
  · obtain ⟨h1, h2⟩ := cond_some h
    cases x <;> first | (cases h1; done) | skip
    simp only [isI, decide_eq_true_eq] at h1
    subst h1
    exact h2
  · obtain ⟨h1, h2⟩ := cond_some h
    cases x <;> first | (cases h1; done) | exact h2
  · cases hx : isNsl x <;> rw [hx] at h
    · obtain ⟨h1, h2⟩ := cond_some h
      cases x <;> first | (cases h1; done) | exact h2
    · cases x <;> first | (cases hx; done) | exact h
  · exact h
theorem cellsK_sound {cs : List D} : ∀ {zs : List D} {c : Nat} {K : List D → Option α}, cellsK cs zs c K = some r → c + zs.length ≤ cs.length → K ((cs.drop c).take zs.length) = some r
  | [], c, K, h, _ => by simpa [cellsK] using h
  | z :: zs, c, K, h, hl => by
    simp only [cellsK] at h
    have h1 := leafK_sound h
    simp only [List.length_cons] at hl
    have h2 := cellsK_sound h1 (by omega)
    have hc : c < cs.length := by omega
    rw [List.length_cons, List.drop_eq_getElem_cons hc, List.take_succ_cons]
    have : cs.getD c .nsl = cs[c] := by simp [hc]
    rw [this] at h2
    exact h2
theorem partK_sound {t : TypeId} {cs : List D} {off : Nat} {K : D → Option α} (h : partK P t cs off K = some r) : ∃ d, partD P t cs off = some d ∧ K d = some r := by
  unfold partK at h
  unfold partD
  split at h
  · rename_i zs ha _
    obtain ⟨h1, h2⟩ := cond_some h
    rw [Bool.and_eq_true] at h1
    have hz : zs.length = sz P t := by simpa using h1.1
    have hle := Nat.le_of_ble_eq_true h1.2
    rw [ha]
    simp only [h1.2, cond_true]
    exact ⟨_, rfl, by rw [← hz]; exact cellsK_sound h2 (by omega)⟩
  · rename_i z ha _
    obtain ⟨h1, h2⟩ := cond_some h
    have hlt : off < cs.length := by simpa [Nat.blt_eq] using h1
    rw [ha]
    refine ⟨cs[off], by simp [hlt], ?_⟩
    have h3 := leafK_sound h2
    have : cs.getD off .nsl = cs[off] := by simp [hlt]
    rw [this] at h3
    exact h3
  · cases h
theorem getD_of {xs : List D} {k : Nat} (h : Nat.blt k xs.length = true) : xs[k]? = some (xs.getD k .nsl) := by
  have hlt : k < xs.length := by simpa [Nat.blt_eq] using h
  simp [hlt]
theorem Ls.at_rd {xs : Ls} {k : Nat} (h : Nat.blt k xs.len = true) : xs.at? k = some (xs.rd k) := by
  rw [Ls.at_xs]; exact Ls.rd_xs (by simpa [Nat.blt_eq] using h)
theorem loadK_sound {t : TypeId} {hp : Heap} {a : V} {K : V → Option α} (h : loadK P t hp a K = some r) : ∃ v, loadV P t hp a = some v ∧ K v = some r := by
  unfold loadK at h
  split at h
  · exact someK_sound h
  · split at h
    · rename_i w' xs hb
      obtain ⟨h1, h2⟩ := cond_some h
      rw [Bool.and_eq_true] at h1
      obtain ⟨d, h3, h4⟩ := partK_sound h2
      simp only [loadV, hb, h1.1, Ls.at_rd h1.2, cond_true, h3, Option.map_some]
      exact ⟨_, rfl, h4⟩
    · rename_i w' xs hb
      obtain ⟨h1, h2⟩ := cond_some h
      rw [Bool.and_eq_true] at h1
      obtain ⟨d, h3, h4⟩ := partK_sound h2
      simp only [loadV, hb, h1.1, Ls.at_rd h1.2, cond_true, h3, Option.map_some]
      exact ⟨_, rfl, h4⟩
    · cases h
  · obtain ⟨d, h3, h4⟩ := partK_sound h
    simp only [loadV, h3, Option.map_some]
    exact ⟨_, rfl, h4⟩
  · cases h
theorem storeK_sound {t : TypeId} {hp : Heap} {a v : V} {K : Heap → Option α} (h : storeK P t hp a v K = some r) : ∃ hp', storeV P t hp a v = some hp' ∧ K hp' = some r := by
  unfold storeK at h
  split at h
  · rename_i id w k o
    obtain ⟨h1, h2⟩ := cond_some h
    split at h2
    · rename_i w' T l hb
      obtain ⟨h3, h4⟩ := cond_some h2
      rw [Bool.and_eq_true] at h3
      have hat : (Ls.t T l).at? k = some (T.elt (l.getD k T.dflt)) := Ls.at_rd (xs := .t T l) h3.2
      split at h4
      · rename_i ds hds
        split at h4
        · rename_i x' hx
          exact ⟨_, by simp only [storeV, h1, cond_true, hb, h3.1, hat, hds, hx], h4⟩
        · cases h4
      · cases h4
    · rename_i w' xs hb
      obtain ⟨h3, h4⟩ := cond_some h2
      rw [Bool.and_eq_true, Bool.and_eq_true] at h3
      obtain ⟨⟨h3w, h3k⟩, h3o⟩ := h3
      have ho : o = 0 := by simpa using h3o
      subst ho
      have hat : (Ls.r xs).at? k = some (xs.getD k .nsl) := getD_of h3k
      split at h4
      · rename_i ds hds
        simp only [storeV, h1, cond_true, hb, h3w, hat, hds]
        split at h4
        · obtain ⟨h5, h6⟩ := cond_some h4
          generalize xs.getD k .nsl = x at h5 h6
          cases x with
          | ag cs =>
            have hl : cs.length = ds.length := by simpa [isAg] using h5
            have hb2 : Nat.ble (0 + ds.length) cs.length = true := Nat.ble_eq_true_of_le (by omega)
            simp only [reD, hb2, cond_true]
            refine ⟨_, rfl, ?_⟩
            have : lay cs 0 ds = ds := by
              unfold lay
              rw [List.take_zero, List.nil_append, Nat.zero_add, List.drop_eq_nil_of_le (by omega), List.append_nil]
            rw [this]; exact h6
          | _ => cases h5
        · split at h4
          · obtain ⟨h5, h6⟩ := cond_some h4
            rw [Bool.and_eq_true] at h5
            generalize xs.getD k .nsl = x at h5 h6
            cases x with
            | ag cs => cases h5.1
            | _ => exact ⟨_, by simp only [reD, h5.2, cond_true]; rfl, h6⟩
          · cases h4
        · cases h4
      · cases h4
    · cases h2
  · split at h
    · rename_i hp' hs
      exact ⟨hp', hs, h⟩
    · cases h
theorem eqFldsB_sound {e e' : TypeId → D → D → Option Bool} (he : ∀ t x y b, e t x y = some b → e' t x y = some b) {xs ys : List D} : ∀ {fs : List Field} {b : Bool}, eqFldsB P e xs ys fs = some b → eqFlds P e' xs ys fs = some b
  | [], b, h => h
  | f :: fs, b, h => by
    simp only [eqFldsB] at h
    simp only [eqFlds]
    cases hn : (f.name != "_") <;> rw [hn] at h
    · simp only [cond_false] at h ⊢
      exact eqFldsB_sound he h
    · simp only [cond_true] at h ⊢
      split at h
      · rename_i x y h1 h2
        split at h
        · rename_i t u h3 h4
          injection h with h
          rw [h1, h2]
          simp only [he _ _ _ _ h3]
          cases t
          · simp only [Bool.false_and] at h; subst h; rfl
          · simp only [Bool.true_and] at h; subst h; exact eqFldsB_sound he h4
        · cases h
      · cases h
theorem eqTB_sound : ∀ {n : Nat} {t : TypeId} {x y : D} {b : Bool}, eqTB P n t x y = some b → eqT P n t x y = some b
  | 0, t, x, y, b, h => by cases h
  | n + 1, t, x, y, b, h => by
    simp only [eqTB] at h
    simp only [eqT]
    split at h
    · split at h
      · rename_i fs hfs
        cases hs : P.stoodInHeld t <;> rw [hs] at h
        · simp only [cond_false] at h
          rw [hfs]
          simp only [hs, cond_false]
          exact eqFldsB_sound (fun t x y b h => eqTB_sound h) h
        · cases h
      · cases h
    · rename_i hne
      split
      · rename_i xs ys; exact absurd rfl (hne xs ys rfl)
      · exact h
theorem nilLs_is {a : Ls} {z : Option α} {K : Ls → Option α} : nilLs a z K = bif a.nil then z else K a := by
  cases a with
  | r xs => cases xs <;> rfl
  | t T l => cases l <;> rfl
theorem binK_sound {op : BinOp} {t : TypeId} {x y : V} {K : V → Option α} (h : binK P op t x y K = some r) : ∃ v, binV P op t x y = some v ∧ K v = some r := by
  unfold binK at h
  split at h
  · rename_i k a k' c
    split at h
    · obtain ⟨h1, h2⟩ := cond_none h
      exact ⟨_, by simp only [binV, shiftI, h1, cond_false, Option.map_some], h2⟩
    · obtain ⟨h1, h2⟩ := cond_none h
      exact ⟨_, by simp only [binV, shiftI, h1, cond_false, Option.map_some], h2⟩
    · obtain ⟨h0, h⟩ := cond_some h
      obtain ⟨h1, h2⟩ := cond_none h
      exact ⟨_, by simp only [binV, binI, h0, h1, cond_false, cond_true, Option.map_some], h2⟩
    · obtain ⟨h0, h⟩ := cond_some h
      obtain ⟨h1, h2⟩ := cond_none h
      exact ⟨_, by simp only [binV, binI, h0, h1, cond_false, cond_true, Option.map_some], h2⟩
    · exact someK_sound h
  · split at h
    · obtain ⟨h1, h2⟩ := cond_some h
      exact ⟨_, by simp only [binV, binS, h1, cond_true, Option.map_some], h2⟩
    · exact someK_sound h
  · rename_i xs ys
    obtain ⟨h1, h2⟩ := cond_none h
    split at h2
    · split at h2
      · rename_i b hb
        exact ⟨_, by simp only [binV, eqV, h1, cond_false, eqTB_sound hb, Option.map_some], h2⟩
      · cases h2
    · split at h2
      · rename_i b hb
        exact ⟨_, by simp only [binV, eqV, h1, cond_false, eqTB_sound hb, Option.map_some], h2⟩
      · cases h2
    · cases h2
  · rw [nilLs_is] at h
    obtain ⟨_, h⟩ := cond_none h
    exact someK_sound h
  · exact someK_sound h
theorem asNatK_sound {n : Int} {m : Nat} {K : Nat → Option α} (h : asNatK n m K = some r) : asNat n m = some n.toNat ∧ n.toNat < m ∧ K n.toNat = some r := by
  unfold asNatK at h
  obtain ⟨h1, h2⟩ := cond_some h
  have h3 := h1
  rw [Bool.and_eq_true, decide_eq_true_eq, decide_eq_true_eq] at h3
  exact ⟨by simp only [asNat, h1, cond_true], by omega, h2⟩
theorem bndK_sound {G : Nat → Option (List D)} {f : Slots} {o : Option Operand} {d m : Nat} {K : Nat → Option α} (h : bndK G f o d m K = some r) : ∃ j, bnd G f o d m = some j ∧ K j = some r := by
  unfold bndK at h
  unfold bnd
  split at h
  · exact ⟨_, rfl, h⟩
  · split at h
    · rename_i hx
      obtain ⟨h1, h2⟩ := cond_some h
      simp only [hx, h1, cond_true]
      exact ⟨_, rfl, h2⟩
    · cases h
theorem splitK_sound {n : Int} {K : Nat → Option α} : ∀ {m j : Nat}, splitK n K j m = some r → ∃ i : Nat, n = (i : Int) ∧ i < j + m ∧ K i = some r
  | 0, j, h => by cases h
  | m + 1, j, h => by
    unfold splitK at h
    cases hb : (n == (j : Int)) <;> rw [hb] at h
    · obtain ⟨i, h1, h2, h3⟩ := splitK_sound h
      exact ⟨i, h1, by omega, h3⟩
    · exact ⟨j, by simpa using hb, by omega, h⟩
theorem asNat_of {n : Int} {i m : Nat} (h : n = (i : Int)) (hi : i < m) : asNat n m = some i := by
  subst h
  unfold asNat
  have h1 : (decide ((0 : Int) ≤ (i : Int)) && decide ((i : Int) < (m : Int))) = true := by
    simp only [Bool.and_eq_true, decide_eq_true_eq]; omega
  rw [h1, Int.toNat_natCast]; rfl
theorem partsD_get {e : TypeId} {cs : List D} : ∀ {m j : Nat} {ds : List D}, partsD P e cs j m = some ds → ∀ i, i < m → ∃ d, partD P e cs ((j + i) * sz P e) = some d ∧ ds[i]? = some d
  | 0, _, _, _, i, hi => by omega
  | m + 1, j, ds, h, i, hi => by
    simp only [partsD] at h
    split at h
    · rename_i d hd
      split at h
      · rename_i ds' hds
        injection h with h
        subst h
        cases i with
        | zero => exact ⟨d, hd, rfl⟩
        | succ i =>
          obtain ⟨d', h1, h2⟩ := partsD_get hds i (by omega)
          exact ⟨d', by rw [show j + (i + 1) = j + 1 + i by omega]; exact h1, by simpa using h2⟩
      · cases h
    · cases h
theorem typedArr_get {e : TypeId} {len : Nat} {cs : List D} {T : Ty} {l : List T.den} (h : typedArr P e len cs = some ⟨T, l⟩) (j : Nat) (hj : j < len) : partD P e cs (j * sz P e) = some (T.elt (l.getD j T.dflt)) := by
  unfold typedArr at h
  replace h := (cond_some h).2
  split at h
  · rename_i T' hT
    split at h
    · rename_i ds hds
      split at h
      · rename_i l' hl
        simp only [Option.some.injEq, Sigma.mk.injEq] at h
        obtain ⟨rfl, h⟩ := h
        have h := eq_of_heq h
        subst h
        obtain ⟨d, h1, h2⟩ := partsD_get hds j hj
        rw [Nat.zero_add] at h1
        rw [h1]
        rw [← Ty.decs_elt hl, List.getElem?_map] at h2
        obtain ⟨x, hx, rfl⟩ := Option.map_eq_some_iff.1 h2
        rw [List.getD_eq_getElem?_getD, hx]
        rfl
      · cases h
    · cases h
  · cases h
theorem indexK_sound {t : TypeId} {x i : V} {K : V → Option α} (h : indexK P t x i K = some r) : ∃ v, indexV P t x i = some v ∧ K v = some r := by
  unfold indexK at h
  split at h
  · split at h
    · obtain ⟨h1, h2⟩ := cond_some h
      obtain ⟨h3, h4, h5⟩ := asNatK_sound h2
      exact ⟨_, by simp only [indexV, h1, cond_true, h3], h5⟩
    · split at h
      · rename_i len e ha
        split at h
        · rename_i T l hl
          obtain ⟨h3, h4, h5⟩ := asNatK_sound h
          exact ⟨_, by simp only [indexV, ha, h3, typedArr_get hl _ h4, Option.map_some], h5⟩
        cases hf : (fnZ P e || Nat.ble len 256) <;> rw [hf] at h
        · simp only [cond_false] at h
          obtain ⟨h3, h4, h5⟩ := asNatK_sound h
          obtain ⟨d, h6, h7⟩ := partK_sound h5
          exact ⟨_, by simp only [indexV, ha, h3, h6, Option.map_some], h7⟩
        · simp only [cond_true] at h
          obtain ⟨i, h3, h4, h5⟩ := splitK_sound h
          obtain ⟨d, h6, h7⟩ := partK_sound h5
          exact ⟨_, by simp only [indexV, ha, asNat_of h3 (by omega : i < len), h6, Option.map_some], h7⟩
      · cases h
    · exact someK_sound h
  · cases h
theorem indexAddrK_sound {t : TypeId} {x i : V} {K : V → Option α} (h : indexAddrK P t x i K = some r) : ∃ v, indexAddrV P t x i = some v ∧ K v = some r := by
  have get : ∀ {xs : Ls} {j : Nat}, j < xs.len → xs.at? j = some (xs.rd j) := fun {xs j} h => Ls.at_rd (by rw [Nat.blt_eq]; exact h)
  unfold indexAddrK at h
  split at h
  · split at h
    · rename_i e he
      split at h
      · obtain ⟨h1, h2⟩ := cond_some h
        obtain ⟨h3, h4, h5⟩ := asNatK_sound h2
        exact ⟨_, by simp only [indexAddrV, he, h1, cond_true, h3, get h4], h5⟩
      · obtain ⟨h1, h2⟩ := cond_some h
        obtain ⟨h3, h4, h5⟩ := asNatK_sound h2
        exact ⟨_, by simp only [indexAddrV, he, h1, cond_true, h3, get h4], h5⟩
      · obtain ⟨h1, h2⟩ := cond_some h
        obtain ⟨h3, h4, h5⟩ := asNatK_sound h2
        exact ⟨_, by simp only [indexAddrV, he, h1, cond_true, h3], h5⟩
      · cases h
    · rename_i he
      split at h
      · rename_i len e ha
        split at h
        · obtain ⟨h1, h2⟩ := cond_some h
          cases hf : Nat.ble len 8 <;> rw [hf] at h2
          · simp only [cond_false] at h2
            obtain ⟨h3, h4, h5⟩ := asNatK_sound h2
            exact ⟨_, by simp only [indexAddrV, he, ha, h1, cond_true, h3], h5⟩
          · simp only [cond_true] at h2
            obtain ⟨i, h3, h4, h5⟩ := splitK_sound h2
            exact ⟨_, by simp only [indexAddrV, he, ha, h1, cond_true, asNat_of h3 (by omega : i < len)], h5⟩
        · obtain ⟨h1, h2⟩ := cond_some h
          obtain ⟨h3, h4, h5⟩ := asNatK_sound h2
          exact ⟨_, by simp only [indexAddrV, he, ha, h1, cond_true, h3], h5⟩
        · obtain ⟨h1, h2⟩ := cond_some h
          obtain ⟨h3, h4, h5⟩ := asNatK_sound h2
          exact ⟨_, by simp only [indexAddrV, he, ha, h1, cond_true, h3], h5⟩
        · cases h
      · cases h
  · cases h
theorem sliceK_sound {G : Nat → Option (List D)} {t : TypeId} {f : Slots} {x : V} {lo hi mx : Option Operand} {K : V → Option α} (h : sliceK P G t f x lo hi mx K = some r) : ∃ v, sliceV P G t f x lo hi mx = some v ∧ K v = some r := by
  unfold sliceK at h
  split at h
  · obtain ⟨h1, h⟩ := cond_some h
    split at h
    · cases h
    · obtain ⟨a, h2, h⟩ := bndK_sound h
      obtain ⟨b, h3, h⟩ := bndK_sound h
      exact ⟨_, by simp only [sliceV, h1, cond_true, h2, h3], h⟩
  · exact someK_sound h
  · obtain ⟨h1, h⟩ := cond_some h
    obtain ⟨a, h2, h⟩ := bndK_sound h
    obtain ⟨b, h3, h⟩ := bndK_sound h
    split at h
    · exact ⟨_, by simp only [sliceV, h1, cond_true, h2, h3], h⟩
    · obtain ⟨c, h4, h⟩ := bndK_sound h
      obtain ⟨h5, h⟩ := cond_some h
      exact ⟨_, by simp only [sliceV, h1, cond_true, h2, h3, h4, h5], h⟩
    · cases h
  · rename_i w xs
    obtain ⟨h1, h⟩ := cond_some h
    split at h
    · obtain ⟨a, h2, h⟩ := bndK_sound h
      obtain ⟨b, h3, h⟩ := bndK_sound h
      cases hb : (a == xs.len) <;> rw [hb] at h
      · exact ⟨_, by simp only [sliceV, h1, cond_true, h2, h3, hb, cond_false], h⟩
      · exact ⟨_, by simp only [sliceV, h1, cond_true, h2, h3, hb], h⟩
    · cases h
  · obtain ⟨h1, h⟩ := cond_some h
    split at h
    · obtain ⟨a, h2, h⟩ := bndK_sound h
      obtain ⟨b, h3, h⟩ := bndK_sound h
      exact ⟨_, by simp only [sliceV, h1, cond_true, h2, h3], h⟩
    · cases h
  · cases h
theorem frzK_sound {hp : Heap} {v : V} {K : D → Heap → Option α} (h : frzK hp v K = some r) : ∃ d hp', frz hp v = some (d, hp') ∧ K d hp' = some r := by
  unfold frzK at h
  split at h
  · exact ⟨_, _, rfl, h⟩
  · split at h
    · rename_i w' xs hb
      obtain ⟨h1, h⟩ := cond_some h
      exact ⟨_, _, by simp only [frz, hb, h1, cond_true], h⟩
    · rename_i w' xs hb
      obtain ⟨h1, h⟩ := cond_some h
      exact ⟨_, _, by simp only [frz, hb, h1, cond_true], h⟩
    · cases h
  · split at h
    · rename_i w' xs hb
      obtain ⟨h1, h⟩ := cond_some h
      exact ⟨_, _, by simp only [frz, hb, h1, cond_true], h⟩
    · rename_i w' xs hb
      obtain ⟨h1, h⟩ := cond_some h
      exact ⟨_, _, by simp only [frz, hb, h1, cond_true], h⟩
    · cases h
  · exact ⟨_, _, rfl, h⟩
  · split at h
    · rename_i d hp' hf
      exact ⟨d, hp', hf, h⟩
    · cases h
theorem frzsK_sound : ∀ {vs : List V} {hp : Heap} {K : List D → Heap → Option α}, frzsK vs hp K = some r → ∃ ds hp', frzs hp vs = some (ds, hp') ∧ K ds hp' = some r
  | [], hp, K, h => ⟨_, _, rfl, h⟩
  | v :: vs, hp, K, h => by
    simp only [frzsK] at h
    obtain ⟨d, hp', h1, h2⟩ := frzK_sound h
    obtain ⟨ds, hp'', h3, h4⟩ := frzsK_sound h2
    exact ⟨_, _, by simp only [frzs, h1, h3], h4⟩
end Go.Fw
end
section
set_option linter.unusedVariables false
set_option linter.unusedSimpArgs false
namespace Go.Fw
variable {P : Program} {α : Type} {r : α}

theorem elsK_sound {e u : TypeId} {hp : Heap} {x : V} {K : Nat → Ls → Option α} (h : elsK P e u hp x K = some r) : ∃ w xs, elsV P e u hp x = some (w, xs) ∧ K w xs = some r := by
  unfold elsK at h
  split at h
  · obtain ⟨h1, h⟩ := cond_some h
    exact ⟨_, _, by simp only [elsV, h1, cond_true], h⟩
  · obtain ⟨h1, h⟩ := cond_some h
    exact ⟨_, _, by simp only [elsV, h1, cond_true, sliceOf], h⟩
  · obtain ⟨h1, h⟩ := cond_some h
    exact ⟨_, _, by simp only [elsV, h1, cond_true, sliceOf], h⟩
  · obtain ⟨h1, h⟩ := cond_some h
    exact ⟨_, _, by simp only [elsV, h1, cond_true, sliceOf], h⟩
  · obtain ⟨h1, h⟩ := cond_some h
    split at h
    · rename_i w' xs hb
      obtain ⟨h2, h⟩ := cond_some h
      exact ⟨_, _, by simp only [elsV, h1, cond_true, sliceOf, hb, h2], h⟩
    · rename_i w' xs hb
      obtain ⟨h2, h⟩ := cond_some h
      exact ⟨_, _, by simp only [elsV, h1, cond_true, sliceOf, hb, h2], h⟩
    · cases h
  · obtain ⟨h1, h⟩ := cond_some h
    split at h
    · rename_i w' xs hb
      obtain ⟨h2, h⟩ := cond_some h
      exact ⟨_, _, by simp only [elsV, h1, cond_true, sliceOf, hb, h2], h⟩
    · rename_i w' xs hb
      obtain ⟨h2, h⟩ := cond_some h
      exact ⟨_, _, by simp only [elsV, h1, cond_true, sliceOf, hb, h2], h⟩
    · cases h
  · cases h
theorem clearK_sound {t : TypeId} {x : V} {n : Nat} {hp : Heap} {K : V → Nat → Heap → Option α} (h : clearK P t x n hp K = some r) : ∃ v n' hp', clearV P t x n hp = some (v, n', hp') ∧ K v n' hp' = some r := by
  unfold clearK at h
  split at h
  · rename_i e he
    split at h
    · rename_i z hz
      split at h
      · split at h
        · rename_i w' xs hl
          obtain ⟨hc, h⟩ := cond_some h
          exact ⟨_, _, _, by simp only [clearV, he, hz, hl, hc, cond_true], h⟩
        · cases h
      · exact ⟨_, _, _, by simp only [clearV, he, hz], h⟩
      · cases h
    · cases h
  · cases h
theorem appendK_sound {t u : TypeId} {s x : V} {n : Nat} {hp : Heap} {K : V → Nat → Heap → Option α} (h : appendK P t u s x n hp K = some r) : ∃ v n' hp', appendV P t u s x n hp = some (v, n', hp') ∧ K v n' hp' = some r := by
  unfold appendK at h
  split at h
  · rename_i e he
    split at h
    · rename_i z hz
      obtain ⟨h1, h⟩ := cond_some h
      obtain ⟨w, ys, h2, h⟩ := elsK_sound h
      unfold appendV
      simp only [he, hz, h1, cond_true, h2]
      rw [nilLs_is] at h
      cases hn : ys.nil <;> rw [hn] at h
      rotate_left
      · simp only [cond_true] at h ⊢
        split at h
        · exact ⟨_, _, _, rfl, h⟩
        · exact ⟨_, _, _, rfl, h⟩
        · exact ⟨_, _, _, rfl, h⟩
        · exact ⟨_, _, _, rfl, h⟩
        · exact ⟨_, _, _, rfl, h⟩
        · cases h
      · simp only [cond_false] at h ⊢
        obtain ⟨h3, h⟩ := cond_some h
        simp only [h3, cond_true]
        split at h
        · obtain ⟨h4, h⟩ := cond_some h
          exact ⟨_, _, _, by simp only [h4, cond_true], h⟩
        · obtain ⟨h4, h⟩ := cond_some h
          exact ⟨_, _, _, by simp only [h4, cond_true], h⟩
        · split at h
          · rename_i w'' xs hb
            obtain ⟨h4, h⟩ := cond_some h
            exact ⟨_, _, _, by simp only [hb, h4, cond_true], h⟩
          · cases h
        · split at h
          · rename_i w'' xs hb
            obtain ⟨h4, h⟩ := cond_some h
            exact ⟨_, _, _, by simp only [hb, h4, cond_true], h⟩
          · cases h
        · cases h
    · cases h
  · cases h
theorem makeSliceK_sound {t : TypeId} {l c : V} {n : Nat} {hp : Heap} {K : V → Nat → Heap → Option α} (h : makeSliceK P t l c n hp K = some r) : ∃ v n' hp', makeSliceV P t l c n hp = some (v, n', hp') ∧ K v n' hp' = some r := by
  unfold makeSliceK at h
  split at h
  · rename_i e he
    split at h
    · rename_i hz
      obtain ⟨h1, h⟩ := cond_some h
      exact ⟨_, _, _, by simp only [makeSliceV, he, hz, h1, cond_true], h⟩
    · cases h
  · cases h
theorem strOf_of : ∀ {xs : List D}, isBytes xs = true → strOf xs = some (bytesOf xs)
  | [], _ => rfl
  | d :: xs, h => by
    cases d with
    | i k n =>
      cases k <;> first | (simp [isBytes] at h; done) | skip
      simp only [isBytes] at h
      simp only [strOf, strOf_of h, bytesOf, iOf, Option.map_some]
    | _ => simp [isBytes] at h
def convOut (P : Program) (src dst : TypeId) (x : V) (n : Nat) (hp : Heap) : Out := match x with
    | .d (.s s) => bif strT P dst then pure1 n hp (convV P src dst (.d (.s s))) else
        (match elemT P dst with
         | some e => bif strT P src && decide (intT P e = some .u8) && sz P e == 1 && Nat.ble s.size 140737488355328 then some (.mf n 1, n + 1, (n, .arr 1 (bytesL s)) :: hp) else none
         | none => none)
    | .d (.i k a) => pure1 n hp (convV P src dst (.d (.i k a)))
    | x => match elemT P src with
      | some e => bif strT P dst && decide (intT P e = some .u8) then (match sliceOf hp x with
        | some (w, xs) => bif w == 1 || xs.nil then pure1 n hp ((strL xs).map fun l => .d (.s ⟨l.toArray⟩)) else none
        | none => none) else none
      | none => none
theorem pure1_of {v : Option V} {x : V} {n : Nat} {hp : Heap} (h : v = some x) : pure1 n hp v = some (x, n, hp) := by subst h; rfl
theorem convK_sound {src dst : TypeId} {x : V} {n : Nat} {hp : Heap} {K : V → Nat → Heap → Option α} (h : convK P src dst x n hp K = some r) : ∃ v n' hp', convOut P src dst x n hp = some (v, n', hp') ∧ K v n' hp' = some r := by
  unfold convK at h
  split at h
  · rename_i s
    cases hs : strT P dst <;> rw [hs] at h
    · simp only [cond_false] at h
      split at h
      · rename_i e he
        obtain ⟨h1, h⟩ := cond_some h
        exact ⟨_, _, _, by simp only [convOut, hs, cond_false, he, h1, cond_true], h⟩
      · cases h
    · simp only [cond_true] at h
      obtain ⟨v, h1, h⟩ := someK_sound h
      exact ⟨_, _, _, by simp only [convOut, hs, cond_true, pure1_of h1], h⟩
  · obtain ⟨v, h1, h⟩ := someK_sound h
    exact ⟨_, _, _, by simp only [convOut, pure1_of h1], h⟩
  · rename_i hx1 hx2
    split at h
    · rename_i e he
      obtain ⟨h1, h⟩ := cond_some h
      obtain ⟨w, xs, h2, h⟩ := elsK_sound h
      have hsl : sliceOf hp x = some (w, xs) := by
        unfold elsV at h2
        split at h2
        · exact (hx1 _ rfl).elim
        · exact (cond_some h2).2
      have fin : ∀ {l : List UInt8}, (w == 1 || xs.nil) = true → strL xs = some l → convOut P src dst x n hp = some (.d (.s ⟨l.toArray⟩), n, hp) := by
        intro l h3 h4
        unfold convOut
        split
        · exact (hx1 _ rfl).elim
        · exact (hx2 _ _ rfl).elim
        · simp only [he, h1, cond_true, hsl, h3, h4, Option.map_some, pure1]
      split at h
      · obtain ⟨h3, h⟩ := cond_some h
        rw [Bool.and_eq_true] at h3
        exact ⟨_, _, _, fin h3.1 (strOf_of h3.2), h⟩
      · obtain ⟨h3, h⟩ := cond_some h
        exact ⟨_, _, _, fin (by rw [h3]; rfl) rfl, h⟩
      · cases h
    · cases h

mutual
theorem frzB_of : ∀ (v : V) {hp hp' : Heap} {d : D}, frz hp v = some (d, hp') → ∀ hp0 : Heap, (∀ id, (∃ w xs, lk hp id = .arr w xs ∨ lk hp id = .fz w xs) → ∃ w xs, lk hp0 id = .arr w xs ∨ lk hp0 id = .fz w xs) → frzB hp0 v = true ∧ (∀ id, (∃ w xs, lk hp' id = .arr w xs ∨ lk hp' id = .fz w xs) → ∃ w xs, lk hp0 id = .arr w xs ∨ lk hp0 id = .fz w xs)
  | .d x, hp, hp', d, h, hp0, h0 => by
    simp only [frz, Option.some.injEq, Prod.mk.injEq] at h
    exact ⟨rfl, by rw [← h.2]; exact h0⟩
  | .ag cs, hp, hp', d, h, hp0, h0 => by
    simp only [frz] at h
    split at h
    · rename_i h1
      injection h with h; injection h with _ h; subst h
      exact frzsB_of cs h1 hp0 h0
    · cases h
  | .fn g cs, hp, hp', d, h, hp0, h0 => by
    simp only [frz] at h
    split at h
    · rename_i h1
      injection h with h; injection h with _ h; subst h
      exact frzsB_of cs h1 hp0 h0
    · cases h
  | .ms id w off len, hp, hp', d, h, hp0, h0 => by
    simp only [frz] at h
    split at h
    · rename_i w' xs hb
      obtain ⟨h1, h⟩ := cond_some h
      injection h with h; injection h with _ h; subst h
      obtain ⟨w0, xs0, h2⟩ := h0 id ⟨w', xs, .inl hb⟩
      refine ⟨by rcases h2 with h2 | h2 <;> simp [frzB, h2], fun id' hid => ?_⟩
      rw [lk_cons] at hid
      by_cases hii : id = id'
      · subst hii; exact ⟨w0, xs0, h2⟩
      · rw [if_neg hii] at hid; exact h0 id' hid
    · rename_i w' xs hb
      obtain ⟨h1, h⟩ := cond_some h
      injection h with h; injection h with _ h; subst h
      obtain ⟨w0, xs0, h2⟩ := h0 id ⟨w', xs, .inr hb⟩
      exact ⟨by rcases h2 with h2 | h2 <;> simp [frzB, h2], h0⟩
    · cases h
  | .mf id w, hp, hp', d, h, hp0, h0 => by
    simp only [frz] at h
    split at h
    · rename_i w' xs hb
      obtain ⟨h1, h⟩ := cond_some h
      injection h with h; injection h with _ h; subst h
      obtain ⟨w0, xs0, h2⟩ := h0 id ⟨w', xs, .inl hb⟩
      refine ⟨by rcases h2 with h2 | h2 <;> simp [frzB, h2], fun id' hid => ?_⟩
      rw [lk_cons] at hid
      by_cases hii : id = id'
      · subst hii; exact ⟨w0, xs0, h2⟩
      · rw [if_neg hii] at hid; exact h0 id' hid
    · rename_i w' xs hb
      obtain ⟨h1, h⟩ := cond_some h
      injection h with h; injection h with _ h; subst h
      obtain ⟨w0, xs0, h2⟩ := h0 id ⟨w', xs, .inr hb⟩
      exact ⟨by rcases h2 with h2 | h2 <;> simp [frzB, h2], h0⟩
    · cases h
  | .fl w xs, hp, hp', d, h, hp0, h0 => by
    simp only [frz, Option.some.injEq, Prod.mk.injEq] at h
    exact ⟨rfl, by rw [← h.2]; exact h0⟩
  | .tp _, hp, hp', d, h, _, _ => by simp [frz] at h
  | .pt _ _, hp, hp', d, h, _, _ => by simp [frz] at h
  | .ep _ _ _ _, hp, hp', d, h, _, _ => by simp [frz] at h
  | .rp _ _, hp, hp', d, h, _, _ => by simp [frz] at h
  | .junk, hp, hp', d, h, _, _ => by simp [frz] at h
theorem frzsB_of : ∀ (vs : List V) {hp hp' : Heap} {ds : List D}, frzs hp vs = some (ds, hp') → ∀ hp0 : Heap, (∀ id, (∃ w xs, lk hp id = .arr w xs ∨ lk hp id = .fz w xs) → ∃ w xs, lk hp0 id = .arr w xs ∨ lk hp0 id = .fz w xs) → frzB.frzsB hp0 vs = true ∧ (∀ id, (∃ w xs, lk hp' id = .arr w xs ∨ lk hp' id = .fz w xs) → ∃ w xs, lk hp0 id = .arr w xs ∨ lk hp0 id = .fz w xs)
  | [], hp, hp', d, h, hp0, h0 => by
    simp only [frzs, Option.some.injEq, Prod.mk.injEq] at h
    exact ⟨rfl, by rw [← h.2]; exact h0⟩
  | v :: vs, hp, hp', ds, h, hp0, h0 => by
    simp only [frzs] at h
    split at h
    · rename_i h1
      split at h
      · rename_i h2
        injection h with h; injection h with _ h; subst h
        obtain ⟨i1, i2⟩ := frzB_of v h1 hp0 h0
        obtain ⟨i3, i4⟩ := frzsB_of vs h2 hp0 i2
        exact ⟨by simp only [frzB.frzsB, i1, i3, Bool.and_self], i4⟩
      · cases h
    · cases h
end
theorem frzs_none {hp : Heap} {vs : List V} (h : frzB.frzsB hp vs = false) : frzs hp vs = none := by
  cases hf : frzs hp vs with
  | none => rfl
  | some q =>
    obtain ⟨ds, hp'⟩ := q
    have := (frzsB_of vs hf hp fun _ h => h).1
    rw [h] at this; cases this

theorem callK_sound {H : HK} (hpk : ∀ g ds (α : Type) (K : D → Option α), H.pk g ds K = (H.pc g ds).bind K) {g : FuncId} {args : List V} {n : Nat} {hp : Heap} {K : V → Nat → Heap → Option α} (h : callK H g args n hp K = some r) :
    (∃ v n' hp', callV H.hs g args n hp = some (v, n', hp') ∧ K v n' hp' = some r) ∨ ((bif H.inl g then none else frzs hp args) = none ∧ H.ext g = none ∧ H.call g args n hp K = some r) := by
  unfold callK at h
  cases hb : (!H.inl g && frzB.frzsB hp args) <;> rw [hb] at h
  · simp only [cond_false] at h
    refine .inr ⟨by
      cases hi : H.inl g
      · rw [hi] at hb; simp only [Bool.not_false, Bool.true_and] at hb; exact frzs_none hb
      · rfl, ?_⟩
    split at h
    · cases h
    · rename_i he; exact ⟨he, h⟩
  · simp only [cond_true] at h
    refine .inl ?_
    obtain ⟨ds, hp', h1, h⟩ := frzsK_sound h
    have hi : H.hs.inl g = false := by
      simp only [Bool.and_eq_true, Bool.not_eq_true'] at hb
      exact hb.1
    unfold callV
    simp only [h1, hi, cond_false]
    split at h
    · rename_i f hf
      split at h
      · rename_i b q hq
        obtain ⟨h2, h⟩ := cond_some h
        have : H.hs.ext g = some (bare f) := by simp only [HK.hs, hf, Option.map_some]
        exact ⟨_, _, _, by simp only [this, bare, hq, h2, cond_true], h⟩
      · cases h
    · rename_i hf
      rw [hpk] at h
      obtain ⟨q, hq, h⟩ := Option.bind_eq_some_iff.1 h
      have h3 : H.hs.ext g = none := by simp only [HK.hs, hf, Option.map_none]
      have h4 : H.hs.pcall g ds = some q := hq
      exact ⟨_, _, _, by simp only [h3, h4], h⟩

theorem lookMK_sound {t : TypeId} {hp : Heap} {x k : V} {ok : Bool} {K : V → Option α} (h : lookMK P t hp x k ok K = some r) : ∃ v, lookM P t hp x k ok = some v ∧ K v = some r := by
  unfold lookMK at h
  unfold lookM
  split at h
  · rename_i id kd
    simp only
    split at h
    · rename_i KT VT l hl
      obtain ⟨h1, h⟩ := cond_some h
      split at h
      · rename_i kx z hk hz
        obtain ⟨h2, h⟩ := cond_some h
        simp only [hl, h1, hk, hz, h2, cond_true]
        cases ok with
        | true => exact ⟨_, rfl, h⟩
        | false => exact ⟨_, rfl, h⟩
      · cases h
    · cases h
  · cases h
theorem updMK_sound {t : TypeId} {hp : Heap} {m k x : V} {K : Heap → Option α} (h : updMK P t hp m k x K = some r) : ∃ hp', updM P t hp m k x = some hp' ∧ K hp' = some r := by
  unfold updMK at h
  unfold updM
  split at h
  · simp only
    split at h
    · rename_i KT VT l hl
      obtain ⟨h1, h⟩ := cond_some h
      split at h
      · rename_i kx v hk hv
        obtain ⟨h2, h⟩ := cond_some h
        simp only [hl, h1, hk, hv, h2, cond_true]
        exact ⟨_, rfl, h⟩
      · cases h
    · cases h
  · cases h
theorem fgetK_sound {m : Int} {K : V → Option α} : ∀ {l : List (Int × V)}, fgetK l m K = some r → K (fget l m) = some r
  | [], h => h
  | e :: l, h => by
    unfold fgetK at h
    unfold fget
    cases hb : (e.1 == m) <;> rw [hb] at h
    · exact fgetK_sound h
    · exact h
theorem keyDK_sound {k' : IntKind} {k : V} {K : Int → Option α} (h : keyDK k' k K = some r) : ∃ m, keyD k' k = some m ∧ K m = some r := by
  unfold keyDK at h
  split at h
  · obtain ⟨h1, h⟩ := cond_some h
    obtain ⟨h2, h⟩ := cond_some h
    exact ⟨_, by simp only [keyD, fkey, h1, h2, Bool.and_self, cond_true], h⟩
  · cases h
theorem lookupK_sound {t : TypeId} {hp : Heap} {x k : V} {ok : Bool} {K : V → Option α} (h : lookupK P t hp x k ok K = some r) : ∃ v, lookupV P t hp x k ok = some v ∧ K v = some r := by
  unfold lookupK at h
  unfold lookupV
  split at h
  · rename_i hf
    obtain ⟨h1, h⟩ := cond_some h
    obtain ⟨m, h2, h⟩ := keyDK_sound h
    simp only [hf, h1, h2, cond_true]
    exact ⟨_, rfl, fgetK_sound h⟩
  · rename_i hf
    simp only [hf]
    exact lookMK_sound h
theorem updateK_sound {t : TypeId} {hp : Heap} {m k x : V} {K : Heap → Option α} (h : updateK P t hp m k x K = some r) : ∃ hp', updateV P t hp m k x = some hp' ∧ K hp' = some r := by
  unfold updateK at h
  unfold updateV
  split at h
  · rename_i hf
    obtain ⟨h1, h⟩ := cond_some h
    obtain ⟨a, h2, h⟩ := keyDK_sound h
    obtain ⟨h3, h⟩ := cond_some h
    simp only [hf, h1, h2, h3, cond_true]
    exact ⟨_, rfl, h⟩
  · rename_i hf
    simp only [hf]
    exact updMK_sound h
theorem nextK_sound {isS : Bool} {it : V} {n : Nat} {hp : Heap} {K : V → Nat → Heap → Option α} (h : nextK isS it n hp K = some r) : ∃ v n' hp', nextV isS it n hp = some (v, n', hp') ∧ K v n' hp' = some r := by
  unfold nextK at h
  unfold nextV
  split at h
  · simp only
    split at h
    · rename_i s pos hl
      simp only [hl]
      cases hb : Nat.blt pos s.size <;> rw [hb] at h
      · exact ⟨_, _, _, rfl, h⟩
      · exact ⟨_, _, _, rfl, h⟩
    · cases h
  · cases h

structure HKOK (P : Program) (H : HK) : Prop where
  ext : ∀ g f, H.ext g = some f → ExtOK P g (bare f)
  pc : ∀ g ds q, H.pc g ds = some q → Enters P g ∧ PCall P H.G g ds q
  pk : ∀ g ds (α : Type) (K : D → Option α), H.pk g ds K = (H.pc g ds).bind K
  call : ∀ g xs n hp (α : Type) (K : V → Nat → Heap → Option α) r, H.call g xs n hp K = some r → ∃ v n' hp', Enters P g ∧ MCall P H.G g xs n hp (v, n', hp') ∧ K v n' hp' = some r
  code : ∀ nt c st (α : Type) (K : X → St → Option α) r, okCode nt c = true → H.code nt c st K = some r → ∃ x st', CodeOK P H.G nt c st (x, st') ∧ K x st' = some r

theorem HKOK.hs {H : HK} (h : HKOK P H) : CallsOK P H.hs where
  ext := fun g f hf => by
    simp only [HK.hs] at hf
    obtain ⟨f', h1, rfl⟩ := Option.map_eq_some_iff.1 hf
    exact h.ext g f' h1
  pcall := fun g ds q hq => h.pc g ds q hq
  call := fun g xs n hp q hq => by cases hq
  code := fun nt c st q _ hq => by cases hq
open Classical in
noncomputable def oneCall (h : Hs) (g : FuncId) (xs : List V) (n : Nat) (hp : Heap) (q : V × Nat × Heap) : Hs :=
  { h with call := fun g' xs' n' hp' => if g' = g ∧ xs' = xs ∧ n' = n ∧ hp' = hp then some q else none }

def OpOK (P : Program) (H : HK) (o : Oper) (f : Slots) (n : Nat) (hp : Heap) (q : V × Nat × Heap) : Prop := ∃ h', CallsOK P h' ∧ h'.G = H.G ∧ evOp P h' o f n hp = some q

theorem minK_sound {x y : V} {K : V → Option α} (h : minK x y K = some r) : ∃ v, minV x y = some v ∧ K v = some r := by
  unfold minK at h
  split at h
  · rename_i k a k' b
    refine ⟨_, rfl, ?_⟩
    cases hd : decide (b < a) <;> rw [hd] at h <;> exact h
  · cases h
theorem opK_plain {H : HK} (hpk : ∀ g ds (α : Type) (K : D → Option α), H.pk g ds K = (H.pc g ds).bind K) {o : Oper} {f : Slots} {n : Nat} {hp : Heap} {K : V → Nat → Heap → Option α} (h : opK P H o f n hp K = some r) :
    (∃ v n' hp', evOp P H.hs o f n hp = some (v, n', hp') ∧ K v n' hp' = some r) ∨
    (∃ c gop g xs, o.op = .call c ∧ c.callee = .value gop ∧ ((∃ cs, opV H.G f gop = .d (.fn g cs) ∧ xs = c.args.toList.map (opV H.G f) ++ cs.map .d) ∨ (∃ cs, opV H.G f gop = .fn g cs ∧ xs = c.args.toList.map (opV H.G f) ++ cs) ∨ ∃ cs, opV H.G f gop = .bm g cs ∧ xs = cs ++ c.args.toList.map (opV H.G f)) ∧
      (bif H.inl g then none else frzs hp xs) = none ∧ H.ext g = none ∧ H.call g xs n hp K = some r) ∨
    (∃ c gop id sl ps assign body, o.op = .call c ∧ c.callee = .value gop ∧ opV H.G f gop = .yd id sl ps assign body ∧ roundK H id sl ps assign body (c.args.toList.map (opV H.G f)) n hp K = some r) := by
  have hG : H.hs.G = H.G := rfl
  unfold opK at h
  split at h
  · rename_i c a b ho
    left
    split at h
    · rename_i t ht
      cases t
      · exact ⟨_, _, _, by simp only [evOp, ho, hG, ht, cond_false], h⟩
      · exact ⟨_, _, _, by simp only [evOp, ho, hG, ht, cond_true], h⟩
    · cases h
  · rename_i op t x y _ ho
    left
    obtain ⟨hn, h⟩ := cond_some h
    obtain ⟨v, h1, h⟩ := binK_sound h
    exact ⟨_, _, _, by simp only [evOp, ho, hG, hn, cond_true, pure1_of h1], h⟩
  · rename_i src dst x ho
    left
    obtain ⟨v, n', hp', h1, h⟩ := convK_sound h
    refine ⟨v, n', hp', ?_, h⟩
    unfold evOp
    simp only [ho, hG]
    exact h1
  · rename_i ho
    left
    obtain ⟨v, h1, h⟩ := indexK_sound h
    exact ⟨_, _, _, by simp only [evOp, ho, hG, pure1_of h1], h⟩
  · rename_i ho
    left
    obtain ⟨v, h1, h⟩ := indexAddrK_sound h
    exact ⟨_, _, _, by simp only [evOp, ho, hG, pure1_of h1], h⟩
  · rename_i ho
    left
    obtain ⟨v, h1, h⟩ := loadK_sound h
    exact ⟨_, _, _, by simp only [evOp, ho, hG, pure1_of h1], h⟩
  · rename_i ho
    left
    obtain ⟨v, h1, h⟩ := storeK_sound h
    exact ⟨_, _, _, by simp only [evOp, ho, hG, h1], h⟩
  · rename_i ho
    left
    obtain ⟨v, h1, h⟩ := sliceK_sound h
    exact ⟨_, _, _, by simp only [evOp, ho, hG, pure1_of h1], h⟩
  · rename_i ho
    left
    obtain ⟨v, n', hp', h1, h⟩ := makeSliceK_sound h
    exact ⟨v, n', hp', by simp only [evOp, ho, hG, h1], h⟩
  · rename_i ho
    left
    obtain ⟨v, h1, h⟩ := lookupK_sound h
    exact ⟨_, _, _, by simp only [evOp, ho, hG, pure1_of h1], h⟩
  · rename_i ho
    left
    obtain ⟨v, h1, h⟩ := updateK_sound h
    exact ⟨_, _, _, by simp only [evOp, ho, hG, h1], h⟩
  · rename_i ho
    left
    obtain ⟨v, h1, h⟩ := updateK_sound h
    exact ⟨_, _, _, by simp only [evOp, ho, hG, h1], h⟩
  · rename_i ho
    left
    obtain ⟨v, n', hp', h1, h⟩ := nextK_sound h
    exact ⟨v, n', hp', by simp only [evOp, ho, hG, h1], h⟩
  · rename_i c ho
    split at h
    · rename_i hc
      left
      split at h
      · rename_i x t hx ht
        obtain ⟨v, h1, h⟩ := someK_sound h
        exact ⟨_, _, _, by simp only [evOp, ho, hG, hc, hx, ht, pure1_of h1], h⟩
      · cases h
    · rename_i hc
      left
      split at h
      · rename_i s x t u hx ht
        obtain ⟨v, n', hp', h1, h⟩ := appendK_sound h
        exact ⟨v, n', hp', by simp only [evOp, ho, hG, hc, hx, ht, h1], h⟩
      · cases h
    · rename_i hc
      left
      split at h
      · rename_i x t hx ht
        obtain ⟨v, n', hp', h1, h⟩ := clearK_sound h
        exact ⟨v, n', hp', by simp only [evOp, ho, hG, hc, hx, ht, h1], h⟩
      · cases h
    · rename_i hc
      left
      split at h
      · rename_i x y hx
        obtain ⟨v, h1, h⟩ := minK_sound h
        exact ⟨_, _, _, by simp only [evOp, ho, hG, hc, hx, pure1_of h1], h⟩
      · cases h
    · rename_i gop hc
      split at h
      · rename_i g cs hg
        rcases callK_sound hpk h with ⟨v, n', hp', h1, h⟩ | ⟨h1, h2, h3⟩
        · left
          exact ⟨v, n', hp', by simp only [evOp, ho, hG, hc, calleeV, hg, h1], h⟩
        · right; left
          exact ⟨c, gop, g, _, ho, hc, .inl ⟨cs, hg, rfl⟩, h1, h2, h3⟩
      · rename_i g cs hg
        rcases callK_sound hpk h with ⟨v, n', hp', h1, h⟩ | ⟨h1, h2, h3⟩
        · left
          exact ⟨v, n', hp', by simp only [evOp, ho, hG, hc, calleeV, hg, h1], h⟩
        · right; left
          exact ⟨c, gop, g, _, ho, hc, .inr (.inl ⟨cs, hg, rfl⟩), h1, h2, h3⟩
      · rename_i g cs hg
        rcases callK_sound hpk h with ⟨v, n', hp', h1, h⟩ | ⟨h1, h2, h3⟩
        · left
          exact ⟨v, n', hp', by simp only [evOp, ho, hG, hc, calleeV, hg, h1], h⟩
        · right; left
          exact ⟨c, gop, g, _, ho, hc, .inr (.inr ⟨cs, hg, rfl⟩), h1, h2, h3⟩
      · rename_i id sl ps assign body hg
        right; right
        exact ⟨c, gop, id, sl, ps, assign, body, ho, hc, hg, h⟩
      · cases h
    · cases h
  · left
    split at h
    · rename_i v n' hp' h1
      exact ⟨_, _, _, h1, h⟩
    · cases h

open Classical in
noncomputable def twoCodes (h : Hs) (nt : Nat) (c1 : Code) (s1 : St) (r1 : X × St) (c2 : Code) (s2 : St) (r2 : X × St) : Hs :=
  { h with code := fun m c s => if m = nt ∧ c = c1 ∧ s = s1 then some r1 else if m = nt ∧ c = c2 ∧ s = s2 then some r2 else none }
theorem roundK_sound {H : HK} (hok : HKOK P H) {id : Nat} {sl : Slots} {ps : List Nat} {assign body : Code} {args : List V} {n : Nat} {hp : Heap} {K : V → Nat → Heap → Option α} (h : roundK H id sl ps assign body args n hp K = some r)
    :
    ∃ v n' hp' h', CallsOK P h' ∧ h'.G = H.G ∧ roundV h' id sl ps assign body args n hp = some (v, n', hp') ∧ K v n' hp' = some r := by
  have hka : okCode (ydN ps assign body) assign = true := (okCode_iff _).2 (by unfold ydN; omega)
  have hkb : okCode (ydN ps assign body) body = true := (okCode_iff _).2 (by unfold ydN; omega)
  unfold roundK at h
  split at h
  · rename_i hl
    obtain ⟨hb, h⟩ := cond_some h
    obtain ⟨x1, st1, c1, h⟩ := hok.code _ _ _ _ _ _ hka h
    cases x1 with
    | n =>
      simp only at h
      split at h
      · rename_i hl1
        obtain ⟨x2, st2, c2, h⟩ := hok.code _ _ _ _ _ _ hkb h
        split at h
        · rename_i hl2
          have hne : (⟨st1.f, st1.n, (id, .ot (.lp .busy)) :: st1.h⟩ : St) ≠ ⟨psPut ps args sl, n, hp⟩ := by
            intro e
            injection e with _ _ e
            rw [← e, lk_cons, if_pos rfl] at hl
            cases hl
          have hh : CallsOK P (twoCodes H.hs (ydN ps assign body) assign ⟨psPut ps args sl, n, hp⟩ (.n, st1) body ⟨st1.f, st1.n, (id, .ot (.lp .busy)) :: st1.h⟩ (x2, st2)) := by
            refine ⟨hok.hs.ext, hok.hs.pcall, hok.hs.call, fun nt' c s q hk hq => ?_⟩
            simp only [twoCodes] at hq
            split at hq
            · rename_i e
              obtain ⟨rfl, rfl, rfl⟩ := e
              injection hq with hq
              subst hq
              exact c1
            · split at hq
              · rename_i e
                obtain ⟨rfl, rfl, rfl⟩ := e
                injection hq with hq
                subst hq
                exact c2
              · cases hq
          have k1 : (twoCodes H.hs (ydN ps assign body) assign ⟨psPut ps args sl, n, hp⟩ (.n, st1) body ⟨st1.f, st1.n, (id, .ot (.lp .busy)) :: st1.h⟩ (x2, st2)).code (ydN ps assign body) assign ⟨psPut ps args sl, n, hp⟩ = some (.n, st1) := by
            simp [twoCodes]
          have k2 : (twoCodes H.hs (ydN ps assign body) assign ⟨psPut ps args sl, n, hp⟩ (.n, st1) body ⟨st1.f, st1.n, (id, .ot (.lp .busy)) :: st1.h⟩ (x2, st2)).code (ydN ps assign body) body ⟨st1.f, st1.n, (id, .ot (.lp .busy)) :: st1.h⟩ = some (x2, st2) := by
            simp only [twoCodes]
            rw [if_neg (fun e => hne e.2.2), if_pos ⟨trivial, trivial, trivial⟩]
          cases x2 with
          | n => exact ⟨_, _, _, _, hh, rfl, by unfold roundV; simp only [hl, hb, cond_true, k1, hl1, k2, hl2], h⟩
          | ret => exact ⟨_, _, _, _, hh, rfl, by unfold roundV; simp only [hl, hb, cond_true, k1, hl1, k2, hl2], h⟩
          | exit j => exact ⟨_, _, _, _, hh, rfl, by unfold roundV; simp only [hl, hb, cond_true, k1, hl1, k2, hl2], h⟩
        · cases h
      · cases h
    | ret => cases h
    | exit j => cases h
  · cases h
theorem opK_sound {H : HK} (hok : HKOK P H) {o : Oper} {f : Slots} {n : Nat} {hp : Heap} {K : V → Nat → Heap → Option α} (h : opK P H o f n hp K = some r) :
    ∃ v n' hp', OpOK P H o f n hp (v, n', hp') ∧ K v n' hp' = some r := by
  rcases opK_plain hok.pk h with ⟨v, n', hp', h1, h2⟩ | ⟨c, gop, g, xs, ho, hc, hx, hf, he, hcall⟩ | ⟨c, gop, id, sl, ps, assign, body, ho, hc, hg, hrd⟩
  · exact ⟨v, n', hp', ⟨H.hs, hok.hs, rfl, h1⟩, h2⟩
  · obtain ⟨v, n', hp', hent, hm, hk⟩ := hok.call g xs n hp α K r hcall
    refine ⟨v, n', hp', ⟨oneCall H.hs g xs n hp (v, n', hp'), ⟨hok.hs.ext, hok.hs.pcall, ?_, hok.hs.code⟩, rfl, ?_⟩, hk⟩
    · intro g1 xs1 n1 hp1 q hq
      simp only [oneCall] at hq
      split at hq
      · rename_i heq
        obtain ⟨rfl, rfl, rfl, rfl⟩ := heq
        injection hq with hq
        subst hq
        exact ⟨hent, hm⟩
      · cases hq
    · have hcv : callV (oneCall H.hs g xs n hp (v, n', hp')) g xs n hp = some (v, n', hp') := by
        unfold callV
        have he' : (oneCall H.hs g xs n hp (v, n', hp')).ext g = none := by simp only [oneCall, HK.hs, he, Option.map_none]
        have hf' : (bif (oneCall H.hs g xs n hp (v, n', hp')).inl g then none else frzs hp xs) = none := hf
        simp only [hf', he']
        simp [oneCall]
      have hG : (oneCall H.hs g xs n hp (v, n', hp')).G = H.G := rfl
      rcases hx with ⟨cs, hg, rfl⟩ | ⟨cs, hg, rfl⟩ | ⟨cs, hg, rfl⟩
      · simp only [evOp, ho, hc, calleeV, hG, hg]; exact hcv
      · simp only [evOp, ho, hc, calleeV, hG, hg]; exact hcv
      · simp only [evOp, ho, hc, calleeV, hG, hg]; exact hcv
  · obtain ⟨v, n', hp', h', h1, h2, h3, h4⟩ := roundK_sound hok hrd
    exact ⟨v, n', hp', ⟨h', h1, h2, by simp only [evOp, ho, hc, calleeV, h2, hg]; exact h3⟩, h4⟩
end Go.Fw
end
section
set_option linter.unusedVariables false
set_option linter.unusedSimpArgs false
namespace Go.Fw
variable {P : Program} {α : Type} {r : α}

theorem SR.told {G : Nat → Option (List D)} {lo nt : Nat} {c : Cf} {st : St} {a : Act} (h : SR G lo nt c st a) {t : Nat} {v : V} (hg : get st.f t = v) : SR G lo nt c ⟨(t, v) :: st.f, st.n, st.h⟩ a := by
  refine ⟨h.g, ⟨h.s.glob, fun i => ?_⟩, h.h, h.size, h.defers⟩
  rw [get_cons]
  by_cases hi : t = i
  · subst hi; rw [if_pos rfl, ← hg]; exact h.s.get t
  · rw [if_neg hi]; exact h.s.get i

theorem stepK_sound {H : HK} (hok : HKOK P H) {o : Oper} {st : St} {K : St → Option α} (h : stepK P H o st K = some r) : ∃ h' st', CallsOK P h' ∧ h'.G = H.G ∧ step1 P h' o st = some st' ∧ K st' = some r := by
  obtain ⟨v, n', hp', ⟨h', h1, h2, h3⟩, h4⟩ := opK_sound hok h
  exact ⟨h', _, h1, h2, by simp only [step1, h3], h4⟩

def OperSem (P : Program) (G : Nat → Option (List D)) (nt : Nat) (all : Array Oper) (o : Oper) (st st' : St) : Prop :=
  ∀ (ro : Option Nat) (lo : Nat) (c : Cf) (a : Act) (K : Act → World → Prop) (Q : Exit → Act → World → Prop), SR G lo nt c st a →
    (∀ v c', Ext c st.n c' → st.n ≤ st'.n → SR G lo nt c' st' (a.put o.dst v) → K (a.put o.dst v) c'.w) →
    if Region.wanted o (yielded all a.tmps) then o.wpIn (Fe ro) 3 P a c.w K Q else (∀ f, o.about P c.w a.eval = some f → (Fe ro).fn f) ∧ K (a.put o.dst undef) c.w

theorem operSem_of {h' : Hs} (hok : CallsOK P h') {G : Nat → Option (List D)} (hG : h'.G = G) {nt : Nat} {all : Array Oper} (hall : ∀ o ∈ all.toList, ∀ d, o.dst = some d → d < nt) {o : Oper} (hin : o ∈ all.toList) {st st0 st' : St}
    (hst : ∀ lo c a, SR G lo nt c st a → SR G lo nt c st0 a) (hn : st0.n = st.n) (he : evOper P h' all.toList o st0 = some st') : OperSem P G nt all o st st' := by
  intro ro lo c a K Q hr hK
  subst hG
  refine evOper_wp hok hall hin he (hst lo c a hr) fun v c' hx hn' hr' => ?_
  rw [hn] at hx hn'
  exact hK v c' hx hn' hr'

theorem operK_sound {H : HK} (hok : HKOK P H) {nt : Nat} {all : Array Oper} (hall : ∀ o ∈ all.toList, ∀ d, o.dst = some d → d < nt) {o : Oper} (hin : o ∈ all.toList) {st : St} {K : St → Option α} (h : operK P H all.toList o st K = some r) :
    ∃ st', OperSem P H.G nt all o st st' ∧ K st' = some r := by
  unfold operK at h
  split at h
  · rename_i hg
    obtain ⟨h', st', h1, h2, h3, h4⟩ := stepK_sound hok h
    exact ⟨st', operSem_of h1 h2 hall hin (fun _ _ _ h => h) rfl (by simp only [evOper, hg]; exact h3), h4⟩
  · rename_i j want hg
    split at h
    · rename_i t ht
      split at h
      · rename_i x hx
        have told : ∀ b : Bool, x = b → (∀ lo c a, SR H.G lo nt c st a → SR H.G lo nt c ⟨(t, .d (.b b)) :: st.f, st.n, st.h⟩ a) := fun b hb lo c a hr => hr.told (by rw [hx, hb])
        have getT : ∀ b : Bool, get ((t, V.d (.b b)) :: st.f) t = .d (.b b) := fun b => by rw [get_cons, if_pos rfl]
        have stp : ∀ b : Bool, x = b → b = want → stepK P H o ⟨(t, .d (.b b)) :: st.f, st.n, st.h⟩ K = some r → ∃ st', OperSem P H.G nt all o st st' ∧ K st' = some r := by
          intro b hb hw h
          obtain ⟨h', st', h1, h2, h3, h4⟩ := stepK_sound hok h
          refine ⟨st', operSem_of h1 h2 hall hin (told b hb) rfl ?_, h4⟩
          simp only [evOper, hg, ht, getT, hw, beq_self_eq_true, cond_true]
          rw [← hw]; exact h3
        have skp : ∀ b : Bool, x = b → (b == want) = false → K (St.put ⟨(t, .d (.b b)) :: st.f, st.n, st.h⟩ o.dst (.d (.tp []))) = some r → ∃ st', OperSem P H.G nt all o st st' ∧ K st' = some r := by
          intro b hb hw h
          refine ⟨_, operSem_of hok.hs rfl hall hin (told b hb) rfl ?_, h⟩
          simp only [evOper, hg, ht, getT, hw, cond_false]
        cases x with
        | true =>
          simp only [cond_true] at h
          cases want with
          | true => simp only [cond_true] at h; exact stp true rfl rfl h
          | false => simp only [cond_false] at h; exact skp true rfl rfl h
        | false =>
          simp only [cond_false] at h
          cases want with
          | true => simp only [cond_true] at h; exact skp false rfl rfl h
          | false => simp only [cond_false] at h; exact stp false rfl rfl h
      · rename_i hx
        refine ⟨_, operSem_of hok.hs rfl hall hin (fun _ _ _ h => h) rfl ?_, h⟩
        simp only [evOper, hg, ht, hx]
      · cases h
    · cases h

theorem opersK_sound {H : HK} (hok : HKOK P H) {nt : Nat} {all : Array Oper} (hall : ∀ o ∈ all.toList, ∀ d, o.dst = some d → d < nt) : ∀ {os : List Oper} {st : St} {K : St → Option α}, (∀ o ∈ os, o ∈ all.toList) → opersK P H all.toList os st K = some r →
    ∃ st', (∀ (ro : Option Nat) (lo : Nat) (c : Cf) (a : Act) (Q : Exit → Act → World → Prop), SR H.G lo nt c st a → (∀ a' c', Ext c st.n c' → st.n ≤ st'.n → SR H.G lo nt c' st' a' → Q .normal a' c'.w) → wpListIn (Fe ro) 3 P all Q os a c.w) ∧ K st' = some r
  | [], st, K, hin, h => ⟨st, fun ro lo c a Q hr hQ => hQ a c (.refl c _) (Nat.le_refl _) hr, h⟩
  | o :: os, st, K, hin, h => by
    simp only [opersK] at h
    obtain ⟨st1, h1, h2⟩ := operK_sound hok hall (hin o List.mem_cons_self) h
    obtain ⟨st', h3, h4⟩ := opersK_sound hok hall (fun o ho => hin o (List.mem_cons_of_mem _ ho)) h2
    refine ⟨st', fun ro lo c a Q hr hQ => ?_, h4⟩
    unfold wpListIn
    exact h1 ro lo c a _ Q hr fun v c' hx hn hr' => h3 ro lo c' _ Q hr' fun a2 c2 hx2 hn2 hr2 => hQ a2 c2 (hx.trans hx2 hn) (Nat.le_trans hn hn2) hr2

theorem hs_noCall (H : HK) : HK.hs { H with call := fun _ _ _ _ _ _ => none, code := fun _ _ _ _ _ => none } = H.hs := rfl
theorem stepK_plain {H : HK} (hpk : ∀ g ds (α : Type) (K : D → Option α), H.pk g ds K = (H.pc g ds).bind K) {o : Oper} {st : St} {K : St → Option α} (h : stepK P { H with call := fun _ _ _ _ _ _ => none, code := fun _ _ _ _ _ => none } o st K = some r) : ∃ st', step1 P H.hs o st = some st' ∧ K st' = some r := by
  unfold stepK at h
  rcases opK_plain (H := { H with call := fun _ _ _ _ _ _ => none, code := fun _ _ _ _ _ => none }) hpk h with ⟨v, n', hp', h1, h2⟩ | ⟨c, gop, g, xs, ho, hc, hx, hf, he, hcall⟩ | ⟨c, gop, id, sl, ps, assign, body, ho, hc, hg, hrd⟩
  · rw [hs_noCall] at h1
    exact ⟨_, by simp only [step1, h1], h2⟩
  · cases hcall
  · unfold roundK at hrd
    split at hrd
    · replace hrd := (cond_some hrd).2
      cases hrd
    · cases hrd

structure RcsOK (rs : List Rc) : Prop where
  one : ∀ (i : Nat) (q : Rc), rs[i]? = some q → q.s.length ≤ 1
  dist : ∀ (i j : Nat) (p q : Rc), i < j → rs[i]? = some p → rs[j]? = some q → ∀ t, t ∈ p.s.map Prod.fst → t ∉ q.s.map Prod.fst

theorem RcsOK.add {rs : List Rc} (h : RcsOK rs) {r : Rc} (h1 : r.s.length ≤ 1) (hd : ∀ q ∈ rs, ∀ t, t ∈ q.s.map Prod.fst → t ∉ r.s.map Prod.fst) : RcsOK (rs ++ [r]) := by
  have at_ : ∀ (i : Nat) (q : Rc), (rs ++ [r])[i]? = some q → (i < rs.length ∧ rs[i]? = some q) ∨ (i = rs.length ∧ q = r) := by
    intro i q hi
    rcases Nat.lt_trichotomy i rs.length with hl | hl | hl
    · exact .inl ⟨hl, by rwa [List.getElem?_append_left hl] at hi⟩
    · subst hl; simp at hi; exact .inr ⟨rfl, hi.symm⟩
    · rw [List.getElem?_eq_none (by simp; omega)] at hi; cases hi
  refine ⟨fun i q hi => ?_, fun i j p q hij hi hj t ht => ?_⟩
  · rcases at_ i q hi with ⟨_, h2⟩ | ⟨_, rfl⟩
    · exact h.one i q h2
    · exact h1
  · rcases at_ i p hi with ⟨i1, i2⟩ | ⟨i1, rfl⟩ <;> rcases at_ j q hj with ⟨j1, j2⟩ | ⟨j1, rfl⟩
    · exact h.dist i j p q hij i2 j2 t ht
    · exact hd p (List.mem_of_getElem? i2) t ht
    · omega
    · omega

theorem tell_same {rs : List Rc} (hr : RcsOK rs) {all : List Oper} {ms : List Nat} {i : Nat} {f : Slots} {S : Nat → Bool} {j t : Nat} {b : Bool} (ht : guardAt all j = some t) (htg : hasN (gslots all) t = true) (hg : get (selS S 0 rs ++ (jkGo ms (gslots all) i all 0 ++ f)) t = .d (.b b)) : tellRc t b rs = rs := by
  have hmem : ∃ o ∈ all, o.dst = some t := by
    unfold guardAt at ht
    obtain ⟨o, ho, hd⟩ := Option.bind_eq_some_iff.1 ht
    exact ⟨o, List.mem_of_getElem? ho, hd⟩
  rw [get_append] at hg
  split at hg
  · rename_i hk
    obtain ⟨k, q, h1, h2, h3⟩ := selS_keys.1 hk
    rw [selS_last h1 h2 h3 (fun j' q' hj' hq' _ => hr.dist k j' q q' hj' h1 hq' t h3)] at hg
    unfold tellRc
    have hid : ∀ p ∈ rs, { p with s := p.s.map fun x => bif x.1 == t then (x.1, V.d (.b b)) else x } = p := by
      intro p hp
      obtain ⟨i, hi⟩ := List.getElem?_of_mem hp
      have hs : (p.s.map fun x => bif x.1 == t then (x.1, V.d (.b b)) else x) = p.s := by
        by_cases hkey : t ∈ p.s.map Prod.fst
        · have hik : i = k := by
            rcases Nat.lt_trichotomy i k with hl | hl | hl
            · exact absurd h3 (hr.dist i k p q hl hi h1 t hkey)
            · exact hl
            · exact absurd hkey (hr.dist k i q p hl h1 hi t h3)
          subst hik
          rw [hi] at h1
          injection h1 with h1
          subst h1
          have hone := hr.one i p hi
          match hps : p.s, hone with
          | [], _ => rw [hps] at hkey; simp at hkey
          | [(k1, v1)], _ =>
            rw [hps] at hkey hg
            simp only [List.map_cons, List.map_nil, List.mem_singleton] at hkey
            subst hkey
            rw [get_cons, if_pos rfl] at hg
            subst hg
            simp
          | _ :: _ :: _, hl => simp at hl
        · refine (List.map_congr_left (g := id) fun x hx => ?_).trans (List.map_id _)
          have : (x.1 == t) = false := by
            cases hb : (x.1 == t)
            · rfl
            · exact absurd (List.mem_map.2 ⟨x, hx, by simpa using hb⟩) hkey
          rw [this]; rfl
      rw [hs]
    exact (List.map_congr_left (g := id) fun p hp => hid p hp).trans (List.map_id rs)
  · rcases get_jk (gs := gslots all) (ms := ms) (i := i) all 0 f t with h1 | ⟨_, h2⟩
    · rw [h1] at hg; cases hg
    · obtain ⟨o, ho, hd⟩ := hmem
      obtain ⟨k, hk⟩ := List.getElem?_of_mem ho
      have := (h2 k o hk hd).2
      rw [htg] at this
      cases this

theorem drawStepK_sound {H : HK} (hpk : ∀ g ds (α : Type) (K : D → Option α), H.pk g ds K = (H.pc g ds).bind K) {all : List Oper} {ms : List Nat} {i : Nat} {f : Slots} {n0 : Nat} {h0 : Heap} {rs : List Rc} (hr : RcsOK rs) {n : Nat} {o : Oper} (hin : o ∈ all) {K : List Rc → Rc → Option α} (h : drawStepK P H all (jkGo ms (gslots all) i all 0 ++ f) n0 h0 rs n o K = some r) :
    ∃ q, drawStep P H.hs all (jkGo ms (gslots all) i all 0 ++ f) n0 h0 rs n o = some q ∧ K rs q = some r := by
  unfold drawStepK at h
  split at h
  · rename_i A hA
    have done : ∀ st', evOper P { H.hs with call := fun _ _ _ _ => none, code := fun _ _ _ => none } all o ⟨selS (A.testBit ·) 0 rs ++ (jkGo ms (gslots all) i all 0 ++ f), n, viewH (A.testBit ·) rs h0 (seeOf H.G (selS (A.testBit ·) 0 rs ++ (jkGo ms (gslots all) i all 0 ++ f)) o)⟩ = some st' →
        (bif okRc (A.testBit ·) n0 rs (rcOf A o n (seeOf H.G (selS (A.testBit ·) 0 rs ++ (jkGo ms (gslots all) i all 0 ++ f)) o) (viewH (A.testBit ·) rs h0 (seeOf H.G (selS (A.testBit ·) 0 rs ++ (jkGo ms (gslots all) i all 0 ++ f)) o)) st') then K rs (rcOf A o n (seeOf H.G (selS (A.testBit ·) 0 rs ++ (jkGo ms (gslots all) i all 0 ++ f)) o) (viewH (A.testBit ·) rs h0 (seeOf H.G (selS (A.testBit ·) 0 rs ++ (jkGo ms (gslots all) i all 0 ++ f)) o)) st') else none) = some r → ∃ q, drawStep P H.hs all (jkGo ms (gslots all) i all 0 ++ f) n0 h0 rs n o = some q ∧ K rs q = some r := by
      intro st' h1 h2
      obtain ⟨h3, h4⟩ := cond_some h2
      refine ⟨_, ?_, h4⟩
      unfold drawStep
      rw [hA]
      show (match evOper P { H.hs with call := fun _ _ _ _ => none, code := fun _ _ _ => none } all o ⟨selS (A.testBit ·) 0 rs ++ (jkGo ms (gslots all) i all 0 ++ f), n, viewH (A.testBit ·) rs h0 (seeOf H.G (selS (A.testBit ·) 0 rs ++ (jkGo ms (gslots all) i all 0 ++ f)) o)⟩ with
        | some st' => bif okRc (A.testBit ·) n0 rs (rcOf A o n (seeOf H.G (selS (A.testBit ·) 0 rs ++ (jkGo ms (gslots all) i all 0 ++ f)) o) (viewH (A.testBit ·) rs h0 (seeOf H.G (selS (A.testBit ·) 0 rs ++ (jkGo ms (gslots all) i all 0 ++ f)) o)) st') then some (rcOf A o n (seeOf H.G (selS (A.testBit ·) 0 rs ++ (jkGo ms (gslots all) i all 0 ++ f)) o) (viewH (A.testBit ·) rs h0 (seeOf H.G (selS (A.testBit ·) 0 rs ++ (jkGo ms (gslots all) i all 0 ++ f)) o)) st') else none
        | none => none) = _
      rw [h1]
      simp only [h3, cond_true]
    have hnc : ({ H.hs with call := fun _ _ _ _ => none, code := fun _ _ _ => none } : Hs) = H.hs := rfl
    rw [hnc] at done
    simp only at h
    split at h
    · rename_i hg
      obtain ⟨st', h1, h2⟩ := stepK_plain hpk h
      exact done st' (by simp only [evOper, hg]; exact h1) h2
    · rename_i j want hg
      split at h
      · rename_i t ht
        have htg : hasN (gslots all) t = true := by
          have hm : t ∈ gslots all := List.mem_filterMap.2 ⟨o, hin, by rw [hg]; exact ht⟩
          have go : ∀ l : List Nat, t ∈ l → hasN l t = true := by
            intro l
            induction l with
            | nil => intro h; cases h
            | cons a l ih =>
              intro h
              simp only [hasN, Bool.or_eq_true, beq_iff_eq]
              rcases List.mem_cons.1 h with rfl | h
              · exact .inl rfl
              · exact .inr (ih h)
          exact go _ hm
        split at h
        · rename_i x hx
          have ev : ∀ b, x = b → (if b = want then step1 P H.hs o ⟨selS (A.testBit ·) 0 rs ++ (jkGo ms (gslots all) i all 0 ++ f), n, viewH (A.testBit ·) rs h0 (seeOf H.G (selS (A.testBit ·) 0 rs ++ (jkGo ms (gslots all) i all 0 ++ f)) o)⟩ else some (St.put ⟨selS (A.testBit ·) 0 rs ++ (jkGo ms (gslots all) i all 0 ++ f), n, viewH (A.testBit ·) rs h0 (seeOf H.G (selS (A.testBit ·) 0 rs ++ (jkGo ms (gslots all) i all 0 ++ f)) o)⟩ o.dst (.d (.tp [])))) =
              evOper P H.hs all o ⟨selS (A.testBit ·) 0 rs ++ (jkGo ms (gslots all) i all 0 ++ f), n, viewH (A.testBit ·) rs h0 (seeOf H.G (selS (A.testBit ·) 0 rs ++ (jkGo ms (gslots all) i all 0 ++ f)) o)⟩ := by
            intro b hb
            subst hb
            simp only [evOper, hg, ht, hx]
            by_cases hw : x = want
            · rw [if_pos hw, hw]; simp
            · rw [if_neg hw]
              have : (x == want) = false := by simpa using hw
              rw [this]; rfl
          cases x with
          | true =>
            simp only [cond_true] at h
            rw [tell_same hr ht htg hx] at h
            cases want with
            | true =>
              simp only [cond_true] at h
              obtain ⟨st', h1, h2⟩ := stepK_plain hpk h
              exact done st' (by rw [← ev true rfl, if_pos rfl]; exact h1) h2
            | false =>
              simp only [cond_false] at h
              exact done _ (by rw [← ev true rfl, if_neg (by simp)]) h
          | false =>
            simp only [cond_false] at h
            rw [tell_same hr ht htg hx] at h
            cases want with
            | true =>
              simp only [cond_true] at h
              exact done _ (by rw [← ev false rfl, if_neg (by simp)]) h
            | false =>
              simp only [cond_false] at h
              obtain ⟨st', h1, h2⟩ := stepK_plain hpk h
              exact done st' (by rw [← ev false rfl, if_pos rfl]; exact h1) h2
        · rename_i hx
          exact done _ (by simp only [evOper, hg, ht, hx]) h
        · cases h
      · cases h
  · cases h

theorem forceD_is {x : D} {K : D → Option α} : forceD x K = K x := by cases x <;> rfl
theorem forceV_is {x : V} {K : V → Option α} : forceV x K = K x := by
  cases x with
  | d x => exact forceD_is (x := x) (K := fun x => K (.d x))
  | _ => rfl
theorem forceS_is : ∀ {s : Slots} {K : Slots → Option α}, forceS s K = K s
  | [], K => rfl
  | (j, v) :: r, K => by simp only [forceS, forceV_is, forceS_is]
theorem forceB_is {b : Blk} {K : Blk → Option α} : forceB b K = K b := by
  cases b with
  | ot o =>
    cases o with
    | mp A B l => rfl
    | fm k l => rfl
    | it s p => rfl
    | lp st => cases st <;> rfl
  | box cs => rfl
  | arr w xs => rfl
  | fz w xs => rfl
  | dead => rfl
theorem forceH_is : ∀ {s : Heap} {K : Heap → Option α}, forceH s K = K s
  | [], K => rfl
  | (j, v) :: r, K => by simp only [forceH, forceB_is, forceH_is]
theorem forceN_is {n : Nat} {K : Nat → Option α} : forceN n K = K n := by cases n <;> rfl
theorem forceRc_is {r : Rc} {K : Rc → Option α} : forceRc r K = K r := by
  unfold forceRc
  rw [forceS_is, forceH_is, forceN_is, forceN_is, forceN_is]
  obtain ⟨A, s, p, lo, hi, see⟩ := r
  cases see <;> rfl
theorem forceRs_is : ∀ {rs : List Rc} {K : List Rc → Option α}, forceRs rs K = K rs
  | [], K => rfl
  | r :: rs, K => by simp only [forceRs, forceRc_is, forceRs_is]
theorem drawGoK_sound {H : HK} (hpk : ∀ g ds (α : Type) (K : D → Option α), H.pk g ds K = (H.pc g ds).bind K) {all : List Oper} {ms : List Nat} {f : Slots} {n0 : Nat} {h0 : Heap} : ∀ {os : List Oper} {rs : List Rc} {n : Nat} {K : List Rc → Nat → Option α}, RcsOK rs → (∀ o ∈ os, o ∈ all) → drawGoK P H all (fun i => jkGo ms (gslots all) i all 0 ++ f) n0 h0 os rs n K = some r →
    ∃ R N, drawGo P H.hs all (fun i => jkGo ms (gslots all) i all 0 ++ f) n0 h0 os rs n = some (R, N) ∧ K R N = some r
  | [], rs, n, K, hr, _, h => ⟨rs, n, rfl, h⟩
  | o :: os, rs, n, K, hr, hin, h => by
    simp only [drawGoK] at h
    obtain ⟨q, h1, h2⟩ := drawStepK_sound hpk hr (hin o List.mem_cons_self) h
    rw [forceRs_is, forceN_is] at h2
    have hk := drawStep_spec h1
    have hrs : RcsOK (rs ++ [q]) := by
      obtain ⟨st', _, hq⟩ := hk.st
      refine hr.add ?_ ?_
      · rw [hq]
        simp only [rcOf, putOf]
        cases o.dst <;> simp
      · intro p hp t ht ht'
        have h3 := hk.ok
        simp only [okRc, Bool.and_eq_true] at h3
        have h4 := h3.1.1.1.1.2
        rw [List.all_eq_true] at h4
        have h5 := h4 p hp
        rw [Bool.and_eq_true, List.all_eq_true] at h5
        obtain ⟨x, hx, rfl⟩ := List.mem_map.1 ht
        obtain ⟨y, hy, hxy⟩ := List.mem_map.1 ht'
        have h6 := h5.2 x hx
        rw [List.all_eq_true] at h6
        have h7 := h6 y hy
        rw [hxy] at h7
        simp at h7
    obtain ⟨R, N, h3, h4⟩ := drawGoK_sound hpk hrs (fun o' ho' => hin o' (List.mem_cons_of_mem _ ho')) h2
    exact ⟨R, N, by simp only [drawGo, h1]; exact h3, h4⟩
theorem drawK0_sound {H : HK} (hpk : ∀ g ds (α : Type) (K : D → Option α), H.pk g ds K = (H.pc g ds).bind K) {all : List Oper} {st : St} {K : St → Option α} (h : drawK0 P H all st K = some r) : ∃ st', evDraw0 P H.hs all st = some st' ∧ K st' = some r := by
  unfold drawK0 at h
  rw [forceNs_is] at h
  obtain ⟨R, N, h1, h2⟩ := drawGoK_sound hpk ⟨fun i q h => by simp at h, fun i j p q _ h => by simp at h⟩ (fun o ho => ho) h
  obtain ⟨h3, h4⟩ := cond_some h2
  exact ⟨_, by simp only [evDraw0, forceNs_is, h1, h3, cond_true], h4⟩
end Go.Fw
end
section
set_option linter.unusedVariables false
set_option linter.unusedSimpArgs false
namespace Go.Fw
variable {P : Program} {α : Type} {r : α}

theorem nodeAt_lt : ∀ {c : Code} {k : Nat} {b : Code}, nodeAt c k = some b → k < nodes c
  | .seq x y, k, b, h => by
    simp only [nodeAt] at h
    simp only [nodes]
    cases hb : Nat.blt k (nodes x) <;> rw [hb] at h
    · have h1 : ¬ k < nodes x := by intro h2; rw [← Nat.blt_eq] at h2; rw [h2] at hb; cases hb
      have := nodeAt_lt h
      omega
    · have : k < nodes x := by simpa [Nat.blt_eq] using hb
      omega
  | .cond _ x y, k, b, h => by
    simp only [nodeAt] at h
    simp only [nodes]
    cases h0 : (k == 0) <;> rw [h0] at h
    · have hk : k ≠ 0 := by simpa using h0
      simp only [cond_false] at h
      cases hb : Nat.blt (k - 1) (nodes x) <;> rw [hb] at h
      · have h1 : ¬ k - 1 < nodes x := by intro h2; rw [← Nat.blt_eq] at h2; rw [h2] at hb; cases hb
        have := nodeAt_lt h
        omega
      · have : k - 1 < nodes x := by simpa [Nat.blt_eq] using hb
        omega
    · have hk : k = 0 := by simpa using h0
      omega
  | .block _ x, k, b, h => by
    simp only [nodeAt] at h
    simp only [nodes]
    cases h0 : (k == 0) <;> rw [h0] at h
    · have hk : k ≠ 0 := by simpa using h0
      have := nodeAt_lt (c := x) h
      omega
    · have hk : k = 0 := by simpa using h0
      omega
  | .loop x, k, b, h => by
    simp only [nodeAt] at h
    have := (cond_some h).1
    simp only [nodes]
    have : k = 0 := by simpa using this
    omega
  | .region _ _ _, k, b, h => by
    simp only [nodeAt] at h
    have := (cond_some h).1
    simp only [nodes]
    have : k = 0 := by simpa using this
    omega
  | .skip, _, _, h => by simp [nodeAt] at h
  | .exit _, _, _, h => by simp [nodeAt] at h
  | .ret, _, _, h => by simp [nodeAt] at h
  | .scope _, _, _, h => by simp [nodeAt] at h
  | .rangeFunc .., _, _, h => by simp [nodeAt] at h
  | .label .., _, _, h => by simp [nodeAt] at h
  | .goto _, _, _, h => by simp [nodeAt] at h
theorem blt_lt {a b : Nat} (h : a < b) : Nat.blt a b = true := by rw [Nat.blt_eq]; exact h

def CodeN (P : Program) (G : Nat → Option (List D)) (nt n0 : Nat) (code : Code) (st : St) (q : X × St) : Prop :=
  n0 ≤ st.n → ∀ (ro : Option Nat), OkR ro code → ∀ (lo : Nat) (c : Cf) (a : Act) (Q : Exit → Act → World → Prop), SR G lo nt c st a → (∀ a' c', Ext c n0 c' → n0 ≤ q.2.n → SR G lo nt c' q.2 a' → Q (exitOf q.1) a' c'.w) → code.wpIn (Fe ro) 3 P Q a c.w

theorem Ext.weaken {c c' : Cf} {n m : Nat} (h : Ext c m c') (hn : n ≤ m) : Ext c n c' :=
  ⟨h.size, h.kept, h.shape, h.loops, fun id hid => h.bk id (by omega), fun id hid => h.ln id (by omega), h.K, h.G, h.keptK, h.os, h.tape, h.output, h.defs⟩

def SummOK (P : Program) (G : Nat → Option (List D)) (nt n0 : Nat) (node : Code) (s : Summ) : Prop :=
  ∀ (st : St) (α : Type) (K : X → St → Option α) (r : α), s st K = some r → ∃ x st', CodeN P G nt n0 node st (x, st') ∧ K x st' = some r
def LoopsSem (P : Program) (G : Nat → Option (List D)) (nt n0 : Nat) (L : Loops) (c : Code) (k0 : Nat) : Prop :=
  ∀ k node, nodeAt c k = some node → ∀ s, L (k0 + k) = .yes s → SummOK P G nt n0 node s

theorem CodeN.seq {G : Nat → Option (List D)} {nt n0 : Nat} {x y : Code} {st st1 : St} {q : X × St} (h1 : CodeN P G nt n0 x st (.n, st1)) (h2 : CodeN P G nt n0 y st1 q) : CodeN P G nt n0 (.seq x y) st q := by
  intro h0 ro hro lo c a Q hr hQ
  refine wpIn_seq (h1 h0 ro hro.seq.1 lo c a _ hr fun a1 c1 hx1 hn1 hr1 => ?_)
  exact h2 hn1 ro hro.seq.2 lo c1 a1 Q hr1 fun a2 c2 hx2 hn2 hr2 => hQ a2 c2 (hx1.trans hx2 (Nat.le_refl _)) hn2 hr2
theorem CodeN.seq_out {G : Nat → Option (List D)} {nt n0 : Nat} {x y : Code} {st : St} {q : X × St} (h1 : CodeN P G nt n0 x st q) (hq : q.1 ≠ .n) : CodeN P G nt n0 (.seq x y) st q := by
  intro h0 ro hro lo c a Q hr hQ
  refine wpIn_seq (h1 h0 ro hro.seq.1 lo c a _ hr fun a1 c1 hx1 hn1 hr1 => ?_)
  have := hQ a1 c1 hx1 hn1 hr1
  obtain ⟨x', st'⟩ := q
  cases x' with
  | n => exact absurd rfl hq
  | ret => exact this
  | exit id => exact this
theorem CodeN.block {G : Nat → Option (List D)} {nt n0 id : Nat} {x : Code} {st st' : St} {j : Nat} (h1 : CodeN P G nt n0 x st (.exit j, st')) : CodeN P G nt n0 (.block id x) st (bif j == id then .n else .exit j, st') := by
  intro h0 ro hro lo c a Q hr hQ
  refine wpIn_block (h1 h0 ro hro.block lo c a _ hr fun a1 c1 hx1 hn1 hr1 => ?_)
  have := hQ a1 c1 hx1 hn1 hr1
  by_cases hj : j = id
  · subst hj
    simp only [beq_self_eq_true, cond_true] at this
    simpa [exitOf, Exit.inBlock] using this
  · have hb : (j == id) = false := by simpa using hj
    simp only [hb, cond_false] at this
    simpa [exitOf, Exit.inBlock, hj] using this
theorem CodeN.block_out {G : Nat → Option (List D)} {nt n0 id : Nat} {x : Code} {st : St} {q : X × St} (h1 : CodeN P G nt n0 x st q) (hq : ∀ j, q.1 ≠ .exit j) : CodeN P G nt n0 (.block id x) st q := by
  intro h0 ro hro lo c a Q hr hQ
  refine wpIn_block (h1 h0 ro hro.block lo c a _ hr fun a1 c1 hx1 hn1 hr1 => ?_)
  have := hQ a1 c1 hx1 hn1 hr1
  obtain ⟨x', st'⟩ := q
  cases x' with
  | n => exact this
  | ret => exact this
  | exit id => exact absurd rfl (hq id)

theorem CodeOK.toN {G : Nat → Option (List D)} {nt n0 : Nat} {code : Code} {st : St} {q : X × St} (h : CodeOK P G nt code st q) : CodeN P G nt n0 code st q :=
  fun h0 ro hro lo c a Q hr hQ => h ro hro lo c a Q hr fun a' c' hx hn hr' => hQ a' c' (hx.weaken h0) (Nat.le_trans h0 hn) hr'
theorem rangeEndK_sound {f : Slots} {id n : Nat} {hp : Heap} {K : X → St → Option α} (h : rangeEndK f id n hp K = some r) (v : V) : ∃ x st', rangeEnd f id (some (v, n, hp)) = some (x, st') ∧ K x st' = some r := by
  unfold rangeEndK at h
  unfold rangeEnd
  simp only
  split at h
  · rename_i hl; simp only [hl]; exact ⟨_, _, rfl, h⟩
  · rename_i x hl
    simp only [hl]
    cases x with
    | n => exact ⟨_, _, rfl, h⟩
    | ret => exact ⟨_, _, rfl, h⟩
    | exit j => exact ⟨_, _, rfl, h⟩
  · cases h
theorem oneCall_ok {H : HK} (hok : HKOK P H) {g : FuncId} {xs : List V} {n : Nat} {hp : Heap} {q : V × Nat × Heap} (hent : Enters P g) (hm : MCall P H.G g xs n hp q) : CallsOK P (oneCall H.hs g xs n hp q) := by
  refine ⟨hok.hs.ext, hok.hs.pcall, ?_, hok.hs.code⟩
  intro g1 xs1 n1 hp1 q1 hq
  simp only [oneCall] at hq
  split at hq
  · rename_i heq
    obtain ⟨rfl, rfl, rfl, rfl⟩ := heq
    injection hq with hq
    subst hq
    exact ⟨hent, hm⟩
  · cases hq
theorem rangeK_sound {H : HK} (hok : HKOK P H) {nt n0 : Nat} {g : Operand} {ps : Array Tmp} {assign body : Code} {st : St} {K : X → St → Option α} (hk : okCode nt (.rangeFunc g ps assign body) = true)
    (h : (match opV H.G st.f g with
      | .d (.fn g cs) => H.call g (.yd st.n (aboutS ps.toList assign body st.f) ps.toList assign body :: cs.map .d) (st.n + 1) ((st.n, .ot (.lp .ready)) :: st.h) fun _ n hp => rangeEndK st.f st.n n hp K
      | .fn g cs => H.call g (.yd st.n (aboutS ps.toList assign body st.f) ps.toList assign body :: cs) (st.n + 1) ((st.n, .ot (.lp .ready)) :: st.h) fun _ n hp => rangeEndK st.f st.n n hp K
      | _ => none) = some r) : ∃ x st', CodeN P H.G nt n0 (.rangeFunc g ps assign body) st (x, st') ∧ K x st' = some r := by
  split at h
  · rename_i gf cs hg
    obtain ⟨v, n', hp', hent, hm, h2⟩ := hok.call _ _ _ _ _ _ _ h
    obtain ⟨x, st', h3, h4⟩ := rangeEndK_sound h2 v
    refine ⟨x, st', CodeOK.toN (range_wp (oneCall_ok hok hent hm) hk ?_), h4⟩
    have hG : (oneCall H.hs gf (.yd st.n (aboutS ps.toList assign body st.f) ps.toList assign body :: cs.map .d) (st.n + 1) ((st.n, .ot (.lp .ready)) :: st.h) (v, n', hp')).G = H.G := rfl
    rw [← h3]
    unfold iterV
    rw [hG, hg]
    simp [oneCall]
  · rename_i gf cs hg
    obtain ⟨v, n', hp', hent, hm, h2⟩ := hok.call _ _ _ _ _ _ _ h
    obtain ⟨x, st', h3, h4⟩ := rangeEndK_sound h2 v
    refine ⟨x, st', CodeOK.toN (range_wp (oneCall_ok hok hent hm) hk ?_), h4⟩
    have hG : (oneCall H.hs gf (.yd st.n (aboutS ps.toList assign body st.f) ps.toList assign body :: cs) (st.n + 1) ((st.n, .ot (.lp .ready)) :: st.h) (v, n', hp')).G = H.G := rfl
    rw [← h3]
    unfold iterV
    rw [hG, hg]
    simp [oneCall]
  · cases h
theorem evK_sound {H : HK} (hok : HKOK P H) {L : Loops} {nt n0 : Nat} : ∀ (c : Code) (k : Nat) (st : St) (K : X → St → Option α), okCode nt c = true → LoopsSem P H.G nt n0 L c k → evK P H L c k st K = some r →
    ∃ x st', CodeN P H.G nt n0 c st (x, st') ∧ K x st' = some r
  | .skip, k, st, K, hk, hL, h => ⟨.n, st, fun h0 ro hro lo c a Q hr hQ => wpIn_skip (hQ a c (.refl c _) h0 hr), h⟩
  | .region id ops b, k, st, K, hk, hL, h => by
    simp only [evK] at h
    split at h
    · rename_i s hs
      exact hL 0 _ rfl s hs st _ K r h
    · have hall : ∀ o ∈ ops.toList, ∀ d, o.dst = some d → d < nt := by
        intro o ho d hd
        simp only [okCode, List.all_eq_true] at hk
        have := hk o ho
        rw [hd] at this
        exact Nat.le_of_ble_eq_true this
      split at h
      · obtain ⟨st', h1, h2⟩ := opersK_sound hok hall (fun o ho => ho) h
        exact ⟨.n, st', fun h0 ro hro lo c a Q hr hQ => wpIn_region_list (h1 ro lo c a Q hr fun a' c' hx hn hr' => hQ a' c' (hx.weaken h0) (Nat.le_trans h0 hn) hr'), h2⟩
      · obtain ⟨hm, h⟩ := cond_some h
        unfold drawK at h
        split at h
        · rename_i pre L hl
          obtain ⟨ha, hL⟩ := lastCall_is hl
          obtain ⟨st1, h1, h2⟩ := drawK0_sound hok.pk h
          obtain ⟨st', h3, h4⟩ := opersK_sound hok hall (fun o ho => by rw [List.mem_singleton] at ho; subst ho; rw [ha]; simp) h2
          exact ⟨.n, st', fun h0 ro hro lo c a Q hr hQ => region_last hm ha hL (evDraw0_any hok.hs (all := pre.toArray) (fun o ho d hd => hall o (by rw [ha]; exact List.mem_append_left _ (by simpa using ho)) d hd) (st' := st1) (by simpa using h1) hr fun a1 c1 hx1 hn1 hr1 =>
            h3 ro lo c1 a1 Q hr1 fun a' c' hx hn hr' => hQ a' c' ((hx1.trans hx hn1).weaken h0) (Nat.le_trans h0 (Nat.le_trans hn1 hn)) hr'), h4⟩
        obtain ⟨st', h1, h2⟩ := drawK0_sound hok.pk h
        exact ⟨.n, st', fun h0 ro hro lo c a Q hr hQ => wpIn_region_any hm (evDraw0_any hok.hs hall h1 hr fun a' c' hx hn hr' => hQ a' c' (hx.weaken h0) (Nat.le_trans h0 hn) hr'), h2⟩
  | .seq x y, k, st, K, hk, hL, h => by
    simp only [okCode, Bool.and_eq_true] at hk
    simp only [evK] at h
    have hLx : LoopsSem P H.G nt n0 L x k := fun j b hb => hL j b (by simp only [nodeAt, blt_lt (nodeAt_lt hb), cond_true, hb])
    have hLy : LoopsSem P H.G nt n0 L y (k + nodes x) := fun j b hb s hl => by
      refine hL (nodes x + j) b ?_ s (by rw [← hl]; congr 1; omega)
      have : Nat.blt (nodes x + j) (nodes x) = false := by
        cases hb : Nat.blt (nodes x + j) (nodes x)
        · rfl
        · rw [Nat.blt_eq] at hb; omega
      simp only [nodeAt, this, cond_false]
      rw [← hb]; congr 1; omega
    obtain ⟨x1, st1, h1, h2⟩ := evK_sound hok x k st _ hk.1 hLx h
    cases x1 with
    | n =>
      obtain ⟨x2, st2, h3, h4⟩ := evK_sound hok y _ st1 _ hk.2 hLy h2
      exact ⟨x2, st2, h1.seq h3, h4⟩
    | ret => exact ⟨_, st1, h1.seq_out (by simp), h2⟩
    | exit j => exact ⟨_, st1, h1.seq_out (by simp), h2⟩
  | .cond co x y, k, st, K, hk, hL, h => by
    simp only [okCode, Bool.and_eq_true] at hk
    simp only [evK] at h
    split at h
    · rename_i s hs
      exact hL 0 _ rfl s hs st _ K r h
    · have hLx : LoopsSem P H.G nt n0 L x (k + 1) := fun j b hb s hl => hL (1 + j) b (by
          have e1 : (1 + j == 0) = false := by simp
          have e2 : 1 + j - 1 = j := by omega
          simp only [nodeAt, e1, cond_false, e2, blt_lt (nodeAt_lt hb), cond_true, hb]) s (by rw [← hl]; congr 1; omega)
      have hLy : LoopsSem P H.G nt n0 L y (k + 1 + nodes x) := fun j b hb s hl => by
        refine hL (1 + nodes x + j) b ?_ s (by rw [← hl]; congr 1; omega)
        have e1 : (1 + nodes x + j == 0) = false := by
          simp
        have e2 : 1 + nodes x + j - 1 = nodes x + j := by omega
        have e3 : Nat.blt (nodes x + j) (nodes x) = false := by
          cases hb : Nat.blt (nodes x + j) (nodes x)
          · rfl
          · rw [Nat.blt_eq] at hb; omega
        simp only [nodeAt, e1, e2, e3, cond_false]
        rw [← hb]; congr 1; omega
      split at h
      · rename_i t ht
        have cnd : ∀ (lo : Nat) (c : Cf) (a : Act), SR H.G lo nt c st a → a.eval co = .bool t := by
          intro lo c a hr
          have hv := opV_rel hr.s co
          rw [hr.g, ht] at hv
          generalize a.eval co = v at hv
          cases hv.inv_d
          rfl
        cases t with
        | true =>
          obtain ⟨x1, st1, h1, h2⟩ := evK_sound hok x _ st _ hk.1 hLx h
          exact ⟨x1, st1, fun h0 ro hro lo c a Q hr hQ => wpIn_cond (cnd lo c a hr) (h1 h0 ro hro.cond.1 lo c a Q hr hQ), h2⟩
        | false =>
          obtain ⟨x1, st1, h1, h2⟩ := evK_sound hok y _ st _ hk.2 hLy h
          exact ⟨x1, st1, fun h0 ro hro lo c a Q hr hQ => wpIn_cond (cnd lo c a hr) (h1 h0 ro hro.cond.2 lo c a Q hr hQ), h2⟩
      · cases h
  | .block id x, k, st, K, hk, hL, h => by
    simp only [okCode] at hk
    simp only [evK] at h
    split at h
    · rename_i s hs
      exact hL 0 _ rfl s hs st _ K r h
    · have hLx : LoopsSem P H.G nt n0 L x (k + 1) := fun j b hb s hl => hL (1 + j) b (by
          have e1 : (1 + j == 0) = false := by simp
          have e2 : 1 + j - 1 = j := by omega
          simp only [nodeAt, e1, cond_false, e2, hb]) s (by rw [← hl]; congr 1; omega)
      obtain ⟨x1, st1, h1, h2⟩ := evK_sound hok x (k + 1) st _ hk hLx h
      cases x1 with
      | n => exact ⟨_, st1, h1.block_out (by simp), h2⟩
      | ret => exact ⟨_, st1, h1.block_out (by simp), h2⟩
      | exit j =>
        refine ⟨_, st1, h1.block, ?_⟩
        cases hb : (j == id) <;> simp only [hb, cond_true, cond_false] at h2 ⊢ <;> exact h2
  | .loop x, k, st, K, hk, hL, h => by
    simp only [evK] at h
    split at h
    · rename_i s hs
      exact hL 0 _ rfl s hs st _ K r h
    · cases h
  | .exit id, k, st, K, hk, hL, h => ⟨.exit id, st, fun h0 ro hro lo c a Q hr hQ => wpIn_exit (hQ a c (.refl c _) h0 hr), h⟩
  | .ret, k, st, K, hk, hL, h => ⟨.ret, st, fun h0 ro hro lo c a Q hr hQ => wpIn_ret (hQ a c (.refl c _) h0 hr), h⟩
  | .scope _, k, st, K, hk, hL, h => by simp [evK] at h
  | .rangeFunc g ps assign body, k, st, K, hk, hL, h => by
    simp only [evK] at h
    exact rangeK_sound hok hk (cond_some h).2
  | .label .., k, st, K, hk, hL, h => by simp [evK] at h
  | .goto _, k, st, K, hk, hL, h => by simp [evK] at h

theorem mcall_of {G : Nat → Option (List D)} {g : FuncId} {d : Fd} (hd : fnOf P g = some d) {xs : List V} (hle : xs.length ≤ d.nt) {n : Nat} {hp : Heap} {x : X} {st : St} (hx : x = .n ∨ x = .ret)
    (hc : CodeN P G d.nt n d.code ⟨zipArgs 0 xs, n, hp⟩ (x, st)) {vs' : List V} (hres : ress P st d.res = some vs') : Enters P g ∧ MCall P G g xs n hp (oneV vs', st.n, st.h) := by
  obtain ⟨fn, h1, h2, h3, h4, h5, h6⟩ := fnOf_spec hd
  refine ⟨⟨fn, h1, h3, by rw [h2]; rfl⟩, ?_⟩
  intro c vs hG hg hH hL
  have hsz : vs.size = xs.length := by have := hL.1; simpa using this
  have hr0 : SR G c.w.heap.size d.nt c ⟨zipArgs 0 xs, n, hp⟩ { tmps := vs ++ Array.replicate (fn.ntmps - vs.size) undef, defers := [] } := by
    refine ⟨hG, ⟨hg, fun i => ?_⟩, hH, by simp; omega, .nil (Nat.le_refl _)⟩
    rw [zipArgs_get, if_pos (Nat.zero_le _)]
    simp only [Nat.sub_zero]
    by_cases hi : i < xs.length
    · obtain ⟨u, hu, hru⟩ := hL.2 i _ (List.getElem?_eq_getElem hi)
      rw [List.getElem?_eq_getElem hi]
      rw [Array.getElem?_toList] at hu
      rw [Array.getD_eq_getD_getElem?, Array.getElem?_append, if_pos (by omega), hu]
      exact hru
    · rw [List.getElem?_eq_none (by omega)]
      exact .junk _
  refine (callsIn_wide (n := 3)).1 (callsIn_of_wp_marks (F := .wide) h1 h2 trivial ?_ rfl)
  have finish : ∀ (a' : Act) (c' : Cf), Ext c n c' → n ≤ st.n → SR G c.w.heap.size d.nt c' st a' →
      LeavesInM .wide 3 P fn a'.tmps (fun e w' => ∃ v' c'', e = .returned v' ∧ w' = c''.w ∧ Outs c n (oneV vs', st.n, st.h) v' c'') a'.defers .returning c'.w := by
    intro a' c' hx hn hr
    rw [← h6] at hres
    refine marks_leave hr hx hH.lowK fun c1 hx1 hr1 => ?_
    obtain ⟨u, hu, hru⟩ := results_sound (P := P) hr1 hres
    exact ⟨u, hu, u, c1, rfl, rfl, hx1, hn, hr1.h, hru⟩
  rcases hx with rfl | rfl
  · exact hc (Nat.le_refl _) none (.inl rfl) _ c _ _ hr0 fun a' c' hx hn hr => finish a' c' hx hn hr
  · exact hc (Nat.le_refl _) none (.inl rfl) _ c _ _ hr0 fun a' c' hx hn hr => finish a' c' hx hn hr

theorem pcall_of {G : Nat → Option (List D)} {g : FuncId} {ds : List D} {v : V} {n : Nat} {hp : Heap} {q : D} (hm : MCall P G g (ds.map .d) 0 [] (v, n, hp)) (he : expD hp v = some q) : PCall P G g ds q := by
  intro w I K vs hg hI hK hd hsz hargs
  have hH : RelH ⟨w, I, K, fun _ => 0, fun _ => 0, G⟩ 0 [] := relH_empty hI hK hd
  refine (hm ⟨w, I, K, fun _ => 0, fun _ => 0, G⟩ vs rfl hg hH ⟨by simpa using hsz, fun j x hj => ?_⟩).mono ?_
  · simp only [List.getElem?_map] at hj
    obtain ⟨d, hd', rfl⟩ := Option.map_eq_some_iff.1 hj
    have hlt := (List.getElem?_eq_some_iff.1 hd').1
    refine ⟨vs.getD j undef, ?_, .d _ _ (hargs j d hd')⟩
    rw [Array.getElem?_toList, Array.getD_eq_getD_getElem?, Array.getElem?_eq_getElem (by omega)]; rfl
  · rintro e w' ⟨u, c', rfl, rfl, hO⟩
    obtain ⟨c2, hp2, hF, hX⟩ := expD_sound he hO.heap hO.rel
    have hx := hO.ext.trans hF.ext hO.le
    have hw : c2.w = c'.w := hF.w
    refine ⟨u, c2.I, rfl, hO.ext.size, ?_, ?_, fun b hb => ⟨?_, ?_⟩, ?_, hO.ext.os, hO.ext.tape, hO.ext.output, ?_⟩
    · have := hx.kept; rw [hw] at this; exact this
    · exact hO.ext.keptK
    · have := hF.heap.low b hb; rw [hw] at this; exact this
    · have := hF.heap.disj b hb
      rw [hx.K] at this
      exact this
    · exact hO.ext.shape
    · have hKK : c2.K = K := hx.K
      rw [hw, hKK] at hX
      exact hX

theorem resK_sound {st : St} : ∀ {rs : List ResultVar} {K : List V → Option α}, resK P st rs K = some r → ∃ vs, ress P st rs = some vs ∧ K vs = some r
  | [], K, h => ⟨[], rfl, h⟩
  | .tmp t :: rs, K, h => by
    simp only [resK] at h
    obtain ⟨vs, h1, h2⟩ := resK_sound h
    exact ⟨_, by simp only [ress, resV, h1], h2⟩
  | .cell a t :: rs, K, h => by
    simp only [resK] at h
    obtain ⟨v, h0, h⟩ := loadK_sound h
    obtain ⟨vs, h1, h2⟩ := resK_sound h
    exact ⟨_, by simp only [ress, resV, h0, h1], h2⟩

def LoopsOf (P : Program) (G : Nat → Option (List D)) (n0 : Nat) (L : Loops) (g : FuncId) : Prop := ∀ d, fnOf P g = some d → LoopsSem P G d.nt n0 L d.code 0

theorem cutVK_sound {v : V} {n : Nat} {hp : Heap} {K : V → Nat → Heap → Option α} (h : cutVK v n hp K = some r) : (∀ (G : Nat → Option (List D)) (g : FuncId) (xs : List V) (m : Nat) {hp0 : Heap}, MCall P G g xs m hp0 (v, n, hp) → MCall P G g xs m hp0 (cutR (v, n, hp))) ∧ K (cutR (v, n, hp)).1 (cutR (v, n, hp)).2.1 (cutR (v, n, hp)).2.2 = some r := by
  refine ⟨fun G g xs m hp0 hm => hm.cut, ?_⟩
  unfold cutVK at h
  unfold cutR
  split at h
  · rename_i id w off len
    simp only
    cases hb : (off == 0) <;> rw [hb] at h
    · exact h
    · simp only [cond_true] at h ⊢
      split at h
      · rename_i w' xs hl
        obtain ⟨hc, h⟩ := cond_some h
        simp only [hl, hc, cond_true]
        exact h
      · rename_i hne
        split
        · rename_i w' xs hl
          exact (hne _ _ hl).elim
        · exact h
  · rename_i hne
    split
    · rename_i id w off len hv
      exact (hne _ _ _ _ hv).elim
    · exact h
theorem bodyK_sound {H : HK} (hok : HKOK P H) {L : Loops} {g : FuncId} {n : Nat} (hL : LoopsOf P H.G n L g) {xs : List V} {hp : Heap} {K : V → Nat → Heap → Option α} (h : bodyK P H L g xs n hp K = some r) :
    ∃ v n' hp', Enters P g ∧ MCall P H.G g xs n hp (v, n', hp') ∧ K v n' hp' = some r := by
  unfold bodyK at h
  split at h
  · rename_i d hd
    obtain ⟨fn, h1, h2, h3, h4, h5, h6⟩ := fnOf_spec hd
    obtain ⟨hle, h⟩ := cond_some h
    obtain ⟨x, st', hc, h⟩ := evK_sound hok d.code 0 _ _ h4 (hL d hd) h
    cases x with
    | n =>
      simp only [finK] at h
      obtain ⟨vs, h7, h8⟩ := resK_sound h
      obtain ⟨e, m⟩ := mcall_of hd (Nat.le_of_ble_eq_true hle) (.inl rfl) hc h7
      obtain ⟨h9, h10⟩ := cutVK_sound h8
      exact ⟨_, _, _, e, h9 _ _ _ _ m, h10⟩
    | ret =>
      simp only [finK] at h
      obtain ⟨vs, h7, h8⟩ := resK_sound h
      obtain ⟨e, m⟩ := mcall_of hd (Nat.le_of_ble_eq_true hle) (.inr rfl) hc h7
      obtain ⟨h9, h10⟩ := cutVK_sound h8
      exact ⟨_, _, _, e, h9 _ _ _ _ m, h10⟩
    | exit j => cases h
  · cases h

theorem outK_sound {hp : Heap} {v : V} {K : D → Heap → Option α} (h : outK hp v K = some r) : ∃ d hp', expTop hp v = some (d, hp') ∧ K d hp' = some r := by
  have main : frzK hp v K = some r → (∀ d hp', frz hp v = some (d, hp') → expTop hp v = some (d, hp')) → ∃ d hp', expTop hp v = some (d, hp') ∧ K d hp' = some r := by
    intro h1 h2
    obtain ⟨d, hp', h3, h4⟩ := frzK_sound h1
    exact ⟨d, hp', h2 d hp' h3, h4⟩
  cases v with
  | ms id w off len =>
    cases hb : lk hp id with
    | arr w' xs =>
      simp only [outK, hb] at h
      cases hc : (off == 0 && len == xs.len && w == w') <;> rw [hc] at h
      · exact main h fun d hp' h1 => by simp only [expTop, hb, hc, cond_false]; exact h1
      · exact ⟨_, _, by simp only [expTop, hb, hc, cond_true], h⟩
    | _ =>
      simp only [outK, hb] at h
      exact main h fun d hp' h1 => by simp only [expTop, hb]; exact h1
  | mf id w =>
    cases hb : lk hp id with
    | arr w' xs =>
      simp only [outK, hb] at h
      obtain ⟨hc, h⟩ := cond_some h
      exact ⟨_, _, by simp only [expTop, hb, hc, cond_true], h⟩
    | _ =>
      simp only [outK, hb] at h
      exact main h fun d hp' h1 => by simp only [expTop, hb]; exact h1
  | _ => exact main h fun d hp' h1 => h1
theorem outsK_sound : ∀ {vs : List V} {hp : Heap} {K : List D → Heap → Option α}, outsK vs hp K = some r → ∃ ds hp', expTops hp vs = some (ds, hp') ∧ K ds hp' = some r
  | [], hp, K, h => ⟨_, _, rfl, h⟩
  | v :: vs, hp, K, h => by
    simp only [outsK] at h
    obtain ⟨d, hp', h1, h2⟩ := outK_sound h
    obtain ⟨ds, hp'', h3, h4⟩ := outsK_sound h2
    exact ⟨_, _, by simp only [expTops, h1, h3], h4⟩
def RowOK (P : Program) (G : Nat → Option (List D)) (w : Row) : Prop := ∀ ds a q, w.dec ds = some a → w.F a = some q → Enters P w.g ∧ PCall P G w.g ds (w.enc q)
def TabOK (P : Program) (G : Nat → Option (List D)) (T : FuncId → List D → Option D) : Prop := ∀ g ds q, T g ds = some q → Enters P g ∧ PCall P G g ds q
theorem tabK_tabF : ∀ (ws : List Row) (g : FuncId) (ds : List D) (α : Type) (K : D → Option α), tabK ws g ds K = (tabF ws g ds).bind K
  | [], _, _, _, _ => rfl
  | w :: ws, g, ds, α, K => by
    simp only [tabK, tabF]
    cases (w.g == g)
    · exact tabK_tabF ws g ds α K
    · simp only [cond_true]
      split
      · rename_i a _
        cases w.F a with
        | none => rfl
        | some r => exact w.spl_ok r α K
      · exact tabK_tabF ws g ds α K
theorem tab_ok {G : Nat → Option (List D)} : ∀ {ws : List Row}, (∀ w ∈ ws, RowOK P G w) → TabOK P G (tabF ws)
  | [], _, g, ds, q, h => by cases h
  | w :: ws, hw, g, ds, q, h => by
    simp only [tabF] at h
    cases hb : (w.g == g) <;> rw [hb] at h
    · exact tab_ok (fun w hm => hw w (List.mem_cons_of_mem _ hm)) g ds q h
    · have hg : w.g = g := by simpa using hb
      subst hg
      simp only [cond_true] at h
      split at h
      · rename_i a ha
        split at h
        · rename_i r hr
          injection h with h
          subst h
          exact hw w List.mem_cons_self ds a r ha hr
        · cases h
      · exact tab_ok (fun w hm => hw w (List.mem_cons_of_mem _ hm)) w.g ds q h

theorem ownK_sound {hp : Heap} {v : V} {K : Nat → Nat → Ls → Option α} (h : ownK hp v K = some r) : ∃ id w xs, ownL hp v = some (id, w, xs) ∧ K id w xs = some r := by
  unfold ownK at h
  split at h
  · split at h
    · rename_i id w w' xs hl
      obtain ⟨h1, h2⟩ := cond_some h
      exact ⟨_, _, _, by simp only [ownL, hl, h1, cond_true], h2⟩
    · cases h
  · split at h
    · rename_i id w off len w' xs hl
      obtain ⟨h1, h2⟩ := cond_some h
      exact ⟨_, _, _, by simp only [ownL, hl, h1, cond_true], h2⟩
    · cases h
  · cases h
theorem insK_sound {e : TypeId} {args : List V} {n : Nat} {hp : Heap} {K : V → Nat → Heap → Option α} (h : insK P e args n hp K = some r) : ∃ v n' hp', insV P e args n hp = some (v, n', hp') ∧ K v n' hp' = some r := by
  unfold insK at h
  split at h
  · rename_i s k v
    obtain ⟨iv, wv, ys, h1, h⟩ := ownK_sound h
    obtain ⟨hc, h⟩ := cond_some h
    split at h
    · obtain ⟨h2, h⟩ := cond_some h
      exact ⟨_, _, _, by simp only [insV, h1, hc, h2, cond_true], h⟩
    · obtain ⟨h2, h⟩ := cond_some h
      exact ⟨_, _, _, by simp only [insV, h1, hc, h2, cond_true], h⟩
    · rename_i hn1 hn2
      obtain ⟨id, w, xs, h2, h⟩ := ownK_sound h
      obtain ⟨h3, h⟩ := cond_some h
      refine ⟨_, _, _, ?_, h⟩
      unfold insV
      simp only [h1, hc, cond_true]
      simp only [h2, h3, cond_true]
  · cases h
theorem delK_sound {e : TypeId} {args : List V} {n : Nat} {hp : Heap} {K : V → Nat → Heap → Option α} (h : delK P e args n hp K = some r) : ∃ v n' hp', delV P e args n hp = some (v, n', hp') ∧ K v n' hp' = some r := by
  unfold delK at h
  split at h
  · obtain ⟨id, w, xs, h1, h⟩ := ownK_sound h
    obtain ⟨hc, h⟩ := cond_some h
    exact ⟨_, _, _, by simp only [delV, h1, hc, cond_true], h⟩
  · cases h
theorem hk_ok {G : Nat → Option (List D)} {E : FuncId → Option (List D → Option (Bool × D))} {J : FuncId → Option TypeId} {T : List Row} {L : FuncId → Nat → Loops} (hE : ∀ g f, E g = some f → ExtOK P g (bare f)) (hJ : InsAll P J) (hT : TabOK P G (tabF T)) (hL : ∀ g n0, LoopsOf P G n0 (L g n0) g) : ∀ k, HKOK P (hk P G E J T L k)
  | 0 => ⟨hE, hT, tabK_tabF T, fun g xs n hp α K r h => (by cases h), fun nt c st α K r hk h => (by cases h)⟩
  | k + 1 => by
    have ih := hk_ok hE hJ hT hL k
    have hG : (hk P G E J T L k).G = G := by cases k <;> rfl
    refine ⟨hE, hT, tabK_tabF T, fun g xs n hp α K r h => ?_, fun nt c st α K r hk h => ?_⟩
    rotate_left
    · have h' : evK P (Fw.hk P G E J T L k) (fun _ => .no) c 0 st K = some r := h
      obtain ⟨x, st', h1, h2⟩ := evK_sound ih (n0 := st.n) c 0 st K hk (fun j b hb s hs => by cases hs) h'
      rw [hG] at h1
      exact ⟨x, st', fun ro hro lo c a Q hr hQ => h1 (Nat.le_refl _) ro hro lo c a Q hr hQ, h2⟩
    have h0 : callJK P J (fun _ K => bodyK P (hk P G E J T L k) (L g n) g xs n hp K) g xs n hp K = some r := h
    unfold callJK at h0
    split at h0
    · rename_i e he
      obtain ⟨hj1, hj2⟩ : (e < 1000000 → InsC P g e ∧ P.cellsOf e ≠ 1) ∧ (¬ e < 1000000 → DelC P g (e - 1000000) ∧ P.cellsOf (e - 1000000) ≠ 1) := hJ g e he
      cases hlt : Nat.blt e 1000000
      · rw [hlt] at h0
        obtain ⟨v, n', hp', h1, h2⟩ := delK_sound h0
        obtain ⟨h3, h4⟩ := delV_sound (G := G) (hj2 (fun h => by rw [← Nat.blt_eq, hlt] at h; cases h)) h1
        exact ⟨v, n', hp', h3, h4, h2⟩
      · rw [hlt] at h0
        obtain ⟨v, n', hp', h1, h2⟩ := insK_sound h0
        obtain ⟨h3, h4⟩ := insV_sound (G := G) (hj1 (by rw [Nat.blt_eq] at hlt; exact hlt)) h1
        exact ⟨v, n', hp', h3, h4, h2⟩
    have h' : bodyK P (hk P G E J T L k) (L g n) g xs n hp K = some r := h0
    have hl : LoopsOf P (hk P G E J T L k).G n (L g n) g := by rw [hG]; exact hL g n
    obtain ⟨v, n', hp', h1, h2, h3⟩ := bodyK_sound ih hl h'
    rw [hG] at h2
    exact ⟨v, n', hp', h1, h2, h3⟩
def noL : Loops := fun _ => .no
def noLoops : FuncId → Nat → Loops := fun _ _ => noL
theorem noL_ok {G : Nat → Option (List D)} {nt n0 : Nat} {c : Code} {k : Nat} : LoopsSem P G nt n0 noL c k := fun j b hb s h => by cases h
theorem noLoops_ok {G : Nat → Option (List D)} (g : FuncId) (n0 : Nat) : LoopsOf P G n0 (noLoops g n0) g := fun d hd => noL_ok
end Go.Fw
end
section
set_option linter.unusedVariables false
set_option linter.unusedSimpArgs false
namespace Go.Fw
variable {P : Program}

mutual
def renV (σ : Nat → Nat) : V → V
  | .d x => .d x
  | .ag cs => .ag (renVs σ cs)
  | .tp cs => .tp (renVs σ cs)
  | .fn f cs => .fn f (renVs σ cs)
  | .bm f cs => .bm f (renVs σ cs)
  | .pt id o => .pt (σ id) o
  | .mf id w => .mf (σ id) w
  | .ms id w o l => .ms (σ id) w o l
  | .ep id w k c => .ep (σ id) w k c
  | .rp cs c => .rp cs c
  | .fl w xs => .fl w xs
  | .mp id => .mp (σ id)
  | .yd id sl ps a b => .yd (σ id) (renSl σ sl) ps a b
  | .junk => .junk
def renVs (σ : Nat → Nat) : List V → List V
  | [] => []
  | v :: vs => renV σ v :: renVs σ vs
def renSl (σ : Nat → Nat) : List (Nat × V) → List (Nat × V)
  | [] => []
  | (j, v) :: vs => (j, renV σ v) :: renSl σ vs
end
theorem renSl_get (σ : Nat → Nat) : ∀ (cs : List (Nat × V)) (j : Nat), (renSl σ cs)[j]? = (cs[j]?).map fun x => (x.1, renV σ x.2)
  | [], j => by simp [renSl]
  | (k, v) :: vs, 0 => by simp [renSl]
  | (k, v) :: vs, j + 1 => by simp [renSl, renSl_get σ vs j]
def renFl (σ : Nat → Nat) : List (Int × V) → List (Int × V)
  | [] => []
  | (k, v) :: r => (k, renV σ v) :: renFl σ r
theorem renFl_get (σ : Nat → Nat) : ∀ (cs : List (Int × V)) (j : Nat), (renFl σ cs)[j]? = (cs[j]?).map fun x => (x.1, renV σ x.2)
  | [], j => by simp [renFl]
  | (k, v) :: vs, 0 => by simp [renFl]
  | (k, v) :: vs, j + 1 => by simp [renFl, renFl_get σ vs j]
theorem renFl_len (σ : Nat → Nat) : ∀ (cs : List (Int × V)), (renFl σ cs).length = cs.length
  | [] => rfl
  | (k, v) :: vs => by simp [renFl, renFl_len σ vs]
def renB (σ : Nat → Nat) : Blk → Blk
  | .box cs => .box (renVs σ cs)
  | .ot (.fm k l) => .ot (.fm k (renFl σ l))
  | b => b

theorem renVs_get (σ : Nat → Nat) : ∀ (cs : List V) (j : Nat), (renVs σ cs)[j]? = (cs[j]?).map (renV σ)
  | [], j => by simp [renVs]
  | v :: vs, 0 => by simp [renVs]
  | v :: vs, j + 1 => by simp [renVs, renVs_get σ vs j]
theorem renVs_len (σ : Nat → Nat) : ∀ (cs : List V), (renVs σ cs).length = cs.length
  | [] => rfl
  | v :: vs => by simp [renVs, renVs_len σ vs]

theorem RelV.unren {c c' : Cf} {n n' : Nat} {σ : Nat → Nat} (hw : c'.w = c.w) (hI : c'.I = c.I) (hb : ∀ id, id < n' → c'.bk id = c.bk (σ id) ∧ c'.ln id = c.ln (σ id)) : ∀ (x : V) (v : Value), RelV c n (renV σ x) v → Fw.inB (fun id => Nat.blt id n') x = true → RelV c' n' x v
  | .d x, v, h, _ => by
    simp only [renV] at h
    have := h.inv_d
    exact .d x v (by rw [hw, hI]; exact this)
  | .ag cs, v, h, hi => by
    simp only [renV] at h
    cases h with
    | ag _ vs hl h1 h =>
      exact .ag cs vs (by rw [hl, renVs_len]) (fun j hj => h1 j (by rw [renVs_len]; exact hj)) (list hw hI hb cs vs (fun j x hj => h j _ (by rw [renVs_get, hj]; rfl)) hi)
  | .tp cs, v, h, hi => by
    simp only [renV] at h
    cases h with
    | tp _ vs hl h =>
      exact .tp cs vs (by rw [hl, renVs_len]) (list hw hI hb cs vs (fun j x hj => h j _ (by rw [renVs_get, hj]; rfl)) hi)
  | .fn g cs, v, h, hi => by
    simp only [renV] at h
    cases h with
    | fn _ _ vs hl h =>
      exact .fn g cs vs (by rw [hl, renVs_len]) (list hw hI hb cs vs (fun j x hj => h j _ (by rw [renVs_get, hj]; rfl)) hi)
  | .bm g cs, v, h, hi => by
    simp only [renV] at h
    cases h with
    | bm _ _ vs hl h =>
      exact .bm g cs vs (by rw [hl, renVs_len]) (list hw hI hb cs vs (fun j x hj => h j _ (by rw [renVs_get, hj]; rfl)) hi)
  | .pt id o, v, h, hi => by
    simp only [renV] at h
    have hid : id < n' := by simpa [Fw.inB, Nat.blt_eq] using hi
    cases h with
    | pt _ _ _ => rw [← (hb id hid).1]; exact .pt id o hid
  | .mf id w, v, h, hi => by
    simp only [renV] at h
    have hid : id < n' := by simpa [Fw.inB, Nat.blt_eq] using hi
    cases h with
    | mf _ _ cap a _ h2 h3 h4 h5 h6 =>
      rw [← (hb id hid).2] at h2 ⊢
      refine .mf id w cap a hid h2 h3 (by rw [(hb id hid).1]; exact h4) h5 ?_
      rw [(hb id hid).1, hw]; exact h6
  | .ms id w o l, v, h, hi => by
    simp only [renV] at h
    have hid : id < n' := by simpa [Fw.inB, Nat.blt_eq] using hi
    cases h with
    | ms _ _ _ _ cap a _ h2 h3 h4 h5 h6 =>
      refine .ms id w o l cap a hid h2 h3 (by rw [(hb id hid).1]; exact h4) h5 ?_
      rw [(hb id hid).1, hw]; exact h6
  | .ep id w k o, v, h, hi => by
    simp only [renV] at h
    have hid : id < n' := by simpa [Fw.inB, Nat.blt_eq] using hi
    cases h with
    | ep _ _ _ _ _ => rw [← (hb id hid).1]; exact .ep id w k o hid
  | .rp cs o, v, h, _ => by
    simp only [renV] at h
    cases h with
    | rp _ _ a vs e fz hs hI' hc ho hb h1 h => exact .rp cs o a vs e fz hs (by rw [hI]; exact hI') (by rw [hw]; exact hc) ho hb h1 (by rw [hw, hI]; exact h)
  | .fl w xs, v, h, _ => by
    simp only [renV] at h
    cases h with
    | fl _ _ a h => exact .fl w xs a (by rw [hw, hI]; exact h)
    | fl0 _ _ ad h => exact .fl0 w xs ad h
  | .mp id, v, h, hi => by
    simp only [renV] at h
    have hid : id < n' := by simpa [Fw.inB, Nat.blt_eq] using hi
    cases h with
    | mp _ _ => rw [← (hb id hid).1]; exact .mp id hid
  | .yd id sl ps a b, v, h, hi => by
    simp only [renV] at h
    simp only [Fw.inB, Bool.and_eq_true] at hi
    have hid : id < n' := by simpa [Nat.blt_eq] using hi.1
    cases h with
    | yd _ _ _ _ _ tm _ hl hk hh =>
      rw [← (hb id hid).1]
      refine .yd id sl ps a b tm hid (by rw [(hb id hid).1, hw]; exact hl) hk (slots (n := n) hw hI hb sl tm (fun j x hj => hh j (x.1, renV σ x.2) (by rw [renSl_get, hj]; rfl)) hi.2)
  | .junk, v, _, _ => .junk v
where
  slots {c c' : Cf} {n n' : Nat} {σ : Nat → Nat} (hw : c'.w = c.w) (hI : c'.I = c.I) (hb : ∀ id, id < n' → c'.bk id = c.bk (σ id) ∧ c'.ln id = c.ln (σ id)) : ∀ (cs : List (Nat × V)) (tm : Array Value), (∀ (j : Nat) (x : Nat × V), cs[j]? = some x → RelV c n (renV σ x.2) (tm.getD x.1 undef)) → inBsl (fun id => Nat.blt id n') cs = true →
    ∀ (j : Nat) (x : Nat × V), cs[j]? = some x → RelV c' n' x.2 (tm.getD x.1 undef)
  | [], tm, _, _, j, x, hj => by simp at hj
  | (k, y) :: cs, tm, h, hi, j, x, hj => by
    simp only [inBsl, Bool.and_eq_true] at hi
    cases j with
    | zero =>
      simp only [List.getElem?_cons_zero, Option.some.injEq] at hj
      subst hj
      exact RelV.unren hw hI hb y _ (h 0 (k, y) rfl) hi.1
    | succ j => exact slots hw hI hb cs tm (fun i x hx => h (i + 1) x (by simpa using hx)) hi.2 j x (by simpa using hj)
  list {c c' : Cf} {n n' : Nat} {σ : Nat → Nat} (hw : c'.w = c.w) (hI : c'.I = c.I) (hb : ∀ id, id < n' → c'.bk id = c.bk (σ id) ∧ c'.ln id = c.ln (σ id)) : ∀ (cs : List V) (vs : Array Value), (∀ (j : Nat) (x : V), cs[j]? = some x → RelV c n (renV σ x) (vs.getD j undef)) → inBs (fun id => Nat.blt id n') cs = true →
    ∀ (j : Nat) (x : V), cs[j]? = some x → RelV c' n' x (vs.getD j undef)
  | [], vs, _, _, j, x, hj => by simp at hj
  | y :: cs, vs, h, hi, j, x, hj => by
    simp only [inBs, Bool.and_eq_true] at hi
    cases j with
    | zero =>
      simp only [List.getElem?_cons_zero, Option.some.injEq] at hj
      subst hj
      exact RelV.unren hw hI hb y _ (h 0 y rfl) hi.1
    | succ j =>
      have := list hw hI hb cs (vs.extract 1 vs.size) (fun i x hx => by
        have h1 := h (i + 1) x (by simpa using hx)
        have e : (vs.extract 1 vs.size).getD i undef = vs.getD (i + 1) undef := by
          simp only [Array.getD_eq_getD_getElem?, Array.getElem?_extract]
          split
          · rw [Nat.add_comm]
          · rw [Array.getElem?_eq_none (by omega)]
        rw [e]; exact h1) hi.2 j x (by simpa using hj)
      have e : (vs.extract 1 vs.size).getD j undef = vs.getD (j + 1) undef := by
        simp only [Array.getD_eq_getD_getElem?, Array.getElem?_extract]
        split
        · rw [Nat.add_comm]
        · rw [Array.getElem?_eq_none (by omega)]
      rw [e] at this; exact this

def slotsW (f : Slots) (σ : Nat → Nat) : Slots → Prop
  | [] => True
  | (j, v) :: r => get f j = renV σ v ∧ slotsW f σ r
def heapW (h : Heap) (σ : Nat → Nat) : Heap → Prop
  | [] => True
  | (j, b) :: r => (b ≠ .dead → lk h (σ j) = renB σ b) ∧ heapW h σ r
theorem slotsW_get {f : Slots} {σ : Nat → Nat} : ∀ {r : Slots}, slotsW f σ r → ∀ t, get r t = .junk ∨ get f t = renV σ (get r t)
  | [], _, t => .inl rfl
  | (j, v) :: r, h, t => by
    rw [get_cons]
    by_cases hj : j = t
    · subst hj; rw [if_pos rfl]; exact .inr h.1
    · rw [if_neg hj]; exact slotsW_get h.2 t
theorem heapW_get {h : Heap} {σ : Nat → Nat} : ∀ {r : Heap}, heapW h σ r → ∀ t, lk r t ≠ .dead → lk h (σ t) = renB σ (lk r t)
  | [], _, t, hd => absurd rfl hd
  | (j, v) :: r, h, t, hd => by
    rw [lk_cons] at hd ⊢
    by_cases hj : j = t
    · subst hj; rw [if_pos rfl] at hd ⊢; exact h.1 hd
    · rw [if_neg hj] at hd ⊢; exact heapW_get h.2 t hd

def okW (st : St) : Bool := st.f.all (fun x => inB (fun id => Nat.blt id st.n) x.2) && st.h.all (fun x => Nat.blt x.1 st.n && inBk (fun id => Nat.blt id st.n) x.2)
def sig (l : List Nat) (id : Nat) : Nat := l.getD id id
def okSig (n0 n : Nat) (l : List Nat) : Bool := Nat.ble n0 n && (List.range n).all (fun i => (List.range n).all fun j => (i == j) || !(sig l i == sig l j)) && (List.range n0).all fun i => sig l i == i

structure Weak (n0 : Nat) (l : List Nat) (st st' : St) : Prop where
  sl : slotsW st.f (sig l) st'.f
  hp : heapW st.h (sig l) st'.h
  ok : okW st' = true
  sg : okSig n0 st'.n l = true

theorem get_all {p : Nat → Bool} : ∀ {f : Slots}, (f.all fun x => inB p x.2) = true → ∀ t, inB p (get f t) = true
  | [], _, t => rfl
  | (j, v) :: r, h, t => by
    simp only [List.all_cons, Bool.and_eq_true] at h
    rw [get_cons]
    by_cases hj : j = t
    · rw [if_pos hj]; exact h.1
    · rw [if_neg hj]; exact get_all h.2 t
theorem lk_all {n : Nat} : ∀ {hp : Heap}, (hp.all fun x => Nat.blt x.1 n && inBk (fun id => Nat.blt id n) x.2) = true → ∀ t, lk hp t ≠ .dead → t < n ∧ inBk (fun id => Nat.blt id n) (lk hp t) = true
  | [], _, t, hd => absurd rfl hd
  | (j, v) :: r, h, t, hd => by
    simp only [List.all_cons, Bool.and_eq_true] at h
    rw [lk_cons] at hd ⊢
    by_cases hj : j = t
    · subst hj; rw [if_pos rfl] at hd ⊢; exact ⟨by simpa [Nat.blt_eq] using h.1.1, h.1.2⟩
    · rw [if_neg hj] at hd ⊢; exact lk_all h.2 t hd

theorem Weak.use {n0 : Nat} {l : List Nat} {st st' : St} (hw : Weak n0 l st st') {G : Nat → Option (List D)} {lo nt : Nat} {c : Cf} {a : Act} (hr : SR G lo nt c st a) : ∃ c', Ext c n0 c' ∧ c'.w = c.w ∧ n0 ≤ st'.n ∧ SR G lo nt c' st' a := by
  have hsg := hw.sg
  simp only [okSig, Bool.and_eq_true] at hsg
  obtain ⟨⟨s1, s2⟩, s3⟩ := hsg
  have hok := hw.ok
  simp only [okW, Bool.and_eq_true] at hok
  obtain ⟨k1, k2⟩ := hok
  have inj : ∀ i j, i < st'.n → j < st'.n → sig l i = sig l j → i = j := by
    intro i j hi hj he
    rw [List.all_eq_true] at s2
    have h1 := s2 i (List.mem_range.2 hi)
    rw [List.all_eq_true] at h1
    have h2 := h1 j (List.mem_range.2 hj)
    rw [he] at h2
    simpa using h2
  have low : ∀ i, i < n0 → sig l i = i := by
    intro i hi
    rw [List.all_eq_true] at s3
    simpa using s3 i (List.mem_range.2 hi)
  let c' : Cf := { c with bk := fun id => c.bk (sig l id), ln := fun id => c.ln (sig l id) }
  have un : ∀ (x : V) (v : Value), RelV c st.n (renV (sig l) x) v → inB (fun id => Nat.blt id st'.n) x = true → RelV c' st'.n x v := fun x v h hi => RelV.unren (c := c) (c' := c') (σ := sig l) rfl rfl (fun id _ => ⟨rfl, rfl⟩) x v h hi
  have own : ∀ id, (lk st'.h id).own = true → lk st.h (sig l id) = renB (sig l) (lk st'.h id) ∧ (lk st.h (sig l id)).own = true ∧ id < st'.n := by
    intro id ho
    have hl : lk st'.h id ≠ .dead := by intro h; rw [h] at ho; cases ho
    have h1 := heapW_get hw.hp id hl
    refine ⟨h1, ?_, (lk_all k2 id hl).1⟩
    rw [h1]
    cases hb : lk st'.h id with
    | ot o => cases o <;> rfl
    | _ => rw [hb] at ho; first | (cases ho; done) | rfl
  refine ⟨c', ⟨Nat.le_refl _, fun _ h => ⟨h, rfl⟩, fun _ cs _ _ h => ⟨cs, h, rfl⟩, .refl _, fun id hid => ?_, fun id hid => ?_, rfl, rfl, fun _ _ => rfl, rfl, rfl, rfl, fun _ h => h⟩, rfl, Nat.le_of_ble_eq_true s1, hr.g, ⟨hr.s.glob, fun t => ?_⟩, ?_, hr.size, hr.defers⟩
  · show c.bk (sig l id) = c.bk id
    rw [low id hid]
  · show c.ln (sig l id) = c.ln id
    rw [low id hid]
  · rcases slotsW_get hw.sl t with h | h
    · rw [h]; exact .junk _
    · refine un _ _ ?_ (get_all k1 t)
      rw [← h]; exact hr.s.get t
  · have b := hr.h
    refine ⟨fun id o hb => ?_, fun id hl => (lk_all k2 id hl).1, fun id cs hb => ?_, fun id w xs hb => ?_, fun id w xs hb => ?_, fun id ho => ?_, fun id id' ho ho' hbk => ?_, b.low, fun id ho => ?_, b.disj, b.lowK⟩
    · have hl : lk st'.h id ≠ .dead := by rw [hb]; simp
      have h1 := heapW_get hw.hp id hl
      rw [hb] at h1
      cases o with
      | fm k fl =>
        obtain ⟨es, clock, h2, h3⟩ := b.ot _ _ h1
        have hi := (lk_all k2 id hl).2
        rw [hb] at hi
        have hi : inBs (fun id => Nat.blt id st'.n) (fl.map (·.2)) = true := hi
        refine ⟨es, clock, h2, by rw [h3.len, renFl_len], fun j e x he hx => ?_, fun i j x y hij hx hy => ?_⟩
        · obtain ⟨a1, a2, a3⟩ := h3.at_ j e (x.1, renV (sig l) x.2) he (by rw [renFl_get, hx]; rfl)
          exact ⟨a1, a2, un x.2 _ a3 (inBs_all hi j x.2 (by rw [List.getElem?_map, hx]; rfl))⟩
        · exact h3.dist i j (x.1, renV (sig l) x.2) (y.1, renV (sig l) y.2) hij (by rw [renFl_get, hx]; rfl) (by rw [renFl_get, hy]; rfl)
      | mp K V m => exact b.ot _ _ h1
      | it s p => exact b.ot _ _ h1
      | lp s => exact b.ot _ _ h1
    · have hl : lk st'.h id ≠ .dead := by rw [hb]; simp
      have h1 := heapW_get hw.hp id hl
      rw [hb] at h1
      obtain ⟨vs, e, h2, h3, h4⟩ := b.box _ _ h1
      have hi := (lk_all k2 id hl).2
      rw [hb] at hi
      refine ⟨vs, e, h2, by rw [h3, renVs_len], fun j x hj => ?_⟩
      obtain ⟨h5, h6⟩ := h4 j (renV (sig l) x) (by rw [renVs_get, hj]; rfl)
      exact ⟨un x _ h5 (inBs_all hi j x hj), h6⟩
    · have hl : lk st'.h id ≠ .dead := by rw [hb]; simp
      have h1 := heapW_get hw.hp id hl
      rw [hb] at h1
      exact b.arr _ _ _ h1
    · have hl : lk st'.h id ≠ .dead := by rw [hb]; simp
      have h1 := heapW_get hw.hp id hl
      rw [hb] at h1
      exact b.fz _ _ _ h1
    · exact b.own _ (own id ho).2.1
    · exact inj id id' (own id ho).2.2 (own id' ho').2.2 (b.inj _ _ (own id ho).2.1 (own id' ho').2.1 hbk)
    · exact b.ownK _ (own id ho).2.1

def LoopN (P : Program) (G : Nat → Option (List D)) (nt n0 : Nat) (body : Code) (st : St) (q : X × St) : Prop :=
  ∃ n, n0 ≤ st.n → ∀ (ro : Option Nat), OkR ro body → ∀ (lo : Nat) (c : Cf) (a : Act) (Q : Exit → Act → World → Prop), SR G lo nt c st a → (∀ a' c', Ext c n0 c' → n0 ≤ q.2.n → SR G lo nt c' q.2 a' → Q (exitOf q.1) a' c'.w) → Code.roundsIn (Fe ro) 3 P body Q n a c.w
section
variable {G : Nat → Option (List D)} {nt n0 : Nat} {body : Code}
theorem LoopN.code {st : St} {q : X × St} (h : LoopN P G nt n0 body st q) : CodeN P G nt n0 (.loop body) st q := by
  obtain ⟨n, h⟩ := h
  intro h0 ro hro lo c a Q hr hQ
  exact wpIn_loop_rounds n (h h0 ro hro.loop lo c a Q hr hQ)
theorem LoopN.out {st : St} {q : X × St} (h : CodeN P G nt n0 body st q) (hq : q.1 ≠ .n) : LoopN P G nt n0 body st q := by
  refine ⟨1, fun h0 ro hro lo c a Q hr hQ => ?_⟩
  rw [roundsIn_succ]
  refine h h0 ro hro lo c a _ hr fun a' c' hx hn hr' => ?_
  have := hQ a' c' hx hn hr'
  obtain ⟨x', st'⟩ := q
  cases x' with
  | n => exact absurd rfl hq
  | ret => exact this
  | exit id => exact this
theorem LoopN.next {st st1 : St} {q : X × St} (h : CodeN P G nt n0 body st (.n, st1)) (hl : LoopN P G nt n0 body st1 q) : LoopN P G nt n0 body st q := by
  obtain ⟨n, hl⟩ := hl
  refine ⟨n + 1, fun h0 ro hro lo c a Q hr hQ => ?_⟩
  rw [roundsIn_succ]
  refine h h0 ro hro lo c a _ hr fun a' c' hx hn hr' => ?_
  exact hl hn ro hro lo c' a' Q hr' fun a2 c2 hx2 hn2 hr2 => hQ a2 c2 (hx.trans hx2 (Nat.le_refl _)) hn2 hr2
theorem LoopN.weak {l : List Nat} {st st1 : St} {q : X × St} (hw : Weak n0 l st st1) (hl : LoopN P G nt n0 body st1 q) : LoopN P G nt n0 body st q := by
  obtain ⟨n, hl⟩ := hl
  refine ⟨n, fun h0 ro hro lo c a Q hr hQ => ?_⟩
  obtain ⟨c', hx, hw', hn, hr'⟩ := hw.use hr
  have := hl hn ro hro lo c' a Q hr' fun a2 c2 hx2 hn2 hr2 => hQ a2 c2 (hx.trans hx2 (Nat.le_refl _)) hn2 hr2
  rw [hw'] at this
  exact this
theorem CodeN.weak {code : Code} {l : List Nat} {st st1 : St} {q : X × St} (hw : Weak n0 l st st1) (hl : CodeN P G nt n0 code st1 q) : CodeN P G nt n0 code st q := by
  intro h0 ro hro lo c a Q hr hQ
  obtain ⟨c', hx, hw', hn, hr'⟩ := hw.use hr
  have := hl hn ro hro lo c' a Q hr' fun a2 c2 hx2 hn2 hr2 => hQ a2 c2 (hx.trans hx2 (Nat.le_refl _)) hn2 hr2
  rw [hw'] at this
  exact this
end

def ntOf (P : Program) (g : FuncId) : Nat := match fnOf P g with
  | some d => d.nt
  | none => 0
end Go.Fw
end
section
set_option linter.unusedVariables false
set_option linter.unusedSimpArgs false
namespace Go.Fw
variable {P : Program} {α : Type} {r : α}

def posIn : List Nat → Nat → Nat → Nat
  | [], _, id => id
  | a :: l, k, id => bif a == id then k else posIn l (k + 1) id
theorem posIn_spec : ∀ {l : List Nat} {k id : Nat}, hasN l id = true → k ≤ posIn l k id ∧ posIn l k id < k + l.length ∧ l[posIn l k id - k]? = some id
  | [], k, id, h => by cases h
  | a :: l, k, id, h => by
    simp only [hasN, Bool.or_eq_true] at h
    simp only [posIn]
    cases ha : (a == id)
    · rw [ha] at h
      obtain ⟨h1, h2, h3⟩ := posIn_spec (k := k + 1) (h.resolve_left (by simp))
      simp only [cond_false, List.length_cons]
      refine ⟨by omega, by omega, ?_⟩
      rw [show posIn l (k + 1) id - k = posIn l (k + 1) id - (k + 1) + 1 by omega, List.getElem?_cons_succ]
      exact h3
    · have : a = id := by simpa using ha
      subst this
      simp
mutual
theorem inB_ren {l : List Nat} : ∀ (x : V), inB (hasN l) x = true → inB (fun id => Nat.blt id l.length) (renV (posIn l 0) x) = true
  | .d _, _ => rfl
  | .ag cs, h => inBs_ren cs h
  | .tp cs, h => inBs_ren cs h
  | .fn _ cs, h => inBs_ren cs h
  | .bm _ cs, h => inBs_ren cs h
  | .pt id o, h => pos h
  | .mf id w, h => pos h
  | .ms id w o n, h => pos h
  | .ep id w k c, h => pos h
  | .rp _ _, _ => rfl
  | .fl _ _, _ => rfl
  | .mp id, h => pos h
  | .yd id sl ps a b, h => by
    simp only [inB, Bool.and_eq_true] at h
    simp only [renV, inB, Bool.and_eq_true]
    exact ⟨pos h.1, inBsl_ren sl h.2⟩
  | .junk, _ => rfl
theorem inBsl_ren {l : List Nat} : ∀ (cs : List (Nat × V)), inBsl (hasN l) cs = true → inBsl (fun id => Nat.blt id l.length) (renSl (posIn l 0) cs) = true
  | [], _ => rfl
  | (k, x) :: cs, h => by
    simp only [inBsl, Bool.and_eq_true] at h
    simp only [renSl, inBsl, Bool.and_eq_true]
    exact ⟨inB_ren x h.1, inBsl_ren cs h.2⟩
theorem inBs_ren {l : List Nat} : ∀ (cs : List V), inBs (hasN l) cs = true → inBs (fun id => Nat.blt id l.length) (renVs (posIn l 0) cs) = true
  | [], _ => rfl
  | x :: cs, h => by
    simp only [inBs, Bool.and_eq_true] at h
    simp only [renVs, inBs, Bool.and_eq_true]
    exact ⟨inB_ren x h.1, inBs_ren cs h.2⟩
theorem pos {l : List Nat} {id : Nat} (h : hasN l id = true) : Nat.blt (posIn l 0 id) l.length = true := by
  have := (posIn_spec (k := 0) h).2.1
  rw [Nat.blt_eq]; omega
end
def Turns {S R : Type} (t : S → Option (S ⊕ R)) : Nat → S → Option R
  | 0, _ => none
  | n + 1, s => match t s with
    | some (.inl s') => Turns t n s'
    | some (.inr r) => some r
    | none => none
theorem turns_mono {S R : Type} (t : S → Option (S ⊕ R)) : ∀ (n : Nat) (s : S) (r : R), Turns t n s = some r → Turns t (n + 1) s = some r
  | 0, s, r, h => by cases h
  | n + 1, s, r, h => by
    rw [Turns] at h ⊢
    cases ht : t s with
    | none => rw [ht] at h; cases h
    | some q =>
      rw [ht] at h
      cases q with
      | inl s' => exact turns_mono t n s' r h
      | inr r' => exact h
theorem turns_le {S R : Type} (t : S → Option (S ⊕ R)) {n m : Nat} (hm : n ≤ m) {s : S} {r : R} (h : Turns t n s = some r) : Turns t m s = some r := by
  induction hm with
  | refl => exact h
  | step _ ih => exact turns_mono t _ _ _ ih
open Classical in
noncomputable def rounds {S R : Type} (t : S → Option (S ⊕ R)) (s : S) : Option R := if h : ∃ n r, Turns t n s = some r then some (Classical.choose (Classical.choose_spec h)) else none
theorem rounds_some {S R : Type} {t : S → Option (S ⊕ R)} {s : S} {r : R} : rounds t s = some r ↔ ∃ n, Turns t n s = some r := by
  unfold rounds
  constructor
  · intro h
    split at h
    · rename_i hx
      injection h with h
      subst h
      exact ⟨_, Classical.choose_spec (Classical.choose_spec hx)⟩
    · cases h
  · rintro ⟨n, hn⟩
    have hx : ∃ n r, Turns t n s = some r := ⟨n, r, hn⟩
    rw [dif_pos hx]
    have h2 := Classical.choose_spec (Classical.choose_spec hx)
    have h3 := turns_le t (Nat.le_max_left n (Classical.choose hx)) hn
    have h4 := turns_le t (Nat.le_max_right n (Classical.choose hx)) h2
    rw [h3] at h4
    injection h4 with h4
    rw [← h4]
theorem rounds_eq {S R : Type} (t : S → Option (S ⊕ R)) (s : S) : rounds t s = match t s with
    | some (.inl s') => rounds t s'
    | some (.inr r) => some r
    | none => none := by
  apply Option.ext
  intro r
  rw [rounds_some]
  cases ht : t s with
  | none =>
    simp only [reduceCtorEq, iff_false]
    rintro ⟨n, hn⟩
    cases n with
    | zero => cases hn
    | succ n => rw [Turns, ht] at hn; cases hn
  | some x =>
    cases x with
    | inl s' =>
      simp only [rounds_some]
      constructor
      · rintro ⟨n, hn⟩
        cases n with
        | zero => cases hn
        | succ n => rw [Turns, ht] at hn; exact ⟨n, hn⟩
      · rintro ⟨n, hn⟩
        exact ⟨n + 1, by rw [Turns, ht]; exact hn⟩
    | inr r' =>
      simp only
      constructor
      · rintro ⟨n, hn⟩
        cases n with
        | zero => cases hn
        | succ n => rw [Turns, ht] at hn; exact hn
      · intro h
        exact ⟨1, by rw [Turns, ht]; exact h⟩

section
variable {G : Nat → Option (List D)} {nt n0 : Nat}
theorem loopN_turns {body : Code} {S R : Type} {t : S → Option (S ⊕ R)} {e : S → St} {x : R → X × St} (hx : ∀ r, (x r).1 ≠ .n)
    (h1 : ∀ s s', t s = some (.inl s') → CodeN P G nt n0 body (e s) (.n, e s')) (h2 : ∀ s r, t s = some (.inr r) → CodeN P G nt n0 body (e s) (x r)) : ∀ (n : Nat) (s : S) (r : R), Turns t n s = some r → LoopN P G nt n0 body (e s) (x r)
  | 0, s, r, h => by cases h
  | n + 1, s, r, h => by
    rw [Turns] at h
    split at h
    · rename_i s' hs
      exact LoopN.next (h1 s s' hs) (loopN_turns hx h1 h2 n s' r h)
    · rename_i r' hs
      injection h with h
      subst h
      exact LoopN.out (h2 s r' hs) (hx r')
    · cases h
end
end Go.Fw
end
section
set_option linter.unusedVariables false
set_option linter.unusedSimpArgs false
namespace Go.Fw
def valEq : Value → Value → Bool
  | .bool a, .bool b => a == b
  | .int k n, .int k' n' => decide (k = k') && decide (n = n')
  | .string a, .string b => decide (a.data.toList = b.data.toList)
  | .pointer none, .pointer none => true
  | .slice none a b, .slice none a' b' => Nat.beq a a' && Nat.beq b b'
  | .map none, .map none => true
  | .nilFunc, .nilFunc => true
  | .nilIface, .nilIface => true
  | _, _ => false
theorem valEq_eq {a b : Value} (h : valEq a b = true) : a = b := by
  unfold valEq at h
  split at h
  · rw [eq_of_beq h]
  · simp only [Bool.and_eq_true, decide_eq_true_eq] at h; rw [h.1, h.2]
  · rename_i x y
    have h := of_decide_eq_true h
    rw [show x = y from ByteArray.ext (Array.toList_inj.1 h)]
  · rfl
  · simp only [Bool.and_eq_true] at h; rw [Nat.eq_of_beq_eq_true h.1, Nat.eq_of_beq_eq_true h.2]
  · rfl
  · rfl
  · rfl
  · cases h
def oprEq : Operand → Operand → Bool
  | .tmp a, .tmp b => Nat.beq a b
  | .const a, .const b => valEq a b
  | .global a, .global b => Nat.beq a b
  | .func a, .func b => Nat.beq a b
  | _, _ => false
theorem oprEq_eq {a b : Operand} (h : oprEq a b = true) : a = b := by
  unfold oprEq at h
  split at h
  · rw [Nat.eq_of_beq_eq_true h]
  · rw [valEq_eq h]
  · rw [Nat.eq_of_beq_eq_true h]
  · rw [show _ = _ from Nat.eq_of_beq_eq_true h]
  · cases h
def listEq {A : Type} (e : A → A → Bool) : List A → List A → Bool
  | [], [] => true
  | a :: l, b :: m => e a b && listEq e l m
  | _, _ => false
theorem listEq_eq {A : Type} {e : A → A → Bool} (he : ∀ {a b}, e a b = true → a = b) : ∀ {l m : List A}, listEq e l m = true → l = m
  | [], [], _ => rfl
  | a :: l, b :: m, h => by
    simp only [listEq, Bool.and_eq_true] at h
    rw [he h.1, listEq_eq he h.2]
  | [], _ :: _, h => by cases h
  | _ :: _, [], h => by cases h
def arrEq {A : Type} (e : A → A → Bool) (a b : Array A) : Bool := listEq e a.toList b.toList
theorem arrEq_eq {A : Type} {e : A → A → Bool} (he : ∀ {a b}, e a b = true → a = b) {a b : Array A} (h : arrEq e a b = true) : a = b := Array.toList_inj.1 (listEq_eq he h)
def optEq {A : Type} (e : A → A → Bool) : Option A → Option A → Bool
  | none, none => true
  | some a, some b => e a b
  | _, _ => false
theorem optEq_eq {A : Type} {e : A → A → Bool} (he : ∀ {a b}, e a b = true → a = b) {a b : Option A} (h : optEq e a b = true) : a = b := by
  unfold optEq at h
  split at h
  · rfl
  · rw [he h]
  · cases h
def natOpr (a b : Nat × Operand) : Bool := Nat.beq a.1 b.1 && oprEq a.2 b.2
theorem natOpr_eq {a b : Nat × Operand} (h : natOpr a b = true) : a = b := by
  obtain ⟨a1, a2⟩ := a
  obtain ⟨b1, b2⟩ := b
  simp only [natOpr, Bool.and_eq_true] at h
  rw [Nat.eq_of_beq_eq_true h.1, oprEq_eq h.2]
def calEq : Callee → Callee → Bool
  | .value a, .value b => oprEq a b
  | .builtin a, .builtin b => decide (a = b)
  | _, _ => false
theorem calEq_eq {a b : Callee} (h : calEq a b = true) : a = b := by
  unfold calEq at h
  split at h
  · rw [oprEq_eq h]
  · rw [of_decide_eq_true h]
  · cases h
def callEq (a b : Call) : Bool := calEq a.callee b.callee && (arrEq oprEq a.args b.args && arrEq Nat.beq a.argTypes b.argTypes)
theorem callEq_eq {a b : Call} (h : callEq a b = true) : a = b := by
  obtain ⟨a1, a2, a3⟩ := a
  obtain ⟨b1, b2, b3⟩ := b
  simp only [callEq, Bool.and_eq_true] at h
  rw [calEq_eq h.1, arrEq_eq oprEq_eq h.2.1, arrEq_eq Nat.eq_of_beq_eq_true h.2.2]
def opEq : Op → Op → Bool
  | .move a, .move b => oprEq a b
  | .assign a, .assign b => oprEq a b
  | .nilCheck a, .nilCheck b => oprEq a b
  | .pick a b c, .pick a' b' c' => oprEq a a' && (oprEq b b' && oprEq c c')
  | .alloc a, .alloc b => Nat.beq a b
  | .box t a, .box t' b => Nat.beq t t' && oprEq a b
  | .build t a, .build t' b => Nat.beq t t' && arrEq natOpr a b
  | .buildSlice t n a, .buildSlice t' n' b => Nat.beq t t' && (Nat.beq n n' && arrEq natOpr a b)
  | .load t a, .load t' b => Nat.beq t t' && oprEq a b
  | .store t a b, .store t' a' b' => Nat.beq t t' && (oprEq a a' && oprEq b b')
  | .binOp o t a b u, .binOp o' t' a' b' u' => decide (o = o') && (Nat.beq t t' && (oprEq a a' && (oprEq b b' && Nat.beq u u')))
  | .unOp o t a, .unOp o' t' a' => decide (o = o') && (Nat.beq t t' && oprEq a a')
  | .convert s t a, .convert s' t' a' => Nat.beq s s' && (Nat.beq t t' && oprEq a a')
  | .makeSlice t a b, .makeSlice t' a' b' => Nat.beq t t' && (oprEq a a' && oprEq b b')
  | .slice t x a b c, .slice t' x' a' b' c' => Nat.beq t t' && (oprEq x x' && (optEq oprEq a a' && (optEq oprEq b b' && optEq oprEq c c')))
  | .fieldAddr t x n, .fieldAddr t' x' n' => Nat.beq t t' && (oprEq x x' && Nat.beq n n')
  | .field t x n, .field t' x' n' => Nat.beq t t' && (oprEq x x' && Nat.beq n n')
  | .indexAddr t x n, .indexAddr t' x' n' => Nat.beq t t' && (oprEq x x' && oprEq n n')
  | .index t x n, .index t' x' n' => Nat.beq t t' && (oprEq x x' && oprEq n n')
  | .lookup t x n o, .lookup t' x' n' o' => Nat.beq t t' && (oprEq x x' && (oprEq n n' && (o == o')))
  | .mapUpdate t x n v, .mapUpdate t' x' n' v' => Nat.beq t t' && (oprEq x x' && (oprEq n n' && oprEq v v'))
  | .extract a n, .extract a' n' => oprEq a a' && Nat.beq n n'
  | .call a, .call b => callEq a b
  | _, _ => false
theorem opEq_eq {a b : Op} (h : opEq a b = true) : a = b := by
  unfold opEq at h
  split at h <;> first
    | (cases h; done)
    | (rw [callEq_eq h]; done)
    | (try simp only [Bool.and_eq_true, decide_eq_true_eq, beq_iff_eq] at h
       simp only [Op.move.injEq, Op.assign.injEq, Op.nilCheck.injEq, Op.pick.injEq, Op.alloc.injEq, Op.box.injEq, Op.build.injEq, Op.buildSlice.injEq, Op.load.injEq, Op.store.injEq, Op.binOp.injEq, Op.unOp.injEq, Op.convert.injEq, Op.makeSlice.injEq, Op.slice.injEq, Op.fieldAddr.injEq, Op.field.injEq, Op.indexAddr.injEq, Op.index.injEq, Op.lookup.injEq, Op.mapUpdate.injEq, Op.extract.injEq]
       repeat' apply And.intro
       all_goals first
         | exact oprEq_eq (by first | exact h | exact h.1 | exact h.2 | exact h.2.1 | exact h.2.2 | exact h.2.2.1 | exact h.2.2.2 | exact h.2.2.2.1)
         | exact Nat.eq_of_beq_eq_true (by first | exact h | exact h.1 | exact h.2 | exact h.2.1 | exact h.2.2 | exact h.2.2.1 | exact h.2.2.2 | exact h.2.2.2.2)
         | exact arrEq_eq natOpr_eq (by first | exact h.2 | exact h.2.2)
         | exact optEq_eq oprEq_eq (by first | exact h.2.2.1 | exact h.2.2.2.1 | exact h.2.2.2.2)
         | exact h.1
         | exact h.2.2.2)
def edgeEq (a b : Edge) : Bool := Nat.beq a.on b.on && decide (a.ground = b.ground)
theorem edgeEq_eq {a b : Edge} (h : edgeEq a b = true) : a = b := by
  obtain ⟨a1, a2⟩ := a
  obtain ⟨b1, b2⟩ := b
  simp only [edgeEq, Bool.and_eq_true] at h
  rw [Nat.eq_of_beq_eq_true h.1, of_decide_eq_true h.2]
def grdEq (a b : Nat × Bool) : Bool := Nat.beq a.1 b.1 && (a.2 == b.2)
theorem grdEq_eq {a b : Nat × Bool} (h : grdEq a b = true) : a = b := by
  obtain ⟨a1, a2⟩ := a
  obtain ⟨b1, b2⟩ := b
  simp only [grdEq, Bool.and_eq_true] at h
  rw [Nat.eq_of_beq_eq_true h.1, eq_of_beq h.2]
def operEq (a b : Oper) : Bool := optEq Nat.beq a.dst b.dst && (opEq a.op b.op && (Nat.beq a.type b.type && (decide (a.pos = b.pos) && (arrEq edgeEq a.after b.after && optEq grdEq a.guard b.guard))))
theorem operEq_eq {a b : Oper} (h : operEq a b = true) : a = b := by
  obtain ⟨a1, a2, a3, a4, a5, a6⟩ := a
  obtain ⟨b1, b2, b3, b4, b5, b6⟩ := b
  simp only [operEq, Bool.and_eq_true] at h
  rw [optEq_eq Nat.eq_of_beq_eq_true h.1, opEq_eq h.2.1, Nat.eq_of_beq_eq_true h.2.2.1, of_decide_eq_true h.2.2.2.1, arrEq_eq edgeEq_eq h.2.2.2.2.1, optEq_eq grdEq_eq h.2.2.2.2.2]
def codeEq : Code → Code → Bool
  | .skip, .skip => true
  | .region i a d, .region j b e => Nat.beq i j && (arrEq operEq a b && (d == e))
  | .seq a b, .seq a' b' => codeEq a a' && codeEq b b'
  | .cond c a b, .cond c' a' b' => oprEq c c' && (codeEq a a' && codeEq b b')
  | .block i a, .block j b => Nat.beq i j && codeEq a b
  | .loop a, .loop b => codeEq a b
  | .exit i, .exit j => Nat.beq i j
  | .ret, .ret => true
  | _, _ => false
theorem codeEq_eq : ∀ {a b : Code}, codeEq a b = true → a = b
  | .skip, b, h => by cases b <;> first | rfl | cases h
  | .region i a d, b, h => by
    cases b <;> first | (cases h; done) | skip
    simp only [codeEq, Bool.and_eq_true, beq_iff_eq] at h
    rw [Nat.eq_of_beq_eq_true h.1, arrEq_eq operEq_eq h.2.1, h.2.2]
  | .seq a a2, b, h => by
    cases b <;> first | (cases h; done) | skip
    simp only [codeEq, Bool.and_eq_true] at h
    rw [codeEq_eq h.1, codeEq_eq h.2]
  | .cond c a a2, b, h => by
    cases b <;> first | (cases h; done) | skip
    simp only [codeEq, Bool.and_eq_true] at h
    rw [oprEq_eq h.1, codeEq_eq h.2.1, codeEq_eq h.2.2]
  | .block i a, b, h => by
    cases b <;> first | (cases h; done) | skip
    simp only [codeEq, Bool.and_eq_true] at h
    rw [Nat.eq_of_beq_eq_true h.1, codeEq_eq h.2]
  | .loop a, b, h => by
    cases b <;> first | (cases h; done) | skip
    simp only [codeEq] at h
    rw [codeEq_eq h]
  | .exit i, b, h => by
    cases b <;> first | (cases h; done) | skip
    simp only [codeEq] at h
    rw [Nat.eq_of_beq_eq_true h]
  | .ret, b, h => by cases b <;> first | rfl | cases h
  | .rangeFunc .., b, h => by cases b <;> cases h
  | .scope .., b, h => by cases b <;> cases h
  | .label .., b, h => by cases b <;> cases h
  | .goto .., b, h => by cases b <;> cases h
  | .refuse .., b, h => by cases b <;> cases h
end Go.Fw
end
section
set_option linter.unusedVariables false
set_option linter.unusedSimpArgs false
namespace Go.Fw
variable {P : Program} {α : Type} {r : α}

mutual
inductive Sh where
  | x (T : Ty)
  | c (t : Nat)
  | pt (j off : Nat)
  | own (j w : Nat)
  | fn (f : FuncId) (cs : Shs)
  | bm (f : FuncId) (cs : Shs)
  | ag (cs : Shs)
  | mp (j : Nat)
  | ep (j w k o : Nat)
  | yd (j : Nat) (ks : List Nat) (cs : Shs) (ps : List Nat) (a b : Code)
  | f0 (T : Ty)
inductive Shs where
  | nil
  | cons (s : Sh) (r : Shs)
end
inductive BSh where
  | box (cs : Shs)
  | arr (T : Ty)
  | arrN (T : Ty)
  | fz (T : Ty)
  | mp (K V : Ty)
  | fm (k : IntKind) (ms : List Int) (cs : Shs)
  | it
  | lp (b : Bool)
  | dead
structure SSh where
  sl : List (Nat × Sh)
  bl : List BSh

mutual
def Sh.tys : Sh → List Ty
  | .x T => [T]
  | .fn _ cs => Shs.tys cs
  | .bm _ cs => Shs.tys cs
  | .ag cs => Shs.tys cs
  | .yd _ _ cs _ _ _ => Shs.tys cs
  | _ => []
def Shs.tys : Shs → List Ty
  | .nil => []
  | .cons s r => Sh.tys s ++ Shs.tys r
end
def BSh.tys : BSh → List Ty
  | .box cs => Shs.tys cs
  | .arr T => [.l T]
  | .arrN T => [.l T]
  | .fz T => [.l T]
  | .mp K V => [.l (.p K V)]
  | .fm _ _ cs => Shs.tys cs
  | .it => [.s, .i .i64]
  | .lp _ => []
  | .dead => []
def slTys : List (Nat × Sh) → List Ty
  | [] => []
  | (_, s) :: r => s.tys ++ slTys r
def blTys : List BSh → List Ty
  | [] => []
  | b :: r => b.tys ++ blTys r
def SSh.tys (s : SSh) : List Ty := slTys s.sl ++ blTys s.bl
@[reducible] def Vals : List Ty → Type
  | [] => Unit
  | t :: ts => match ts with
    | [] => t.den
    | _ :: _ => t.den × Vals ts
def elts : (ts : List Ty) → Vals ts → List D
  | [], _ => []
  | [t], x => [t.elt x]
  | t :: t' :: ts, x => t.elt x.1 :: elts (t' :: ts) x.2
def decAll : (ts : List Ty) → List D → Option (Vals ts)
  | [], ds => match ds with
    | [] => some ()
    | _ => none
  | [t], ds => match ds with
    | [d] => t.dec d
    | _ => none
  | t :: t' :: ts, ds => match ds with
    | d :: ds => match t.dec d with
      | some x => match decAll (t' :: ts) ds with
        | some y => some (x, y)
        | none => none
      | none => none
    | [] => none
theorem decAll_elts : ∀ {ts : List Ty} {ds : List D} {x : Vals ts}, decAll ts ds = some x → elts ts x = ds
  | [], ds, x, h => by
    unfold decAll at h
    split at h
    · rfl
    · cases h
  | [t], ds, x, h => by
    unfold decAll at h
    split at h
    · rename_i d
      show [t.elt x] = [d]
      rw [Ty.dec_elt h]
    · cases h
  | t :: t' :: ts, ds, x, h => by
    unfold decAll at h
    split at h
    · rename_i d ds
      split at h
      · rename_i a ha
        split at h
        · rename_i y hy
          injection h with h
          subst h
          show t.elt a :: elts (t' :: ts) y = d :: ds
          rw [Ty.dec_elt ha, decAll_elts hy]
        · cases h
      · cases h
    · cases h

def constD : Nat → D
  | 0 => .nP
  | 1 => .nF
  | 2 => .nI
  | 3 => .nM
  | 5 => .nsl
  | _ => .tp []
def mkFn (f : FuncId) (vs : List V) : V := match allD vs with
  | some ds => .d (.fn f ds)
  | none => .fn f vs
mutual
def Sh.put (nb : List Bool) : Sh → List D → V × List D
  | .x _, ds => (match ds with
    | d :: _ => .d d
    | [] => .junk, ds.drop 1)
  | .c t, ds => (.d (constD t), ds)
  | .pt j o, ds => (.pt j o, ds)
  | .own j w, ds => (bif nb.getD j false then .d .nsl else .mf j w, ds)
  | .fn f cs, ds => (mkFn f (Shs.put nb cs ds).1, (Shs.put nb cs ds).2)
  | .bm f cs, ds => (.bm f (Shs.put nb cs ds).1, (Shs.put nb cs ds).2)
  | .ag cs, ds => (mkAg (Shs.put nb cs ds).1, (Shs.put nb cs ds).2)
  | .mp j, ds => (.mp j, ds)
  | .ep j w k o, ds => (.ep j w k o, ds)
  | .yd j ks cs ps a b, ds => (.yd j (ks.zip (Shs.put nb cs ds).1) ps a b, (Shs.put nb cs ds).2)
  | .f0 T, ds => (.fl T.w (.t T []), ds)
def Shs.put (nb : List Bool) : Shs → List D → List V × List D
  | .nil, ds => ([], ds)
  | .cons s r, ds => ((Sh.put nb s ds).1 :: (Shs.put nb r (Sh.put nb s ds).2).1, (Shs.put nb r (Sh.put nb s ds).2).2)
end
def putS (nb : List Bool) : List (Nat × Sh) → List D → Slots × List D
  | [], ds => ([], ds)
  | (k, s) :: r, ds => ((k, (s.put nb ds).1) :: (putS nb r (s.put nb ds).2).1, (putS nb r (s.put nb ds).2).2)
def arrOf : D → Blk
  | .sl w xs => .arr w xs
  | _ => .dead
def fzOf : D → Blk
  | .sl w xs => .fz w xs
  | _ => .dead
def mapOf : D → Blk
  | .sl _ (.t (.p K V) l) => .ot (.mp K V l)
  | _ => .dead
def itOf : List D → Blk
  | .s x :: .i _ n :: _ => .ot (.it x n.toNat)
  | _ => .dead
def lpSt (b : Bool) : LSt := bif b then .busy else .ready
def lpIs : Bool → LSt → Bool
  | false, .ready => true
  | true, .busy => true
  | _, _ => false
theorem lpIs_eq : ∀ {b : Bool} {s : LSt}, lpIs b s = true → s = lpSt b
  | false, .ready, _ => rfl
  | true, .busy, _ => rfl
  | false, .busy, h => by cases h
  | false, .done _, h => by cases h
  | true, .ready, h => by cases h
  | true, .done _, h => by cases h
def nilD : D → Bool
  | .sl _ xs => xs.nil
  | _ => false
def BSh.put (nb : List Bool) : BSh → List D → Blk × List D
  | .box cs, ds => (.box (cs.put nb ds).1, (cs.put nb ds).2)
  | .arr _, ds => (match ds with
    | d :: _ => arrOf d
    | [] => .dead, ds.drop 1)
  | .arrN _, ds => (match ds with
    | d :: _ => bif nilD d then .dead else arrOf d
    | [] => .dead, ds.drop 1)
  | .fz _, ds => (match ds with
    | d :: _ => fzOf d
    | [] => .dead, ds.drop 1)
  | .mp _ _, ds => (match ds with
    | d :: _ => mapOf d
    | [] => .dead, ds.drop 1)
  | .fm k ms cs, ds => (.ot (.fm k (ms.zip (cs.put nb ds).1)), (cs.put nb ds).2)
  | .it, ds => (itOf ds, ds.drop 2)
  | .lp b, ds => (.ot (.lp (lpSt b)), ds)
  | .dead, ds => (.dead, ds)
def putB (nb : List Bool) : Nat → List BSh → List D → Heap
  | _, [], _ => []
  | j, b :: r, ds => (j, (b.put nb ds).1) :: putB nb (j + 1) r (b.put nb ds).2
def nbs : List BSh → List D → List Bool
  | [], _ => []
  | .arrN _ :: r, ds => (match ds with
    | d :: _ => nilD d
    | [] => false) :: nbs r (ds.drop 1)
  | b :: r, ds => false :: nbs r (ds.drop b.tys.length)
def SSh.st (s : SSh) (ds : List D) : St :=
  ⟨(putS (nbs s.bl (ds.drop (slTys s.sl).length)) s.sl ds).1, s.bl.length, putB (nbs s.bl (ds.drop (slTys s.sl).length)) 0 s.bl (ds.drop (slTys s.sl).length)⟩

def constIs : Nat → D → Bool
  | 0, .nP => true
  | 1, .nF => true
  | 2, .nI => true
  | 3, .nM => true
  | 4, .tp [] => true
  | 5, .nsl => true
  | _, _ => false
theorem constIs_eq {t : Nat} {d : D} (h : constIs t d = true) : d = constD t := by
  unfold constIs at h
  split at h <;> first | rfl | cases h
def isF0 (T : Ty) (w : Nat) (xs : Ls) : Bool := Nat.beq w T.w && match xs with
  | .t T' [] => (Ty.same T' T).isSome
  | _ => false
theorem isF0_eq {T : Ty} {w : Nat} {xs : Ls} (h : isF0 T w xs = true) : V.fl w xs = V.fl T.w (.t T []) := by
  unfold isF0 at h
  simp only [Bool.and_eq_true, Nat.beq_eq] at h
  obtain ⟨rfl, h⟩ := h
  split at h
  · rename_i T'
    obtain ⟨⟨e⟩, _⟩ := Option.isSome_iff_exists.1 h
    subst e
    rfl
  · cases h
mutual
def Sh.get (l : List Nat) (nl : List Bool) : Sh → V → Option (List D)
  | .x _, v => match v with
    | .d d => some [d]
    | _ => none
  | .c t, v => match v with
    | .d d => bif constIs t d then some [] else none
    | _ => none
  | .pt j o, v => match v with
    | .pt id o' => bif sig l j == id && o == o' then some [] else none
    | _ => none
  | .own j w, v => match v with
    | .mf id w' => bif !nl.getD j false && (sig l j == id && w == w') then some [] else none
    | .d .nsl => bif nl.getD j false then some [] else none
    | _ => none
  | .fn f cs, v => match v with
    | .fn g vs => bif f == g && !(allD vs).isSome then Shs.get l nl cs vs else none
    | .d (.fn g ds) => bif f == g then Shs.get l nl cs (ds.map .d) else none
    | _ => none
  | .bm f cs, v => match v with
    | .bm g vs => bif f == g then Shs.get l nl cs vs else none
    | _ => none
  | .ag cs, v => match v with
    | .ag vs => bif !(allD vs).isSome then Shs.get l nl cs vs else none
    | .d (.ag ds) => Shs.get l nl cs (ds.map .d)
    | _ => none
  | .mp j, v => match v with
    | .mp id => bif sig l j == id then some [] else none
    | _ => none
  | .ep j w k o, v => match v with
    | .ep id w' k' o' => bif sig l j == id && (Nat.beq w w' && (Nat.beq k k' && Nat.beq o o')) then some [] else none
    | _ => none
  | .yd j ks cs ps a b, v => match v with
    | .yd id sl ps' a' b' => bif sig l j == id && (listEq Nat.beq ks (sl.map (·.1)) && (listEq Nat.beq ps ps' && (codeEq a a' && codeEq b b'))) then Shs.get l nl cs (sl.map (·.2)) else none
    | _ => none
  | .f0 T, v => match v with
    | .fl w xs => bif isF0 T w xs then some [] else none
    | _ => none
def Shs.get (l : List Nat) (nl : List Bool) : Shs → List V → Option (List D)
  | .nil, vs => match vs with
    | [] => some []
    | _ => none
  | .cons s r, vs => match vs with
    | v :: vs => match Sh.get l nl s v with
      | some ds => match Shs.get l nl r vs with
        | some es => some (ds ++ es)
        | none => none
      | none => none
    | [] => none
end
def getS (l : List Nat) (nl : List Bool) (f : Slots) : List (Nat × Sh) → Option (List D)
  | [] => some []
  | (k, s) :: r => match s.get l nl (get f k) with
    | some ds => match getS l nl f r with
      | some es => some (ds ++ es)
      | none => none
    | none => none
def BSh.get (l : List Nat) (nl : List Bool) (n : Bool) : BSh → Blk → Option (List D)
  | .box cs, b => match b with
    | .box vs => bif n then none else cs.get l nl vs
    | _ => none
  | .arr T, b => match b with
    | .arr w xs => bif n then none else some [.sl w xs]
    | _ => none
  | .arrN T, b => bif n then some [.sl T.w (.t T [])] else match b with
    | .arr w xs => bif xs.nil then none else some [.sl w xs]
    | _ => none
  | .fz T, b => match b with
    | .fz w xs => bif n then none else some [.sl w xs]
    | _ => none
  | .mp K V, b => match b with
    | .ot (.mp K' V' m) => bif n then none else some [.sl (K'.w + V'.w) (.t (.p K' V') m)]
    | _ => none
  | .fm k ms cs, b => match b with
    | .ot (.fm k' fl) => bif n then none else bif decide (k' = k) && listEq (fun a b => a == b) ms (fl.map (·.1)) then cs.get l nl (fl.map (·.2)) else none
    | _ => none
  | .it, b => match b with
    | .ot (.it s pos) => bif n then none else some [.s s, .i .i64 pos]
    | _ => none
  | .lp t, b => match b with
    | .ot (.lp s) => bif n then none else bif lpIs t s then some [] else none
    | _ => none
  | .dead, _ => bif n then none else some []
def getB (l : List Nat) (nl : List Bool) (hp : Heap) : Nat → List BSh → Option (List D)
  | _, [] => some []
  | j, b :: r => match b.get l nl (nl.getD j false) (lk hp (sig l j)) with
    | some ds => match getB l nl hp (j + 1) r with
      | some es => some (ds ++ es)
      | none => none
    | none => none

abbrev Bs := List (Nat × Option Nat)
mutual
def Sh.bnd : Sh → V → Bs
  | .pt j _, v => match v with
    | .pt id _ => [(j, some id)]
    | _ => []
  | .own j _, v => match v with
    | .mf id _ => [(j, some id)]
    | .d .nsl => [(j, none)]
    | _ => []
  | .fn _ cs, v => match v with
    | .fn _ vs => Shs.bnd cs vs
    | _ => []
  | .bm _ cs, v => match v with
    | .bm _ vs => Shs.bnd cs vs
    | _ => []
  | .ag cs, v => match v with
    | .ag vs => Shs.bnd cs vs
    | _ => []
  | .mp j, v => match v with
    | .mp id => [(j, some id)]
    | _ => []
  | .ep j _ _ _, v => match v with
    | .ep id _ _ _ => [(j, some id)]
    | _ => []
  | .yd j _ cs _ _ _, v => match v with
    | .yd id sl _ _ _ => (j, some id) :: Shs.bnd cs (sl.map (·.2))
    | _ => []
  | _, _ => []
def Shs.bnd : Shs → List V → Bs
  | .nil, _ => []
  | .cons s r, vs => match vs with
    | v :: vs => Sh.bnd s v ++ Shs.bnd r vs
    | [] => []
end
def findB : Bs → Nat → Option (Option Nat)
  | [], _ => none
  | (j, x) :: r, i => bif j == i then some x else findB r i
def bndB (hp : Heap) : Nat → List BSh → Bs → Bs
  | _, [], bs => bs
  | j, .box cs :: r, bs => bndB hp (j + 1) r (bs ++ match findB bs j with
    | some (some id) => (match lk hp id with
      | .box vs => cs.bnd vs
      | _ => [])
    | _ => [])
  | j, .fm _ _ cs :: r, bs => bndB hp (j + 1) r (bs ++ match findB bs j with
    | some (some id) => (match lk hp id with
      | .ot (.fm _ fl) => cs.bnd (fl.map (·.2))
      | _ => [])
    | _ => [])
  | j, _ :: r, bs => bndB hp (j + 1) r bs
def bndS (n0 : Nat) (st : St) (s : SSh) : Bs := bndB st.h 0 s.bl ((s.sl.flatMap fun x => x.2.bnd (get st.f x.1)) ++ (List.range n0).map fun j => (j, some j))
def lOf (n0 : Nat) (bs : Bs) (m : Nat) : List Nat := (List.range m).map fun j => bif Nat.blt j n0 then j else match findB bs j with
  | some (some id) => id
  | _ => 1000000 + j
def nOf (bs : Bs) (m : Nat) : List Bool := (List.range m).map fun j => match findB bs j with
  | some none => true
  | _ => false

def coeD : Ty → D → D
  | .l t, .nsl => .sl t.w (.t t [])
  | .l t, .sl w (.r []) => .sl w (.t t [])
  | .e, .nI => .er false
  | .e, .ifc _ _ => .er true
  | _, d => d
def coeC : Ty → List D → List D × List D
  | .u, ds => ([], ds)
  | .p a c, ds => ((coeC a ds).1 ++ (coeC c (coeC a ds).2).1, (coeC c (coeC a ds).2).2)
  | .g t, ds => coeC t ds
  | T, ds => match ds with
    | d :: r => ([coeD T d], r)
    | [] => ([], [])
def coeT (T : Ty) (d : D) : D := match d with
  | .ag cs => .ag ((coeC T cs).1 ++ (coeC T cs).2)
  | d => coeD T d
theorem coeD_rel {w : World} {I : Mem} {T : Ty} {d : D} {v : Value} (h : RelD w I d v) : RelD w I (coeD T d) v := by
  unfold coeD
  split
  · cases h; exact .sl0 _ _ none 0 rfl fun _ => rfl
  · rename_i t w'
    cases h with
    | sl _ _ a cap c e fz hs hI hc hcap hw hb h1 hh => exact .sl w' (.t t []) a cap c e fz hs hI hc hcap (by simp [Ls.xs]) hb h1 (by simp [Ls.xs])
    | sl0 _ _ ad cap h hc => exact .sl0 _ _ ad cap rfl hc
  · cases h; exact .er0
  · cases h; exact .er1 _ _
  · exact h
theorem coeC_len : ∀ (T : Ty) (ds : List D), ((coeC T ds).1 ++ (coeC T ds).2).length = ds.length
  | .u, ds => by simp [coeC]
  | .p a c, ds => by
    simp only [coeC]
    have h1 := coeC_len a ds
    have h2 := coeC_len c (coeC a ds).2
    simp only [List.length_append] at h1 h2 ⊢
    omega
  | .g t, ds => by simp only [coeC]; exact coeC_len t ds
  | .b, ds => by cases ds <;> simp [coeC]
  | .s, ds => by cases ds <;> simp [coeC]
  | .e, ds => by cases ds <;> simp [coeC]
  | .i _, ds => by cases ds <;> simp [coeC]
  | .l _, ds => by cases ds <;> simp [coeC]
theorem coe_leaf {w : World} {I : Mem} (T : Ty) (hT : ∀ {ds}, coeC T ds = match ds with | d :: r => ([coeD T d], r) | [] => ([], [])) (ds : List D) (f : Nat → Value) (h : ∀ (j : Nat) (d : D), ds[j]? = some d → RelD w I d (f j)) (j : Nat) (d : D)
    (hj : ((coeC T ds).1 ++ (coeC T ds).2)[j]? = some d) : RelD w I d (f j) := by
  rw [hT] at hj
  cases ds with
  | nil => simp at hj
  | cons a r =>
    cases j with
    | zero => simp at hj; subst hj; exact coeD_rel (h 0 a rfl)
    | succ j => exact h (j + 1) d (by simpa using hj)
theorem coeC_get {w : World} {I : Mem} : ∀ (T : Ty) (ds : List D) (f : Nat → Value), (∀ (j : Nat) (d : D), ds[j]? = some d → RelD w I d (f j)) →
    ∀ (j : Nat) (d : D), ((coeC T ds).1 ++ (coeC T ds).2)[j]? = some d → RelD w I d (f j)
  | .u, ds, f, h, j, d, hj => by simp only [coeC, List.nil_append] at hj; exact h j d hj
  | .p a c, ds, f, h, j, d, hj => by
    simp only [coeC] at hj
    have h1 := coeC_get a ds f h
    have h2 := coeC_get c (coeC a ds).2 (fun j => f ((coeC a ds).1.length + j)) (fun j d hj => h1 _ d (by rw [List.getElem?_append_right (by omega)]; simpa using hj))
    rw [List.append_assoc] at hj
    by_cases hlt : j < (coeC a ds).1.length
    · rw [List.getElem?_append_left hlt] at hj
      exact h1 j d (by rw [List.getElem?_append_left hlt]; exact hj)
    · rw [List.getElem?_append_right (by omega)] at hj
      have := h2 _ d hj
      rw [show (coeC a ds).1.length + (j - (coeC a ds).1.length) = j by omega] at this
      exact this
  | .g t, ds, f, h, j, d, hj => by simp only [coeC] at hj; exact coeC_get t ds f h j d hj
  | .b, ds, f, h, j, d, hj => coe_leaf .b rfl ds f h j d hj
  | .s, ds, f, h, j, d, hj => coe_leaf .s rfl ds f h j d hj
  | .e, ds, f, h, j, d, hj => coe_leaf .e rfl ds f h j d hj
  | .i k, ds, f, h, j, d, hj => coe_leaf (.i k) rfl ds f h j d hj
  | .l t, ds, f, h, j, d, hj => coe_leaf (.l t) rfl ds f h j d hj
theorem coeT_rel {w : World} {I : Mem} {T : Ty} {d : D} {v : Value} (h : RelD w I d v) : RelD w I (coeT T d) v := by
  unfold coeT
  split
  · rename_i cs
    cases h with
    | ag _ vs hl h1 hh =>
      exact .ag _ vs (by rw [coeC_len]; exact hl) (fun j hj => h1 j (by rw [coeC_len] at hj; exact hj)) (coeC_get T cs _ hh)
  · exact coeD_rel h
end Go.Fw
end
section
set_option linter.unusedVariables false
set_option linter.unusedSimpArgs false
namespace Go.Fw
variable {P : Program} {α : Type} {r : α}

theorem ren_d {σ : Nat → Nat} {x : V} {d : D} (h : renV σ x = .d d) : x = .d d := by
  cases x <;> simp only [renV] at h <;> first | exact h | cases h
theorem rens_allD {σ : Nat → Nat} : ∀ {xs : List V} {ds : List D}, renVs σ xs = ds.map .d → xs = ds.map .d
  | [], ds, h => by
    cases ds with
    | nil => rfl
    | cons d ds => simp [renVs] at h
  | x :: xs, ds, h => by
    cases ds with
    | nil => simp [renVs] at h
    | cons d ds =>
      simp only [renVs, List.map_cons, List.cons.injEq] at h ⊢
      exact ⟨ren_d h.1, rens_allD h.2⟩
theorem rens_map {σ : Nat → Nat} : ∀ (ds : List D), renVs σ (ds.map .d) = ds.map .d
  | [] => rfl
  | d :: ds => by simp only [List.map_cons, renVs, renV, rens_map ds]
theorem mkFn_ren {σ : Nat → Nat} {f : FuncId} {vs xs : List V} (h : vs = renVs σ xs) (hn : (allD vs).isSome = false) : V.fn f vs = renV σ (mkFn f xs) := by
  unfold mkFn
  split
  · rename_i ds hd
    have := allD_spec _ _ hd
    rw [this, rens_map] at h
    rw [h, allD_map] at hn
    cases hn
  · simp only [renV, h]
theorem mkAg_ren {σ : Nat → Nat} {vs xs : List V} (h : vs = renVs σ xs) (hn : (allD vs).isSome = false) : V.ag vs = renV σ (mkAg xs) := by
  unfold mkAg
  split
  · rename_i ds hd
    have := allD_spec _ _ hd
    rw [this, rens_map] at h
    rw [h, allD_map] at hn
    cases hn
  · simp only [renV, h]
theorem mkFn_told {σ : Nat → Nat} {f : FuncId} {ds : List D} {xs : List V} (h : ds.map V.d = renVs σ xs) : V.d (.fn f ds) = renV σ (mkFn f xs) := by
  have := rens_allD h.symm
  subst this
  simp only [mkFn, allD_map, renV]
theorem mkAg_told {σ : Nat → Nat} {ds : List D} {xs : List V} (h : ds.map V.d = renVs σ xs) : V.d (.ag ds) = renV σ (mkAg xs) := by
  have := rens_allD h.symm
  subst this
  simp only [mkAg, allD_map, renV]

theorem renSl_zip {σ : Nat → Nat} : ∀ (ks : List Nat) (vs : List V), renSl σ (ks.zip vs) = ks.zip (renVs σ vs)
  | [], vs => by simp [renSl]
  | k :: ks, [] => by simp [renSl, renVs]
  | k :: ks, v :: vs => by simp only [List.zip_cons_cons, renSl, renVs, renSl_zip ks vs]
theorem renFl_zip {σ : Nat → Nat} : ∀ (ks : List Int) (vs : List V), renFl σ (ks.zip vs) = ks.zip (renVs σ vs)
  | [], vs => by simp [renFl]
  | k :: ks, [] => by simp [renFl, renVs]
  | k :: ks, v :: vs => by simp only [List.zip_cons_cons, renFl, renVs, renFl_zip ks vs]
theorem zip_parts {A : Type} : ∀ (sl : List (A × V)), (sl.map (·.1)).zip (sl.map (·.2)) = sl
  | [] => rfl
  | (k, v) :: r => by simp only [List.map_cons, List.zip_cons_cons, zip_parts r]
section
variable {l : List Nat} {nl : List Bool}
mutual
theorem Sh.get_put : ∀ (s : Sh) (v : V) (ds : List D), s.get l nl v = some ds → ds.length = s.tys.length ∧ ∀ rest, v = renV (sig l) (s.put nl (ds ++ rest)).1 ∧ (s.put nl (ds ++ rest)).2 = rest
  | .x T, v, ds, h => by
    simp only [Sh.get] at h
    split at h
    · injection h with h; subst h
      exact ⟨rfl, fun rest => ⟨rfl, rfl⟩⟩
    · cases h
  | .c t, v, ds, h => by
    simp only [Sh.get] at h
    split at h
    · obtain ⟨h1, h2⟩ := cond_some h
      injection h2 with h2; subst h2
      exact ⟨rfl, fun rest => ⟨by rw [constIs_eq h1]; rfl, rfl⟩⟩
    · cases h
  | .f0 T, v, ds, h => by
    simp only [Sh.get] at h
    split at h
    · obtain ⟨h1, h2⟩ := cond_some h
      injection h2 with h2; subst h2
      exact ⟨rfl, fun rest => ⟨by rw [isF0_eq h1]; simp only [Sh.put, renV], rfl⟩⟩
    · cases h
  | .pt j o, v, ds, h => by
    simp only [Sh.get] at h
    split at h
    · obtain ⟨h1, h2⟩ := cond_some h
      injection h2 with h2; subst h2
      simp only [Bool.and_eq_true, beq_iff_eq] at h1
      exact ⟨rfl, fun rest => ⟨by simp only [Sh.put, renV, h1.1, h1.2], rfl⟩⟩
    · cases h
  | .own j w, v, ds, h => by
    simp only [Sh.get] at h
    split at h
    · obtain ⟨h1, h2⟩ := cond_some h
      injection h2 with h2; subst h2
      simp only [Bool.and_eq_true, beq_iff_eq, Bool.not_eq_true'] at h1
      exact ⟨rfl, fun rest => ⟨by simp only [Sh.put, h1.1, cond_false, renV, h1.2.1, h1.2.2], rfl⟩⟩
    · obtain ⟨h1, h2⟩ := cond_some h
      injection h2 with h2; subst h2
      exact ⟨rfl, fun rest => ⟨by simp only [Sh.put, h1, cond_true, renV], rfl⟩⟩
    · cases h
  | .fn f cs, v, ds, h => by
    simp only [Sh.get] at h
    split at h
    · obtain ⟨h1, h2⟩ := cond_some h
      simp only [Bool.and_eq_true, beq_iff_eq, Bool.not_eq_true'] at h1
      obtain ⟨h3, h4⟩ := Shs.get_put cs _ ds h2
      refine ⟨h3, fun rest => ⟨?_, (h4 rest).2⟩⟩
      rw [← h1.1]
      exact mkFn_ren (h4 rest).1 h1.2
    · obtain ⟨h1, h2⟩ := cond_some h
      obtain ⟨h3, h4⟩ := Shs.get_put cs _ ds h2
      refine ⟨h3, fun rest => ⟨?_, (h4 rest).2⟩⟩
      rw [show f = _ by simpa using h1]
      exact mkFn_told (h4 rest).1
    · cases h
  | .bm f cs, v, ds, h => by
    simp only [Sh.get] at h
    split at h
    · obtain ⟨h1, h2⟩ := cond_some h
      obtain ⟨h3, h4⟩ := Shs.get_put cs _ ds h2
      refine ⟨h3, fun rest => ⟨?_, (h4 rest).2⟩⟩
      rw [show f = _ by simpa using h1]
      simp only [Sh.put, renV]
      rw [← (h4 rest).1]
    · cases h
  | .ag cs, v, ds, h => by
    simp only [Sh.get] at h
    split at h
    · obtain ⟨h1, h2⟩ := cond_some h
      simp only [Bool.not_eq_true'] at h1
      obtain ⟨h3, h4⟩ := Shs.get_put cs _ ds h2
      exact ⟨h3, fun rest => ⟨mkAg_ren (h4 rest).1 h1, (h4 rest).2⟩⟩
    · obtain ⟨h3, h4⟩ := Shs.get_put cs _ ds h
      exact ⟨h3, fun rest => ⟨mkAg_told (h4 rest).1, (h4 rest).2⟩⟩
    · cases h
  | .mp j, v, ds, h => by
    simp only [Sh.get] at h
    split at h
    · obtain ⟨h1, h2⟩ := cond_some h
      injection h2 with h2; subst h2
      exact ⟨rfl, fun rest => ⟨by simp only [Sh.put, renV, eq_of_beq h1], rfl⟩⟩
    · cases h
  | .ep j w k o, v, ds, h => by
    simp only [Sh.get] at h
    split at h
    · obtain ⟨h1, h2⟩ := cond_some h
      injection h2 with h2; subst h2
      simp only [Bool.and_eq_true] at h1
      obtain ⟨g1, g2, g3, g4⟩ := h1
      exact ⟨rfl, fun rest => ⟨by simp only [Sh.put, renV, eq_of_beq g1, Nat.eq_of_beq_eq_true g2, Nat.eq_of_beq_eq_true g3, Nat.eq_of_beq_eq_true g4], rfl⟩⟩
    · cases h
  | .yd j ks cs ps a b, v, ds, h => by
    simp only [Sh.get] at h
    split at h
    · obtain ⟨h1, h2⟩ := cond_some h
      simp only [Bool.and_eq_true] at h1
      obtain ⟨g1, g2, g3, g4, g5⟩ := h1
      obtain ⟨h3, h4⟩ := Shs.get_put cs _ ds h2
      refine ⟨h3, fun rest => ⟨?_, (h4 rest).2⟩⟩
      simp only [Sh.put, renV]
      rw [renSl_zip, ← (h4 rest).1, listEq_eq Nat.eq_of_beq_eq_true g2, zip_parts, eq_of_beq g1, listEq_eq Nat.eq_of_beq_eq_true g3, codeEq_eq g4, codeEq_eq g5]
    · cases h
theorem Shs.get_put : ∀ (s : Shs) (vs : List V) (ds : List D), s.get l nl vs = some ds → ds.length = s.tys.length ∧ ∀ rest, vs = renVs (sig l) (s.put nl (ds ++ rest)).1 ∧ (s.put nl (ds ++ rest)).2 = rest
  | .nil, vs, ds, h => by
    simp only [Shs.get] at h
    split at h
    · injection h with h; subst h
      exact ⟨rfl, fun rest => ⟨rfl, rfl⟩⟩
    · cases h
  | .cons s r, vs, ds, h => by
    simp only [Shs.get] at h
    split at h
    · rename_i v vs
      split at h
      · rename_i d1 h1
        split at h
        · rename_i d2 h2
          injection h with h; subst h
          obtain ⟨g1, g2⟩ := Sh.get_put s v d1 h1
          obtain ⟨g3, g4⟩ := Shs.get_put r vs d2 h2
          refine ⟨by simp only [Shs.tys, List.length_append, g1, g3], fun rest => ?_⟩
          have e1 := g2 (d2 ++ rest)
          have e2 := g4 rest
          rw [List.append_assoc]
          simp only [Shs.put, renVs]
          rw [e1.2]
          exact ⟨by rw [← e1.1, ← e2.1], e2.2⟩
        · cases h
      · cases h
    · cases h
end
theorem getS_put {f : Slots} : ∀ (sl : List (Nat × Sh)) (ds : List D), getS l nl f sl = some ds → ds.length = (slTys sl).length ∧ ∀ rest, slotsW f (sig l) (putS nl sl (ds ++ rest)).1
  | [], ds, h => by
    simp only [getS, Option.some.injEq] at h
    subst h
    exact ⟨rfl, fun rest => trivial⟩
  | (k, s) :: r, ds, h => by
    simp only [getS] at h
    split at h
    · rename_i d1 h1
      split at h
      · rename_i d2 h2
        injection h with h; subst h
        obtain ⟨g1, g2⟩ := s.get_put _ d1 h1
        obtain ⟨g3, g4⟩ := getS_put r d2 h2
        refine ⟨by simp only [slTys, List.length_append, g1, g3], fun rest => ?_⟩
        have e1 := g2 (d2 ++ rest)
        rw [List.append_assoc]
        simp only [putS]
        rw [e1.2]
        exact ⟨e1.1, g4 rest⟩
      · cases h
    · cases h
theorem BSh.get_put {n : Bool} {σ : Nat → Nat} : ∀ (b : BSh) (x : Blk) (ds : List D), b.get l nl n x = some ds → (σ = sig l) → ds.length = b.tys.length ∧ ∀ rest, ((b.put nl (ds ++ rest)).1 ≠ .dead → x = renB σ (b.put nl (ds ++ rest)).1) ∧ (b.put nl (ds ++ rest)).2 = rest
  | .box cs, x, ds, h, hσ => by
    subst hσ
    simp only [BSh.get] at h
    split at h
    · cases n
      · simp only [cond_false] at h
        obtain ⟨g1, g2⟩ := cs.get_put _ ds h
        exact ⟨g1, fun rest => ⟨fun _ => by simp only [BSh.put, renB]; rw [← (g2 rest).1], (g2 rest).2⟩⟩
      · cases h
    · cases h
  | .arr T, x, ds, h, hσ => by
    simp only [BSh.get] at h
    split at h
    · cases n
      · simp only [cond_false, Option.some.injEq] at h
        subst h
        exact ⟨rfl, fun rest => ⟨fun _ => rfl, rfl⟩⟩
      · cases h
    · cases h
  | .arrN T, x, ds, h, hσ => by
    simp only [BSh.get] at h
    cases n
    · simp only [cond_false] at h
      split at h
      · rename_i w xs
        obtain ⟨h1, h⟩ := cond_none h
        injection h with h; subst h
        refine ⟨rfl, fun rest => ⟨fun hd => ?_, rfl⟩⟩
        simp only [BSh.put, List.cons_append, nilD, h1, cond_false, arrOf, renB]
      · cases h
    · simp only [cond_true, Option.some.injEq] at h
      subst h
      exact ⟨rfl, fun rest => ⟨fun hd => by simp [BSh.put, nilD, Ls.nil] at hd, rfl⟩⟩
  | .fz T, x, ds, h, hσ => by
    simp only [BSh.get] at h
    split at h
    · cases n
      · simp only [cond_false, Option.some.injEq] at h
        subst h
        exact ⟨rfl, fun rest => ⟨fun _ => rfl, rfl⟩⟩
      · cases h
    · cases h
  | .mp K V, x, ds, h, hσ => by
    simp only [BSh.get] at h
    split at h
    · cases n
      · simp only [cond_false, Option.some.injEq] at h
        subst h
        exact ⟨rfl, fun rest => ⟨fun _ => rfl, rfl⟩⟩
      · cases h
    · cases h
  | .fm k ms cs, x, ds, h, hσ => by
    subst hσ
    simp only [BSh.get] at h
    split at h
    · cases n
      · simp only [cond_false] at h
        obtain ⟨h1, h⟩ := cond_some h
        simp only [Bool.and_eq_true, decide_eq_true_eq] at h1
        obtain ⟨g1, g2⟩ := cs.get_put _ ds h
        refine ⟨g1, fun rest => ⟨fun _ => ?_, (g2 rest).2⟩⟩
        simp only [BSh.put, renB]
        rw [renFl_zip, ← (g2 rest).1, listEq_eq (fun h => eq_of_beq h) h1.2, zip_parts, h1.1]
      · cases h
    · cases h
  | .it, x, ds, h, hσ => by
    simp only [BSh.get] at h
    split at h
    · cases n
      · simp only [cond_false, Option.some.injEq] at h
        subst h
        exact ⟨rfl, fun rest => ⟨fun _ => by simp only [BSh.put, List.cons_append, itOf, renB, Int.toNat_natCast], rfl⟩⟩
      · cases h
    · cases h
  | .lp t, x, ds, h, hσ => by
    simp only [BSh.get] at h
    split at h
    · cases n
      · simp only [cond_false] at h
        obtain ⟨h1, h2⟩ := cond_some h
        injection h2 with h2; subst h2
        exact ⟨rfl, fun rest => ⟨fun _ => by simp only [BSh.put, renB, lpIs_eq h1], rfl⟩⟩
      · cases h
    · cases h
  | .dead, x, ds, h, hσ => by
    simp only [BSh.get] at h
    cases n
    · simp only [cond_false, Option.some.injEq] at h
      subst h
      exact ⟨rfl, fun rest => ⟨fun hd => by simp [BSh.put] at hd, rfl⟩⟩
    · cases h
theorem getB_put {hp : Heap} : ∀ (bl : List BSh) (j : Nat) (ds : List D), getB l nl hp j bl = some ds → ds.length = (blTys bl).length ∧ ∀ rest, heapW hp (sig l) (putB nl j bl (ds ++ rest))
  | [], j, ds, h => by
    simp only [getB, Option.some.injEq] at h
    subst h
    exact ⟨rfl, fun rest => trivial⟩
  | b :: r, j, ds, h => by
    simp only [getB] at h
    split at h
    · rename_i d1 h1
      split at h
      · rename_i d2 h2
        injection h with h; subst h
        obtain ⟨g1, g2⟩ := b.get_put _ d1 h1 rfl
        obtain ⟨g3, g4⟩ := getB_put r (j + 1) d2 h2
        refine ⟨by simp only [blTys, List.length_append, g1, g3], fun rest => ?_⟩
        have e1 := g2 (d2 ++ rest)
        rw [List.append_assoc]
        simp only [putB]
        rw [e1.2]
        exact ⟨e1.1, g4 rest⟩
      · cases h
    · cases h
end

def frzSl : List (Nat × Sh) → St → (St → Option α) → Option α
  | [], st, K => K st
  | (k, .x T) :: r, st, K => frzK st.h (get st.f k) fun d hp => frzSl r ⟨(k, .d (coeT T d)) :: st.f, st.n, hp⟩ K
  | (_, _) :: r, st, K => frzSl r st K
def sameBs : List Bool → List Bool → Bool
  | [], [] => true
  | a :: l, b :: m => (bif a then b else !b) && sameBs l m
  | _, _ => false
theorem sameBs_eq : ∀ {a b : List Bool}, sameBs a b = true → a = b
  | [], [], _ => rfl
  | a :: l, b :: m, h => by
    simp only [sameBs, Bool.and_eq_true] at h
    rw [sameBs_eq h.2]
    cases a <;> cases b <;> first | rfl | cases h.1
  | [], _ :: _, h => by cases h
  | _ :: _, [], h => by cases h
def cutK (n0 : Nat) (s : SSh) (st : St) (K : List D → Option α) : Option α :=
  match getS (lOf n0 (bndS n0 st s) s.bl.length) (nOf (bndS n0 st s) s.bl.length) st.f s.sl with
  | some ds => match getB (lOf n0 (bndS n0 st s) s.bl.length) (nOf (bndS n0 st s) s.bl.length) st.h 0 s.bl with
    | some es => bif okW (s.st (ds ++ es)) && (okSig n0 s.bl.length (lOf n0 (bndS n0 st s) s.bl.length) && sameBs (nbs s.bl es) (nOf (bndS n0 st s) s.bl.length)) then K (ds ++ es) else none
    | none => none
  | none => none
def coeV : Shs → List V → List V
  | .nil, vs => vs
  | .cons s r, vs => match vs with
    | [] => []
    | v :: vs => (match s with
      | .x T => (match v with
        | .d d => .d (coeT T d)
        | v => v)
      | _ => v) :: coeV r vs
def nilAt : Sh → V → Bool
  | .x (.l _), .d .nsl => true
  | _, _ => false
def needV : Shs → List V → Bool
  | .nil, _ => false
  | .cons s r, vs => match vs with
    | [] => false
    | v :: vs => nilAt s v || needV r vs
def frzBl (bl : List BSh) : List (Nat × Sh) → St → St
  | [], st => st
  | (k, .pt j _) :: r, st => frzBl bl r (match bl.getD j .dead with
    | .box cs => (match get st.f k with
      | .pt id _ => (match lk st.h id with
        | .box vs => bif needV cs vs then ⟨st.f, st.n, (id, .box (coeV cs vs)) :: st.h⟩ else st
        | _ => st)
      | _ => st)
    | _ => st)
  | (_, _) :: r, st => frzBl bl r st
def frzCell (T : Ty) (id i : Nat) (st : St) (K : St → Option α) : Option α := match lk st.h id with
  | .box vs => (match vs[i]? with
    | some v => (match v with
      | .d _ => K st
      | v => frzK st.h v fun d hp => (match lk hp id with
        | .box vs' => K ⟨st.f, st.n, (id, .box (vs'.set i (.d (coeT T d)))) :: hp⟩
        | _ => none))
    | none => K st)
  | _ => K st
def frzCells (id : Nat) : Shs → Nat → St → (St → Option α) → Option α
  | .nil, _, st, K => K st
  | .cons s r, i, st, K => match s with
    | .x T => frzCell T id i st fun st => frzCells id r (i + 1) st K
    | _ => frzCells id r (i + 1) st K
def frzCl (bl : List BSh) : List (Nat × Sh) → St → (St → Option α) → Option α
  | [], st, K => K st
  | (k, .pt j _) :: r, st, K => (match bl.getD j .dead, get st.f k with
    | .box cs, .pt id _ => frzCells id cs 0 st fun st => frzCl bl r st K
    | _, _ => frzCl bl r st K)
  | (_, _) :: r, st, K => frzCl bl r st K
def absK (n0 : Nat) (s : SSh) (st : St) (K : List D → Option α) : Option α := frzSl s.sl st fun st => frzCl s.bl s.sl (frzBl s.bl s.sl st) fun st => cutK n0 s st K

def Less (n0 : Nat) (st st' : St) : Prop := n0 ≤ st.n → n0 ≤ st'.n ∧ ∀ (G : Nat → Option (List D)) (lo nt : Nat) (c : Cf) (a : Act), SR G lo nt c st a → ∃ c', Ext c n0 c' ∧ c'.w = c.w ∧ SR G lo nt c' st' a
theorem Less.refl (n0 : Nat) (st : St) : Less n0 st st := fun h => ⟨h, fun G lo nt c a hr => ⟨c, .refl c n0, rfl, hr⟩⟩
theorem Less.trans {n0 : Nat} {a b c : St} (h : Less n0 a b) (k : Less n0 b c) : Less n0 a c := fun hn => by
  obtain ⟨h1, h2⟩ := h hn
  obtain ⟨k1, k2⟩ := k h1
  refine ⟨k1, fun G lo nt cf act hr => ?_⟩
  obtain ⟨c1, e1, w1, r1⟩ := h2 G lo nt cf act hr
  obtain ⟨c2, e2, w2, r2⟩ := k2 G lo nt c1 act r1
  exact ⟨c2, e1.trans e2 (Nat.le_refl _), w2.trans w1, r2⟩
theorem frz_less {n0 : Nat} {st : St} {k : Nat} {T : Ty} {d : D} {hp : Heap} (h : frz st.h (get st.f k) = some (d, hp)) : Less n0 st ⟨(k, .d (coeT T d)) :: st.f, st.n, hp⟩ := by
  intro hn
  refine ⟨hn, fun G lo nt c a hr => ?_⟩
  obtain ⟨c', hF, hd⟩ := frz_sound _ c st.h hp d _ h hr.h (hr.s.get k)
  refine ⟨c', hF.ext.weaken hn, hF.w, (hF.ext.G).trans hr.g, ⟨(hr.s.mono hF.ext (Nat.le_refl _)).glob, fun t => ?_⟩, hF.heap, hr.size, hr.defers.mono hF.ext⟩
  rw [get_cons]
  by_cases ht : k = t
  · subst ht; rw [if_pos rfl]; exact .d _ _ (coeT_rel hd)
  · rw [if_neg ht]; exact (hr.s.get t).mono hF.ext (Nat.le_refl _)
theorem frzSl_sound {n0 : Nat} : ∀ {sl : List (Nat × Sh)} {st : St} {K : St → Option α}, frzSl sl st K = some r → ∃ st', Less n0 st st' ∧ K st' = some r
  | [], st, K, h => ⟨st, .refl n0 st, h⟩
  | (k, s) :: r', st, K, h => by
    cases s with
    | x T =>
      simp only [frzSl] at h
      obtain ⟨d, hp, h1, h2⟩ := frzK_sound h
      obtain ⟨st', h3, h4⟩ := frzSl_sound h2
      exact ⟨st', (frz_less h1).trans h3, h4⟩
    | _ => exact frzSl_sound (sl := r') h
theorem Weak.less {n0 : Nat} {l : List Nat} {st st' : St} (hw : Weak n0 l st st') : Less n0 st st' := by
  intro hn
  have hsg := hw.sg
  simp only [okSig, Bool.and_eq_true] at hsg
  refine ⟨Nat.le_of_ble_eq_true hsg.1.1, fun G lo nt c a hr => ?_⟩
  obtain ⟨c', h1, h2, h3, h4⟩ := hw.use hr
  exact ⟨c', h1, h2, h4⟩
theorem cutK_sound {n0 : Nat} {s : SSh} {st : St} {K : List D → Option α} (h : cutK n0 s st K = some r) : ∃ ds, Less n0 st (s.st ds) ∧ K ds = some r := by
  unfold cutK at h
  split at h
  · rename_i ds hs
    split at h
    · rename_i es hb
      obtain ⟨hc, h⟩ := cond_some h
      simp only [Bool.and_eq_true] at hc
      obtain ⟨h1, h2, h3⟩ := hc
      have h3 := sameBs_eq h3
      refine ⟨ds ++ es, Weak.less (l := lOf n0 (bndS n0 st s) s.bl.length) ⟨?_, ?_, h1, h2⟩, h⟩
      · obtain ⟨g1, g2⟩ := getS_put s.sl ds hs
        have := g2 es
        simp only [SSh.st, ← g1, List.drop_left, h3]
        exact this
      · obtain ⟨g1, _⟩ := getS_put s.sl ds hs
        obtain ⟨g3, g4⟩ := getB_put s.bl 0 es hb
        have := g4 []
        rw [List.append_nil] at this
        simp only [SSh.st, ← g1, List.drop_left, h3]
        exact this
    · cases h
  · cases h
theorem coeV_len : ∀ (cs : Shs) (vs : List V), (coeV cs vs).length = vs.length
  | .nil, _ => rfl
  | .cons s r, [] => rfl
  | .cons s r, v :: vs => by simp only [coeV, List.length_cons, coeV_len r vs]
theorem coeV_rel : ∀ (cs : Shs) (vs : List V) (j : Nat) (x : V), (coeV cs vs)[j]? = some x → ∃ y, vs[j]? = some y ∧ ∀ (c : Cf) (n : Nat) (v : Value), RelV c n y v → RelV c n x v
  | .nil, vs, j, x, h => ⟨x, h, fun _ _ _ h => h⟩
  | .cons s r, [], j, x, h => by simp [coeV] at h
  | .cons s r, v :: vs, 0, x, h => by
    refine ⟨v, rfl, fun c n val hv => ?_⟩
    simp only [coeV, List.getElem?_cons_zero, Option.some.injEq] at h
    subst h
    split
    · split
      · exact .d _ _ (coeT_rel hv.inv_d)
      · exact hv
    · exact hv
  | .cons s r, v :: vs, j + 1, x, h => by
    simp only [coeV, List.getElem?_cons_succ] at h ⊢
    exact coeV_rel r vs j x h
theorem relH_box {c : Cf} {n : Nat} {hp : Heap} (hH : RelH c n hp) {id : Nat} {vs ws : List V} (hb : lk hp id = .box vs) (hlen : ws.length = vs.length)
    (hr : ∀ (w : Array Value) (e : TypeId), c.w.heap[c.bk id]? = some (.cells w e (0, 0)) → ∀ (j : Nat) (x : V), ws[j]? = some x → RelV c n x (w.getD j undef) ∧ (w.getD j undef).oneCell' = true) : RelH c n ((id, .box ws) :: hp) := by
  have hl : ∀ id', lk ((id, Blk.box ws) :: hp) id' = if id = id' then Blk.box ws else lk hp id' := fun id' => lk_cons ..
  have hown : ∀ id', (lk ((id, Blk.box ws) :: hp) id').own = (lk hp id').own := fun id' => by
    rw [hl]
    by_cases e : id = id'
    · subst e; rw [if_pos rfl, hb]; rfl
    · rw [if_neg e]
  have ne : ∀ {id' : Nat} {b : Blk}, lk ((id, Blk.box ws) :: hp) id' = b → (∀ us, b ≠ .box us) → lk hp id' = b := fun {id' b} h hb' => by
    rw [hl] at h
    by_cases e : id = id'
    · rw [if_pos e] at h; exact absurd h.symm (hb' _)
    · rwa [if_neg e] at h
  refine ⟨fun id' o h => hH.ot id' o (ne h fun _ => by simp), fun id' h => ?_, fun id' us h => ?_, fun id' wd xs h => hH.arr id' wd xs (ne h fun _ => by simp), fun id' wd xs h => hH.fz id' wd xs (ne h fun _ => by simp), fun id' h => hH.own id' (by rwa [hown] at h), fun i i' h h' => hH.inj i i' (by rwa [hown] at h) (by rwa [hown] at h'), hH.low, fun id' h => hH.ownK id' (by rwa [hown] at h), hH.disj, hH.lowK⟩
  · by_cases e : id = id'
    · subst e; exact hH.lt id (by rw [hb]; simp)
    · rw [hl, if_neg e] at h; exact hH.lt id' h
  · rw [hl] at h
    by_cases e : id = id'
    · subst e
      rw [if_pos rfl] at h
      injection h with h
      subst h
      obtain ⟨w, e, h1, h2, h3⟩ := hH.box id vs hb
      exact ⟨w, e, h1, by rw [hlen]; exact h2, hr w e h1⟩
    · rw [if_neg e] at h; exact hH.box id' us h
theorem box_less {n0 : Nat} {st : St} {id : Nat} {vs : List V} (hb : lk st.h id = .box vs) (cs : Shs) : Less n0 st ⟨st.f, st.n, (id, .box (coeV cs vs)) :: st.h⟩ := by
  intro hn
  refine ⟨hn, fun G lo nt c a hr => ⟨c, .refl c n0, rfl, ⟨hr.g, hr.s, relH_box hr.h hb (coeV_len cs vs) fun w e hw j x hj => ?_, hr.size, hr.defers⟩⟩⟩
  obtain ⟨w', e', h1, h2, h3⟩ := hr.h.box id vs hb
  rw [h1] at hw
  injection hw with hw
  injection hw with hw
  subst hw
  obtain ⟨y, hy, hrel⟩ := coeV_rel cs vs j x hj
  exact ⟨hrel _ _ _ (h3 j y hy).1, (h3 j y hy).2⟩
theorem cell_less {n0 : Nat} {st : St} {id i : Nat} {T : Ty} {vs vs' : List V} {v : V} {d : D} {hp : Heap} (hb : lk st.h id = .box vs) (hv : vs[i]? = some v) (hf : frz st.h v = some (d, hp)) (hb' : lk hp id = .box vs') :
    Less n0 st ⟨st.f, st.n, (id, .box (vs'.set i (.d (coeT T d)))) :: hp⟩ := by
  intro hn
  refine ⟨hn, fun G lo nt c a hr => ?_⟩
  obtain ⟨w, e, h1, h2, h3⟩ := hr.h.box id vs hb
  obtain ⟨c', hF, hd⟩ := frz_sound v c st.h hp d _ hf hr.h (h3 i v hv).1
  refine ⟨c', hF.ext.weaken hn, hF.w, hF.ext.G.trans hr.g, hr.s.mono hF.ext (Nat.le_refl _), relH_box hF.heap hb' (List.length_set ..) fun w' e' hw j x hj => ?_, hr.size, hr.defers.mono hF.ext⟩
  obtain ⟨w2, e2, g1, g2, g3⟩ := hF.heap.box id vs' hb'
  rw [g1] at hw
  injection hw with hw
  injection hw with hw
  subst hw
  rw [hF.w, hF.bk, h1] at g1
  injection g1 with g1
  injection g1 with g1
  subst g1
  by_cases hij : i = j
  · subst hij
    have hlt : i < vs'.length := by
      have := (List.getElem?_eq_some_iff.1 hj).1
      rwa [List.length_set] at this
    rw [List.getElem?_set_self hlt] at hj
    injection hj with hj
    subst hj
    exact ⟨.d _ _ (coeT_rel hd), (h3 i v hv).2⟩
  · rw [List.getElem?_set_ne hij] at hj
    exact g3 j x hj
theorem frzCell_sound {n0 : Nat} {T : Ty} {id i : Nat} {st : St} {K : St → Option α} (h : frzCell T id i st K = some r) : ∃ st', Less n0 st st' ∧ K st' = some r := by
  unfold frzCell at h
  split at h
  · rename_i vs hb
    split at h
    · rename_i v hv
      split at h
      · exact ⟨st, .refl n0 st, h⟩
      · obtain ⟨d, hp, h1, h2⟩ := frzK_sound h
        split at h2
        · rename_i vs' hb'
          exact ⟨_, cell_less hb hv h1 hb', h2⟩
        · cases h2
    · exact ⟨st, .refl n0 st, h⟩
  · exact ⟨st, .refl n0 st, h⟩
theorem frzCells_sound {n0 id : Nat} : ∀ {cs : Shs} {i : Nat} {st : St} {K : St → Option α}, frzCells id cs i st K = some r → ∃ st', Less n0 st st' ∧ K st' = some r
  | .nil, i, st, K, h => ⟨st, .refl n0 st, h⟩
  | .cons s r', i, st, K, h => by
    simp only [frzCells] at h
    split at h
    · obtain ⟨st1, h1, h2⟩ := frzCell_sound (n0 := n0) h
      obtain ⟨st2, h3, h4⟩ := frzCells_sound (cs := r') h2
      exact ⟨st2, h1.trans h3, h4⟩
    · exact frzCells_sound (cs := r') h
theorem frzCl_sound {n0 : Nat} (bl : List BSh) : ∀ {sl : List (Nat × Sh)} {st : St} {K : St → Option α}, frzCl bl sl st K = some r → ∃ st', Less n0 st st' ∧ K st' = some r
  | [], st, K, h => ⟨st, .refl n0 st, h⟩
  | (k, s) :: r', st, K, h => by
    cases s with
    | pt j o =>
      simp only [frzCl] at h
      split at h
      · obtain ⟨st1, h1, h2⟩ := frzCells_sound (n0 := n0) h
        obtain ⟨st2, h3, h4⟩ := frzCl_sound bl (sl := r') h2
        exact ⟨st2, h1.trans h3, h4⟩
      · exact frzCl_sound bl (sl := r') h
    | _ => exact frzCl_sound bl (sl := r') h
theorem frzBl_less {n0 : Nat} (bl : List BSh) : ∀ (sl : List (Nat × Sh)) (st : St), Less n0 st (frzBl bl sl st)
  | [], st => .refl n0 st
  | (k, s) :: r, st => by
    cases s with
    | pt j o =>
      simp only [frzBl]
      refine Less.trans ?_ (frzBl_less bl r _)
      split
      · split
        · split
          · rename_i vs hb
            cases needV _ vs
            · exact .refl n0 st
            · exact box_less hb _
          · exact .refl n0 st
        · exact .refl n0 st
      · exact .refl n0 st
    | _ => exact frzBl_less bl r st
theorem absK_sound {n0 : Nat} {s : SSh} {st : St} {K : List D → Option α} (h : absK n0 s st K = some r) : ∃ ds, Less n0 st (s.st ds) ∧ K ds = some r := by
  unfold absK at h
  obtain ⟨st', h1, h2⟩ := frzSl_sound (n0 := n0) h
  obtain ⟨st2, h5, h6⟩ := frzCl_sound (n0 := n0) s.bl h2
  obtain ⟨ds, h3, h4⟩ := cutK_sound h6
  exact ⟨ds, ((h1.trans (frzBl_less s.bl s.sl st')).trans h5).trans h3, h4⟩
end Go.Fw
end
section
set_option linter.unusedVariables false
set_option linter.unusedSimpArgs false
namespace Go.Fw
variable {P : Program} {α : Type} {r : α}

abbrev PEnds := List (X × SSh)
@[reducible] def OutV : PEnds → Type
  | [] => Empty
  | o :: os => match os with
    | [] => Vals o.2.tys
    | _ :: _ => Vals o.2.tys ⊕ OutV os
def split1 : (t : Ty) → Bool → t.den → (t.den → Option α) → Option α
  | .l t0, true => fun (x : List t0.den) K => match x with
    | [] => K ([] : List t0.den)
    | a :: l => K (a :: l : List t0.den)
  | _, _ => fun x K => K x
def splitV : (ts : List Ty) → List Bool → Vals ts → (Vals ts → Option α) → Option α
  | [], _, v, K => K v
  | [t], ns, v, K => split1 t (ns.getD 0 false) v K
  | t :: t' :: ts, ns, v, K => split1 t (ns.getD 0 false) v.1 fun x => splitV (t' :: ts) (ns.drop 1) v.2 fun y => K (x, y)
theorem split1_is : ∀ {t : Ty} {n : Bool} {v : t.den} {K : t.den → Option α}, split1 t n v K = K v
  | .l t0, true, v, K => by
    simp only [split1]
    cases (v : List t0.den) <;> rfl
  | .l t0, false, v, K => rfl
  | .b, n, v, K => by cases n <;> rfl
  | .s, n, v, K => by cases n <;> rfl
  | .e, n, v, K => by cases n <;> rfl
  | .u, n, v, K => by cases n <;> rfl
  | .i _, n, v, K => by cases n <;> rfl
  | .p _ _, n, v, K => by cases n <;> rfl
  | .g _, n, v, K => by cases n <;> rfl
theorem splitV_is : ∀ {ts : List Ty} {ns : List Bool} {v : Vals ts} {K : Vals ts → Option α}, splitV ts ns v K = K v
  | [], _, v, K => rfl
  | [t], ns, v, K => split1_is
  | t :: t' :: ts, ns, v, K => by
    show split1 t _ v.1 _ = _
    rw [split1_is]
    exact splitV_is (ts := t' :: ts)
def nilHoles (s : SSh) : List Bool := (slTys s.sl).map (fun _ => false) ++ s.bl.flatMap fun b => match b with
  | .arrN _ => [true]
  | b => b.tys.map fun _ => false
def outGo : (os : PEnds) → OutV os → (X → St → Option α) → Option α
  | [], r, K => r.elim
  | [o], v, K => splitV o.2.tys (nilHoles o.2) v fun v => K o.1 (o.2.st (elts o.2.tys v))
  | o :: o' :: os, v, K => match v with
    | .inl v => splitV o.2.tys (nilHoles o.2) v fun v => K o.1 (o.2.st (elts o.2.tys v))
    | .inr v => outGo (o' :: os) v K
def outIs : (os : PEnds) → OutV os → X × St
  | [], r => r.elim
  | [o], v => (o.1, o.2.st (elts o.2.tys v))
  | o :: o' :: os, v => match v with
    | .inl v => (o.1, o.2.st (elts o.2.tys v))
    | .inr v => outIs (o' :: os) v
theorem outGo_is : ∀ {os : PEnds} {v : OutV os} {K : X → St → Option α}, outGo os v K = K (outIs os v).1 (outIs os v).2
  | [], v, K => v.elim
  | [o], v, K => splitV_is (ts := o.2.tys) (K := fun v => K o.1 (o.2.st (elts o.2.tys v)))
  | o :: o' :: os, v, K => by
    cases v with
    | inl v => exact splitV_is (ts := o.2.tys) (K := fun v => K o.1 (o.2.st (elts o.2.tys v)))
    | inr v => exact outGo_is (os := o' :: os) (v := v)
def xIs : X → X → Bool
  | .n, .n => true
  | .ret, .ret => true
  | .exit a, .exit b => a == b
  | _, _ => false
theorem xIs_eq {a b : X} (h : xIs a b = true) : a = b := by
  cases a <;> cases b <;> simp only [xIs] at h <;> first | rfl | (cases h; done) | skip
  rename_i i j
  rw [show i = j from by simpa using h]
def outGet (n0 : Nat) : (os : PEnds) → X → St → (OutV os → Option α) → Option α
  | [], _, _, _ => none
  | [o], x, st, K => bif xIs x o.1 then absK n0 o.2 st fun ds => (match decAll o.2.tys ds with
    | some v => K v
    | none => none) else none
  | o :: o' :: os, x, st, K => bif xIs x o.1 then absK n0 o.2 st fun ds => (match decAll o.2.tys ds with
    | some v => K (.inl v)
    | none => none) else outGet n0 (o' :: os) x st fun v => K (.inr v)
theorem outGet_sound {n0 : Nat} : ∀ {os : PEnds} {x : X} {st : St} {K : OutV os → Option α}, outGet n0 os x st K = some r → ∃ v, x = (outIs os v).1 ∧ Less n0 st (outIs os v).2 ∧ K v = some r
  | [], x, st, K, h => by cases h
  | [o], x, st, K, h => by
    simp only [outGet] at h
    obtain ⟨h1, h2⟩ := cond_some h
    obtain ⟨ds, h3, h4⟩ := absK_sound h2
    split at h4
    · rename_i v hv
      refine ⟨v, xIs_eq h1, ?_, h4⟩
      show Less n0 st (o.2.st (elts o.2.tys v))
      rw [decAll_elts hv]; exact h3
    · cases h4
  | o :: o' :: os, x, st, K, h => by
    simp only [outGet] at h
    cases hx : xIs x o.1 <;> rw [hx] at h
    · obtain ⟨v, h1, h2, h3⟩ := outGet_sound (os := o' :: os) h
      exact ⟨.inr v, h1, h2, h3⟩
    · obtain ⟨ds, h3, h4⟩ := absK_sound h
      split at h4
      · rename_i v hv
        refine ⟨.inl v, xIs_eq hx, ?_, h4⟩
        show Less n0 st (o.2.st (elts o.2.tys v))
        rw [decAll_elts hv]; exact h3
      · cases h4

structure NodeT where
  sh : SSh
  os : PEnds
  f : Vals sh.tys → Option (OutV os)
def NodeT.summ (T : NodeT) (n0 : Nat) : Summ := fun st _ K => absK n0 T.sh st fun ds => match decAll T.sh.tys ds with
  | some s => (T.f s).bind fun r => outGo T.os r K
  | none => none
section
variable {G : Nat → Option (List D)} {nt n0 : Nat}
theorem CodeN.less {code : Code} {st st1 : St} {q : X × St} (hw : Less n0 st st1) (hl : CodeN P G nt n0 code st1 q) : CodeN P G nt n0 code st q := by
  intro h0 ro hro lo c a Q hr hQ
  obtain ⟨hn, hu⟩ := hw h0
  obtain ⟨c', hx, hw', hr'⟩ := hu _ _ _ _ _ hr
  have := hl hn ro hro lo c' a Q hr' fun a2 c2 hx2 hn2 hr2 => hQ a2 c2 (hx.trans hx2 (Nat.le_refl _)) hn2 hr2
  rw [hw'] at this
  exact this
theorem CodeN.less_out {code : Code} {st st1 st2 : St} {x : X} (hl : CodeN P G nt n0 code st (x, st1)) (hw : Less n0 st1 st2) : CodeN P G nt n0 code st (x, st2) := by
  intro h0 ro hro lo c a Q hr hQ
  refine hl h0 ro hro lo c a Q hr fun a1 c1 hx1 hn1 hr1 => ?_
  obtain ⟨hn, hu⟩ := hw hn1
  obtain ⟨c', hx, hw', hr'⟩ := hu _ _ _ _ _ hr1
  have := hQ a1 c' (hx1.trans hx (Nat.le_refl _)) hn hr'
  rw [hw'] at this
  exact this
def turnK (P : Program) (H : HK) (L : Loops) (c : Code) (n0 : Nat) (sh : SSh) (os : PEnds) (s : Vals sh.tys) (K : Vals sh.tys ⊕ OutV os → Option α) : Option α :=
  evK P H L c 0 (sh.st (elts sh.tys s)) fun x st => match x with
    | .n => absK n0 sh st fun ds => match decAll sh.tys ds with
      | some s' => K (.inl s')
      | none => none
    | x => outGet n0 os x st fun v => K (.inr v)
def turnEnd (sh : SSh) (os : PEnds) (y : Vals sh.tys ⊕ OutV os) : X × St := match y with
  | .inl s' => (.n, sh.st (elts sh.tys s'))
  | .inr v => outIs os v
theorem turnK_sound {H : HK} (hok : HKOK P H) {L : Loops} {c : Code} {sh : SSh} {os : PEnds} (hc : okCode nt c = true) (hL : LoopsSem P H.G nt n0 L c 0) {s : Vals sh.tys} {y : Vals sh.tys ⊕ OutV os} (h : turnK P H L c n0 sh os s some = some y) :
    CodeN P H.G nt n0 c (sh.st (elts sh.tys s)) (turnEnd sh os y) := by
  unfold turnK at h
  obtain ⟨x, st', h1, h2⟩ := evK_sound hok c 0 _ _ hc hL h
  cases x with
  | n =>
    obtain ⟨ds, h3, h4⟩ := absK_sound h2
    split at h4
    · rename_i s' hs
      injection h4 with h4
      subst h4
      rw [← decAll_elts hs] at h3
      exact h1.less_out h3
    · cases h4
  | ret =>
    obtain ⟨v, hv, h3, h4⟩ := outGet_sound h2
    injection h4 with h4
    subst h4
    have := h1.less_out h3
    rw [hv] at this
    exact this
  | exit j =>
    obtain ⟨v, hv, h3, h4⟩ := outGet_sound h2
    injection h4 with h4
    subst h4
    have := h1.less_out h3
    rw [hv] at this
    exact this
def okEnds (os : PEnds) : Bool := os.all fun o => !xIs o.1 .n
theorem okEnds_is : ∀ {os : PEnds}, okEnds os = true → ∀ v : OutV os, (outIs os v).1 ≠ .n
  | [], _, v => v.elim
  | [o], h, v => by
    simp only [okEnds, List.all_cons, Bool.and_eq_true, Bool.not_eq_true'] at h
    intro e
    have : o.1 = .n := e
    rw [this] at h
    cases h.1
  | o :: o' :: os, h, v => by
    have h0 := h
    simp only [okEnds, List.all_cons, Bool.and_eq_true, Bool.not_eq_true'] at h
    cases v with
    | inl v =>
      intro e
      have : o.1 = .n := e
      rw [this] at h
      cases h.1
    | inr v => exact okEnds_is (os := o' :: os) (by simp only [okEnds, List.all_cons, Bool.and_eq_true, Bool.not_eq_true']; exact h.2) v
end

abbrev Back := List (Bool × Ty)
def Back.tys (m : Back) : List Ty := m.map (·.2)
def encR1 : Bool × Ty → D → D
  | (true, .l t), .sl _ xs => .fr t.w xs
  | _, d => d
def encRs : Back → List D → List D
  | m :: ms, d :: ds => encR1 m d :: encRs ms ds
  | _, _ => []
def tupD : List D → D
  | [d] => d
  | ds => .tp ds
def encR (m : Back) (x : Vals m.tys) : D := tupD (encRs m (elts m.tys x))
def frzSel : Back → List V → Heap → (List V → Heap → Option α) → Option α
  | [], [], hp, K => K [] hp
  | (false, T) :: m, v :: vs, hp, K => frzK hp v fun d hp' => frzSel m vs hp' fun vs' hp'' => K (.d (coeT T d) :: vs') hp''
  | (true, _) :: m, v :: vs, hp, K => frzSel m vs hp fun vs' hp'' => K (v :: vs') hp''
  | _, _, _, _ => none
def decR1 : Bool × Ty → D → Option D
  | (true, .l t), .fr w xs => bif w == t.w then some (.sl t.w xs) else none
  | (false, _), d => some d
  | _, _ => none
def decRs : Back → List D → Option (List D)
  | [], [] => some []
  | m :: ms, d :: ds => match decR1 m d with
    | some e => match decRs ms ds with
      | some es => some (e :: es)
      | none => none
    | none => none
  | _, _ => none
def partsV : V → List V
  | .tp vs => vs
  | .d (.tp ds) => ds.map .d
  | v => [v]
def oneRes : Back → Bool
  | [_] => true
  | _ => false
def expR (m : Back) (v : V) (hp : Heap) (K : Vals m.tys → Option α) : Option α :=
  frzSel m (bif oneRes m then [v] else partsV v) hp fun vs hp' => outsK vs hp' fun ds _ => match decRs m ds with
    | some es => match decAll m.tys es with
      | some x => K x
      | none => none
    | none => none
def argV (As : Shs) (x : Vals As.tys) : List V := (As.put [] (elts As.tys x)).1
def argD (As : Shs) (x : Vals As.tys) : List D := match allD (argV As x) with
  | some ds => ds
  | none => []
def fnK (P : Program) (H : HK) (L : Loops) (g : FuncId) (As : Shs) (m : Back) (x : Vals As.tys) (K : Vals m.tys → Option α) : Option α :=
  bodyK P H L g (argV As x) 0 [] fun v _ hp => expR m v hp K
def coeA : Shs → List D → List D
  | .cons s r, d :: ds => (match s with
    | .x T => coeT T d
    | _ => d) :: coeA r ds
  | _, ds => ds
def decArgs (As : Shs) (ds : List D) : Option (Vals As.tys) := match As.get [] [] ((coeA As ds).map .d) with
  | some hs => decAll As.tys hs
  | none => none
def fnRow (g : FuncId) (As : Shs) (m : Back) (F : Vals As.tys → Option (Vals m.tys)) : Row := ⟨g, Vals As.tys, Vals m.tys, decArgs As, F, encR m, fun r _ K => K (encR m r), fun _ _ _ => rfl⟩

theorem coeA_rel {w : World} {I : Mem} : ∀ {As : Shs} {ds : List D} {f : Nat → Value}, (∀ (j : Nat) (d : D), ds[j]? = some d → RelD w I d (f j)) → ∀ (j : Nat) (d : D), (coeA As ds)[j]? = some d → RelD w I d (f j)
  | .nil, ds, f, h, j, d, hj => by simp only [coeA] at hj; exact h j d hj
  | .cons s r, [], f, h, j, d, hj => by simp [coeA] at hj
  | .cons s r, d0 :: ds, f, h, j, d, hj => by
    simp only [coeA] at hj
    cases j with
    | zero =>
      simp only [List.getElem?_cons_zero, Option.some.injEq] at hj
      subst hj
      split
      · exact coeT_rel (h 0 d0 rfl)
      · exact h 0 d0 rfl
    | succ j => exact coeA_rel (f := fun j => f (j + 1)) (fun j d hj => h (j + 1) d (by simpa using hj)) j d (by simpa using hj)
theorem coeA_len : ∀ {As : Shs} {ds : List D}, (coeA As ds).length = ds.length
  | .nil, ds => rfl
  | .cons s r, [] => rfl
  | .cons s r, d0 :: ds => by simp only [coeA, List.length_cons, coeA_len]
theorem decArgs_argD {As : Shs} {ds : List D} {x : Vals As.tys} (h : decArgs As ds = some x) : argD As x = coeA As ds := by
  unfold decArgs at h
  split at h
  · rename_i hs hg
    have := decAll_elts h
    obtain ⟨_, h2⟩ := As.get_put _ _ hg
    have h3 := (h2 []).1
    rw [List.append_nil] at h3
    have h4 := rens_allD h3.symm
    unfold argD argV
    rw [this, h4, allD_map]
  · cases h
theorem PCall.coe {G : Nat → Option (List D)} {g : FuncId} {ds ds' : List D} {q : D} (h : PCall P G g ds' q) (hl : ds'.length = ds.length) (hr : ∀ (w : World) (I : Mem) (f : Nat → Value), (∀ (j : Nat) (d : D), ds[j]? = some d → RelD w I d (f j)) → ∀ (j : Nat) (d : D), ds'[j]? = some d → RelD w I d (f j)) : PCall P G g ds q := by
  intro w I K vs hg hI hK hd hsz hargs
  exact h w I K vs hg hI hK hd (by rw [hl]; exact hsz) (hr w I _ hargs)

theorem frzSel_sound {n : Nat} : ∀ {m : Back} {vs : List V} {hp : Heap} {K : List V → Heap → Option α}, frzSel m vs hp K = some r → ∃ vs' hp', K vs' hp' = some r ∧ vs'.length = vs.length ∧ ∀ (c : Cf) (us : List Value), RelH c n hp → RelL c n vs us → ∃ c', Frz c n hp hp' c' ∧ RelL c' n vs' us
  | [], [], hp, K, h => ⟨[], hp, h, rfl, fun c us hH hL => ⟨c, .refl hH, hL⟩⟩
  | (b, T) :: m, v :: vs, hp, K, h => by
    cases b with
    | false =>
      simp only [frzSel] at h
      obtain ⟨d, hp', h1, h2⟩ := frzK_sound h
      obtain ⟨vs', hp'', h3, h4, h5⟩ := frzSel_sound (n := n) h2
      refine ⟨_, hp'', h3, by simp [h4], fun c us hH hL => ?_⟩
      cases us with
      | nil => have := hL.1; simp at this
      | cons u us =>
        obtain ⟨u', hu, hru⟩ := hL.2 0 v rfl
        simp only [List.getElem?_cons_zero, Option.some.injEq] at hu
        subst hu
        obtain ⟨c1, hF1, hd⟩ := frz_sound v c hp hp' d u h1 hH hru
        obtain ⟨c2, hF2, hL2⟩ := h5 c1 us hF1.heap ⟨by simpa using hL.1, fun j x hj => by
          obtain ⟨y, hy, hry⟩ := hL.2 (j + 1) x (by simpa using hj)
          exact ⟨y, by simpa using hy, hry.mono hF1.ext (Nat.le_refl n)⟩⟩
        refine ⟨c2, hF1.trans hF2, by simpa using hL2.1, fun j x hj => ?_⟩
        cases j with
        | zero =>
          simp only [List.getElem?_cons_zero, Option.some.injEq] at hj
          subst hj
          exact ⟨u, rfl, .d _ _ ((coeT_rel hd).mono hF2.ext.kept)⟩
        | succ j => simpa using hL2.2 j x (by simpa using hj)
    | true =>
      simp only [frzSel] at h
      obtain ⟨vs', hp'', h3, h4, h5⟩ := frzSel_sound (n := n) h
      refine ⟨_, hp'', h3, by simp [h4], fun c us hH hL => ?_⟩
      cases us with
      | nil => have := hL.1; simp at this
      | cons u us =>
        obtain ⟨u', hu, hru⟩ := hL.2 0 v rfl
        simp only [List.getElem?_cons_zero, Option.some.injEq] at hu
        subst hu
        obtain ⟨c2, hF2, hL2⟩ := h5 c us hH ⟨by simpa using hL.1, fun j x hj => by
          obtain ⟨y, hy, hry⟩ := hL.2 (j + 1) x (by simpa using hj)
          exact ⟨y, by simpa using hy, hry⟩⟩
        refine ⟨c2, hF2, by simpa using hL2.1, fun j x hj => ?_⟩
        cases j with
        | zero =>
          simp only [List.getElem?_cons_zero, Option.some.injEq] at hj
          subst hj
          exact ⟨u, rfl, hru.mono hF2.ext (Nat.le_refl n)⟩
        | succ j => simpa using hL2.2 j x (by simpa using hj)
  | [], _ :: _, hp, K, h => by simp [frzSel] at h
  | (false, _) :: _, [], hp, K, h => by simp [frzSel] at h
  | (true, _) :: _, [], hp, K, h => by simp [frzSel] at h
theorem decRs_enc : ∀ {m : Back} {ds es : List D}, decRs m ds = some es → encRs m es = ds
  | [], [], es, h => by simp only [decRs, Option.some.injEq] at h; subst h; rfl
  | a :: m, d :: ds, es, h => by
    simp only [decRs] at h
    split at h
    · rename_i e h1
      split at h
      · rename_i es' h2
        injection h with h
        subst h
        simp only [encRs, decRs_enc h2]
        congr 1
        unfold decR1 at h1
        split at h1
        · rename_i t w xs
          obtain ⟨h3, h4⟩ := cond_some h1
          injection h4 with h4
          subst h4
          simp only [encR1]
          rw [show w = t.w by simpa using h3]
        · injection h1 with h1; subst h1; rfl
        · cases h1
      · cases h
    · cases h
  | [], _ :: _, _, h => by cases h
  | _ :: _, [], _, h => by cases h
theorem partsV_rel {c : Cf} {n : Nat} {v : V} {u : Value} (h : RelV c n v u) (hv : (∃ vs, v = .tp vs) ∨ ∃ ds, v = .d (.tp ds)) : ∃ us : Array Value, u = .tuple us ∧ RelL c n (partsV v) us.toList := by
  rcases hv with ⟨vs, rfl⟩ | ⟨ds, rfl⟩
  · cases h with
    | tp _ us hl hh =>
      refine ⟨us, rfl, by simpa [partsV] using hl, fun j x hj => ?_⟩
      have hlt := (List.getElem?_eq_some_iff.1 hj).1
      refine ⟨us.getD j undef, ?_, hh j x hj⟩
      simp only [partsV] at hlt
      rw [Array.getElem?_toList, Array.getD_eq_getD_getElem?, Array.getElem?_eq_getElem (by omega)]; rfl
  · have := h.inv_d
    cases this with
    | tp _ us hl hh =>
      refine ⟨us, rfl, by simpa [partsV] using hl, fun j x hj => ?_⟩
      simp only [partsV, List.getElem?_map] at hj
      obtain ⟨d, hd, rfl⟩ := Option.map_eq_some_iff.1 hj
      have hlt := (List.getElem?_eq_some_iff.1 hd).1
      refine ⟨us.getD j undef, ?_, .d _ _ (hh j d hd)⟩
      rw [Array.getElem?_toList, Array.getD_eq_getD_getElem?, Array.getElem?_eq_getElem (by omega)]; rfl
theorem parts_not {v : V} (h1 : ∀ vs, v ≠ .tp vs) (h2 : ∀ ds, v ≠ .d (.tp ds)) : partsV v = [v] := by
  unfold partsV
  split
  · exact absurd rfl (h1 _)
  · exact absurd rfl (h2 _)
  · rfl
theorem frzSel_len : ∀ {m : Back} {vs : List V} {hp : Heap} {K : List V → Heap → Option α}, frzSel m vs hp K = some r → vs.length = m.length
  | [], [], hp, K, h => rfl
  | (false, T) :: m, v :: vs, hp, K, h => by
    simp only [frzSel] at h
    obtain ⟨d, hp', h1, h2⟩ := frzK_sound h
    simp only [List.length_cons, frzSel_len h2]
  | (true, T) :: m, v :: vs, hp, K, h => by
    simp only [frzSel] at h
    simp only [List.length_cons, frzSel_len h]
  | [], _ :: _, hp, K, h => by simp [frzSel] at h
  | (false, _) :: _, [], hp, K, h => by simp [frzSel] at h
  | (true, _) :: _, [], hp, K, h => by simp [frzSel] at h
theorem expR_sound {n : Nat} {m : Back} {v : V} {hp : Heap} {x : Vals m.tys} (h : expR m v hp some = some x) : ∃ v2 hp2, expD hp2 v2 = some (encR m x) ∧ ∀ (c : Cf) (u : Value), RelH c n hp → RelV c n v u → ∃ c', Frz c n hp hp2 c' ∧ RelV c' n v2 u := by
  unfold expR at h
  have hlen := frzSel_len h
  obtain ⟨vs', hp2, h1, h2, h3⟩ := frzSel_sound (n := n) h
  obtain ⟨ds, hp3, h4, h5⟩ := outsK_sound h1
  have henc : encR m x = tupD ds := by
    split at h5
    · rename_i es he
      split at h5
      · rename_i y hy
        injection h5 with h5
        subst h5
        unfold encR
        rw [decAll_elts hy, decRs_enc he]
      · cases h5
    · cases h5
  cases hm : oneRes m
  · -- several
    rw [hm] at hlen h2 h3
    simp only [cond_false] at hlen h2 h3
    have hml : m.length ≠ 1 := by
      intro e
      match m, e with
      | [_], _ => cases hm
    have hv : (∃ vs, v = .tp vs) ∨ ∃ ds, v = .d (.tp ds) := by
      apply Classical.byContradiction
      intro hn
      have h1 : ∀ vs, v ≠ .tp vs := fun vs e => hn (.inl ⟨vs, e⟩)
      have h2 : ∀ ds, v ≠ .d (.tp ds) := fun ds e => hn (.inr ⟨ds, e⟩)
      rw [parts_not h1 h2] at hlen
      exact hml hlen.symm
    have hdl : ds.length = vs'.length := expTops_len h4
    refine ⟨.tp vs', hp2, ?_, fun c u hH hr => ?_⟩
    · simp only [expD, h4, Option.map_some, henc]
      have : tupD ds = .tp ds := by
        unfold tupD
        split
        · rename_i d
          have : vs'.length = 1 := hdl.symm
          omega
        · rfl
      rw [this]
    · obtain ⟨us, rfl, hL⟩ := partsV_rel hr hv
      obtain ⟨c', hF, hL'⟩ := h3 c us.toList hH hL
      refine ⟨c', hF, .tp _ _ (by simpa using hL'.1) fun j x hj => ?_⟩
      obtain ⟨w, hw, hrw⟩ := hL'.2 j x hj
      rw [Array.getElem?_toList] at hw
      rw [Array.getD_eq_getD_getElem?, hw]
      exact hrw
  · -- one
    rw [hm] at hlen h2 h3
    simp only [cond_true, List.length_cons, List.length_nil] at hlen h2 h3
    match vs', h2 with
    | [v2], _ =>
    refine ⟨v2, hp2, ?_, fun c u hH hr => ?_⟩
    · simp only [expTops] at h4
      split at h4
      · rename_i d hp' he
        simp only [Option.some.injEq, Prod.mk.injEq] at h4
        obtain ⟨rfl, rfl⟩ := h4
        rw [henc]
        show expD hp2 v2 = some d
        unfold expD
        split
        · rename_i vs
          simp [expTop, frz] at he
        · rw [he]; rfl
      · cases h4
    · obtain ⟨c', hF, hL'⟩ := h3 c [u] hH ⟨rfl, fun j x hj => by
        cases j with
        | zero => simp only [List.getElem?_cons_zero, Option.some.injEq] at hj; subst hj; exact ⟨u, rfl, hr⟩
        | succ j => simp at hj⟩
      obtain ⟨w, hw, hrw⟩ := hL'.2 0 v2 rfl
      simp only [List.getElem?_cons_zero, Option.some.injEq] at hw
      subst hw
      exact ⟨c', hF, hrw⟩
where
  expTops_len : ∀ {vs : List V} {hp hp' : Heap} {ds : List D}, expTops hp vs = some (ds, hp') → ds.length = vs.length
    | [], hp, hp', ds, h => by
      simp only [expTops, Option.some.injEq, Prod.mk.injEq] at h
      rw [← h.1]; rfl
    | v :: vs, hp, hp', ds, h => by
      simp only [expTops] at h
      split at h
      · split at h
        · rename_i h2
          simp only [Option.some.injEq, Prod.mk.injEq] at h
          rw [← h.1, List.length_cons, List.length_cons, expTops_len h2]
        · cases h
      · cases h
theorem argV_argD {As : Shs} {x : Vals As.tys} (h : (allD (argV As x)).isSome = true) : argV As x = (argD As x).map .d := by
  unfold argD
  cases hd : allD (argV As x) with
  | none => rw [hd] at h; cases h
  | some ds => exact allD_spec _ _ hd
theorem fnK_sound {H : HK} (hok : HKOK P H) {L : Loops} {g : FuncId} (hL : LoopsOf P H.G 0 L g) {As : Shs} {m : Back} {a : Vals As.tys} (hd : (allD (argV As a)).isSome = true) {x : Vals m.tys} (h : fnK P H L g As m a some = some x) : Enters P g ∧ PCall P H.G g (argD As a) (encR m x) := by
  unfold fnK at h
  obtain ⟨v, n', hp', h1, h2, h3⟩ := bodyK_sound hok hL h
  obtain ⟨v2, hp2, h4, h5⟩ := expR_sound (n := n') h3
  refine ⟨h1, pcall_of (v := v2) (n := n') (hp := hp2) ?_ h4⟩
  rw [argV_argD hd] at h2
  intro c vs hG hg hH hRL
  refine (h2 c vs hG hg hH hRL).mono ?_
  rintro e w' ⟨u, c', rfl, rfl, hO⟩
  obtain ⟨c2, hF, hr⟩ := h5 c' u hO.heap hO.rel
  exact ⟨u, c2, rfl, hF.w.symm, hO.ext.trans hF.ext hO.le, hO.le, hF.heap, hr⟩
theorem row_told {H : HK} (hok : HKOK P H) {L : Loops} {g : FuncId} (hL : LoopsOf P H.G 0 L g) {As : Shs} {m : Back} {F : Vals As.tys → Option (Vals m.tys)} (hd : ∀ a, (allD (argV As a)).isSome = true) (h : ∀ a, fnK P H L g As m a some = F a) : RowOK P H.G (fnRow g As m F) := by
  have key : ∀ (ds : List D) (a : Vals As.tys) (q : Vals m.tys), decArgs As ds = some a → F a = some q → Enters P g ∧ PCall P H.G g ds (encR m q) := ?_
  · exact fun ds a q => key ds a q
  intro ds a q ha hq
  have hq' : fnK P H L g As m a some = some q := (h a).trans hq
  obtain ⟨h1, h2⟩ := fnK_sound hok hL (hd a) hq'
  refine ⟨h1, ?_⟩
  rw [decArgs_argD ha] at h2
  exact h2.coe coeA_len fun w I f hf => coeA_rel hf
def lp : List (Nat × Summ) → Loops
  | [], _ => .no
  | x :: r, k => bif x.1 == k then .yes x.2 else lp r k
def placeAt (c : Code) (k : Nat) : Code := match nodeAt c k with
  | some b => b
  | none => .skip
def bodyAt (c : Code) (k : Nat) : Code := match nodeAt c k with
  | some (.loop b) => b
  | _ => .skip
def codeOf (P : Program) (g : FuncId) : Code := match fnOf P g with
  | some d => d.code
  | none => .skip
def LpOK (P : Program) (G : Nat → Option (List D)) (nt n0 : Nat) (c : Code) : List (Nat × Summ) → Prop
  | [] => True
  | x :: r => SummOK P G nt n0 (placeAt c x.1) x.2 ∧ LpOK P G nt n0 c r
section
variable {G : Nat → Option (List D)} {nt n0 : Nat}
theorem lp_sem {c : Code} : ∀ {l : List (Nat × Summ)}, LpOK P G nt n0 c l → LoopsSem P G nt n0 (lp l) c 0
  | [], _, k, node, hn, s, hs => by cases hs
  | x :: r, h, k, node, hn, s, hs => by
    simp only [lp, Nat.zero_add] at hs
    cases hb : (x.1 == k) <;> rw [hb] at hs
    · simp only [cond_false] at hs
      exact lp_sem h.2 k node hn s (by rw [Nat.zero_add]; exact hs)
    · simp only [cond_true, Told.yes.injEq] at hs
      subst hs
      have hk : x.1 = k := by simpa using hb
      have := h.1
      rw [hk] at this
      simp only [placeAt, hn] at this
      exact this
theorem lp_of {g : FuncId} {l : List (Nat × Summ)} (h : LpOK P G (ntOf P g) n0 (codeOf P g) l) : LoopsOf P G n0 (lp l) g := by
  intro d hd
  have e1 : ntOf P g = d.nt := by simp only [ntOf, hd]
  have e2 : codeOf P g = d.code := by simp only [codeOf, hd]
  rw [e1, e2] at h
  exact lp_sem h
theorem loop_sum {H : HK} (hok : HKOK P H) {c : Code} {k : Nat} {body : Code} (hn : placeAt c k = .loop body) (hc : okCode nt body = true) {l : List (Nat × Summ)} (hL : LpOK P H.G nt n0 body l) (sh : SSh) (os : PEnds) (ho : okEnds os = true)
    (t : Vals sh.tys → Option (Vals sh.tys ⊕ OutV os)) (h : ∀ s, turnK P H (lp l) body n0 sh os s some = t s) : SummOK P H.G nt n0 (placeAt c k) (NodeT.summ ⟨sh, os, rounds t⟩ n0) := by
  have key : ∀ s y, t s = some y → CodeN P H.G nt n0 body (sh.st (elts sh.tys s)) (turnEnd sh os y) := fun s y hy => turnK_sound hok hc (lp_sem hL) (by rw [h]; exact hy)
  intro st α K r hr
  unfold NodeT.summ at hr
  obtain ⟨ds, h1, hr⟩ := absK_sound hr
  split at hr
  · rename_i s hs
    obtain ⟨r', hf, hr⟩ := Option.bind_eq_some_iff.1 hr
    rw [outGo_is] at hr
    obtain ⟨n, hn'⟩ := rounds_some.1 hf
    have := (loopN_turns (e := fun s => sh.st (elts sh.tys s)) (x := outIs os) (okEnds_is ho) (fun s s' hs => key s _ hs) (fun s r hs => key s _ hs) n s r' hn').code
    have h2 : CodeN P H.G nt n0 (.loop body) (sh.st (elts sh.tys s)) (outIs os r') := this
    rw [decAll_elts hs] at h2
    rw [hn]
    exact ⟨_, _, CodeN.less h1 h2, hr⟩
  · cases hr
end
def RowsOK (P : Program) (G : Nat → Option (List D)) : List Row → Prop
  | [] => True
  | w :: ws => RowOK P G w ∧ RowsOK P G ws
theorem rows_ok {G : Nat → Option (List D)} : ∀ {ws : List Row}, RowsOK P G ws → TabOK P G (tabF ws)
  | ws, h => tab_ok (all h)
where
  all : ∀ {ws : List Row}, RowsOK P G ws → ∀ w ∈ ws, RowOK P G w
    | [], _, w, hw => by cases hw
    | x :: ws, h, w, hw => by
      rcases List.mem_cons.1 hw with rfl | hw
      · exact h.1
      · exact all h.2 w hw
def closedRow (g : FuncId) (q : D) : Row := ⟨g, Unit, Unit, fun ds => match ds with
  | [] => some ()
  | _ => none, fun _ => some (), fun _ => q, fun _ _ K => K q, fun _ _ _ => rfl⟩
theorem closed_ok {G : Nat → Option (List D)} {E : FuncId → Option (List D → Option (Bool × D))} (hE : ∀ g f, E g = some f → ExtOK P g (bare f)) {J : FuncId → Option TypeId} (hJ : InsAll P J) {T : List Row} (hT : RowsOK P G T) {g : FuncId} {q : D} (k : Nat) (h : (hsN P G (fun g => (E g).map bare) J (tabF T) k).pcall g [] = some q) : RowOK P G (closedRow g q) := by
  have key : ∀ (ds : List D) (a : Unit), (closedRow g q).dec ds = some a → Enters P g ∧ PCall P G g ds q := by
    intro ds a ha
    simp only [closedRow] at ha
    split at ha
    · have := (hsN_good (P := P) (G := G) (E := fun g => (E g).map bare) (J := J) (T := tabF T) (fun g f h => by
        obtain ⟨f', h1, rfl⟩ := Option.map_eq_some_iff.1 h
        exact hE g f' h1) hJ (rows_ok hT) k).1.pcall g [] _ h
      rw [hsN_G] at this
      exact this
    · cases ha
  exact fun ds a q' ha _ => key ds a ha
def bt (s : ByteArray) (i : Nat) : Int := ((s.data.toList.getD i 0).toNat : Int)
def bs (l : List UInt8) : ByteArray := ⟨l.toArray⟩
abbrev ILp := List (FuncId × Nat × List (Nat × Summ))
def ilp : ILp → FuncId → Nat → Loops
  | [], _, _ => fun _ => .no
  | x :: r, g, n => bif x.1 == g && x.2.1 == n then lp x.2.2 else ilp r g n
def ILpOK (P : Program) (G : Nat → Option (List D)) : ILp → Prop
  | [] => True
  | x :: r => LpOK P G (ntOf P x.1) x.2.1 (codeOf P x.1) x.2.2 ∧ ILpOK P G r
theorem ilp_ok {P : Program} {G : Nat → Option (List D)} : ∀ {l : ILp}, ILpOK P G l → ∀ g n0, LoopsOf P G n0 (ilp l g n0) g
  | [], _, g, n0 => fun d hd => noL_ok
  | x :: r, h, g, n0 => by
    simp only [ilp]
    cases hb : (x.1 == g && x.2.1 == n0)
    · exact ilp_ok h.2 g n0
    · simp only [Bool.and_eq_true, beq_iff_eq] at hb
      obtain ⟨h1, h2⟩ := hb
      subst h1
      subst h2
      exact lp_of h.1
end Go.Fw
end
