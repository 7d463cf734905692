/- Whole functions, however often they call each other, do what the plain evaluator says. By this session. -/
import Derived.Test.YtloambokbipnjaaFr
set_option linter.unusedVariables false
set_option linter.unusedSimpArgs false
namespace Go.Fw
variable {P : Program}

def resF (tmps : Array Value) : ResultVar → Sem Value
  | .tmp t => pure (tmps.getD t undef)
  | .cell a t => do loadVar t (← asAddr (tmps.getD a undef))

theorem resV_sound {G : Nat → Option (List D)} {nt : Nat} {c : Cf} {st : St} {a : Act} (hr : SR G nt c st a) {rv : ResultVar} {v : V} (h : resV P st rv = some v) :
    ∃ u, (resF a.tmps rv).run P c.w = .ok u c.w ∧ RelV c st.n v u := by
  cases rv with
  | tmp t =>
    simp only [resV, Option.some.injEq] at h
    subst h
    exact ⟨_, rfl, hr.s.get t⟩
  | cell p t =>
    simp only [resV] at h
    obtain ⟨u, h1, h2⟩ := loadV_sound hr.h h (hr.s.get p)
    refine ⟨u, ?_, h2⟩
    have hp : ∃ ad, a.tmps.getD p undef = .pointer (some ad) := by
      have hrel := hr.s.get p
      unfold loadV at h
      split at h
      · rename_i hg; rw [hg] at hrel; generalize a.tmps.getD p undef = q at hrel; cases hrel; exact ⟨_, rfl⟩
      · rename_i hg; rw [hg] at hrel; generalize a.tmps.getD p undef = q at hrel; cases hrel; exact ⟨_, rfl⟩
      · rename_i hg; rw [hg] at hrel; generalize a.tmps.getD p undef = q at hrel; cases hrel; exact ⟨_, rfl⟩
      · cases h
    obtain ⟨ad, hp⟩ := hp
    simp only [resF, hp, asAddr, Sem.run_bind, Sem.run_pure, Result.andThen_ok]
    simpa [Instr.loadAt, Instr.sureAddr, hp] using h1

theorem ress_sound {G : Nat → Option (List D)} {nt : Nat} {c : Cf} {st : St} {a : Act} (hr : SR G nt c st a) : ∀ (rs : List ResultVar) (vs : List V), ress P st rs = some vs →
    ∃ us, (rs.mapM (resF a.tmps)).run P c.w = .ok us c.w ∧ RelL c st.n vs us
  | [], vs, h => by
    simp only [ress, Option.some.injEq] at h
    subst h
    exact ⟨[], by simp, rfl, by simp⟩
  | rv :: rs, vs, h => by
    simp only [ress] at h
    split at h
    · rename_i v vs' h1 h2
      injection h with h
      subst h
      obtain ⟨u, hu, hru⟩ := resV_sound hr h1
      obtain ⟨us, hus, hl, hrel⟩ := ress_sound hr rs vs' h2
      refine ⟨u :: us, by simp only [List.mapM_cons, Sem.run_bind, hu, hus, Result.andThen_ok, Sem.run_pure], by simp [hl], fun j x hj => ?_⟩
      cases j with
      | zero => simp only [List.getElem?_cons_zero, Option.some.injEq] at hj; subst hj; exact ⟨u, rfl, hru⟩
      | succ j => simpa using hrel j x (by simpa using hj)
    · cases h

theorem results_sound {G : Nat → Option (List D)} {nt : Nat} {c : Cf} {st : St} {a : Act} (hr : SR G nt c st a) {fn : Func} {vs : List V} (h : ress P st fn.results.toList = some vs) :
    ∃ u, (results fn a.tmps).run P c.w = .ok u c.w ∧ RelV c st.n (oneV vs) u := by
  obtain ⟨us, h1, hl, hrel⟩ := ress_sound hr _ _ h
  have hmap : (fn.results.mapM (resF a.tmps)).run P c.w = .ok us.toArray c.w := by
    rw [Array.mapM_eq_mapM_toList]
    simp only [Sem.run_map, h1, Result.andThen_ok]
  have hres : (results fn a.tmps).run P c.w = .ok (if h : us.toArray.size = 1 then us.toArray[0] else .tuple us.toArray) c.w := by
    have : (results fn a.tmps) = (do let vs ← fn.results.mapM (resF a.tmps); pure (if h : vs.size = 1 then vs[0] else .tuple vs)) := by
      unfold results
      congr 2
    rw [this, Sem.run_bind, hmap]
    rfl
  refine ⟨_, hres, ?_⟩
  by_cases h1 : us.length = 1
  · rw [dif_pos (by simpa using h1)]
    have h2 : vs.length = 1 := by omega
    obtain ⟨v, rfl⟩ := List.length_eq_one_iff.1 h2
    obtain ⟨u, rfl⟩ := List.length_eq_one_iff.1 h1
    obtain ⟨u', hu, hru⟩ := hrel 0 v rfl
    simp only [List.getElem?_cons_zero, Option.some.injEq] at hu
    subst hu
    exact hru
  · rw [dif_neg (by simpa using h1)]
    have : oneV vs = mkTp vs := by
      unfold oneV
      split
      · rename_i v; exact absurd (by simpa using hl) h1
      · rfl
    rw [this]
    refine mkTp_rel _ _ (by simpa using hl) fun j x hj => ?_
    obtain ⟨u, hu, hru⟩ := hrel j x hj
    rw [Array.getD_eq_getD_getElem?, List.getElem?_toArray, hu]
    exact hru

theorem zipArgs_get : ∀ (vs : List V) (k i : Nat), get (zipArgs k vs) i = if k ≤ i then (vs[i - k]?).getD .junk else .junk
  | [], k, i => by simp [zipArgs, get]
  | v :: vs, k, i => by
    simp only [zipArgs, get_cons, zipArgs_get vs]
    by_cases h : k = i
    · subst h; simp
    · rw [if_neg h]
      by_cases h2 : k + 1 ≤ i
      · rw [if_pos h2, if_pos (by omega), show i - k = (i - (k + 1)) + 1 from by omega]
        simp
      · rw [if_neg h2, if_neg (by omega)]

theorem fnOf_spec {g : FuncId} {d : Fd} (h : fnOf P g = some d) : ∃ fn, P.funcs[g]? = some fn ∧ fn.body = some d.code ∧ (fn.name == "runtime.NumGoroutine") = false ∧ okCode d.nt d.code = true ∧ fn.ntmps = d.nt ∧ fn.results.toList = d.res := by
  unfold fnOf at h
  split at h
  · rename_i fn hfn
    split at h
    · rename_i c hc
      obtain ⟨hb, h⟩ := cond_some h
      injection h with h
      subst h
      rw [Bool.and_eq_true] at hb
      refine ⟨fn, hfn, hc, ?_, hb.2, rfl, rfl⟩
      have := hb.1
      simpa [bne] using this
    · cases h
  · cases h

theorem callBody_sound {h : Hs} (hok : CallsOK P h) (hl : LoopsOK P h) {g : FuncId} {xs : List V} {n : Nat} {hp : Heap} {r : V × Nat × Heap} (he : callBody P h g xs n hp = some r) : Enters P g ∧ MCall P h.G g xs n hp r := by
  unfold callBody at he
  split at he
  · rename_i d hd
    obtain ⟨fn, h1, h2, h3, h4, h5, h6⟩ := fnOf_spec hd
    obtain ⟨hle, he⟩ := cond_some he
    have hle := Nat.le_of_ble_eq_true hle
    refine ⟨⟨fn, h1, h3, by rw [h2]; rfl⟩, ?_⟩
    intro c vs hG hg hH hL
    have hsz : vs.size = xs.length := by have := hL.1; simpa using this
    have hr0 : SR h.G d.nt c ⟨zipArgs 0 xs, n, hp⟩ { tmps := vs ++ Array.replicate (fn.ntmps - vs.size) undef, defers := [] } := by
      refine ⟨hG, ⟨hg, fun i => ?_⟩, hH, by simp; omega, rfl⟩
      rw [zipArgs_get, if_pos (Nat.zero_le _)]
      simp only [Nat.sub_zero]
      by_cases hi : i < xs.length
      · obtain ⟨u, hu, hru⟩ := hL.2 i _ (List.getElem?_eq_getElem hi)
        rw [List.getElem?_eq_getElem hi]
        rw [Array.getElem?_toList] at hu
        rw [Array.getD_eq_getD_getElem?, Array.getElem?_append, if_pos (by omega), hu]
        exact hru
      · rw [List.getElem?_eq_none (by omega)]
        exact .junk _
    refine calls_of_wp h1 h2 ?_
    have finish : ∀ (st : St) (a' : Act) (c' : Cf) (vs' : List V), Ext c n c' → n ≤ st.n → SR h.G d.nt c' st a' → ress P st d.res = some vs' → r = (oneV vs', st.n, st.h) →
        a'.defers = [] ∧ ∃ v, (results fn a'.tmps).run P c'.w = .ok v c'.w ∧ ∃ v' c'', Ending.returned v = .returned v' ∧ c'.w = c''.w ∧ Outs c n r v' c'' := by
      rintro st a' c' vs' hx hn hr hres rfl
      rw [← h6] at hres
      obtain ⟨u, hu, hru⟩ := results_sound (P := P) hr hres
      exact ⟨hr.defers, u, hu, u, c', rfl, rfl, hx, hn, hr.h, hru⟩
    unfold fin at he
    split at he
    · rename_i st hev
      split at he
      · rename_i vs' hres
        injection he with he
        exact ev_wp hok hl d.code _ _ h4 hev c _ _ hr0 fun a' c' hx hn hr => finish st a' c' vs' hx hn hr hres he.symm
      · cases he
    · rename_i st hev
      split at he
      · rename_i vs' hres
        injection he with he
        exact ev_wp hok hl d.code _ _ h4 hev c _ _ hr0 fun a' c' hx hn hr => finish st a' c' vs' hx hn hr hres he.symm
      · cases he
    · cases he
  · cases he

theorem relH_empty {c : Cf} (hI : ∀ b, c.I b → b < c.w.heap.size) (hK : ∀ b, c.K b → b < c.w.heap.size) (hd : ∀ b, c.I b → ¬ c.K b) : RelH c 0 [] where
  lt := fun id h => absurd rfl h
  box := fun id cs h => by cases h
  arr := fun id a b h => by cases h
  fz := fun id a b h => by cases h
  own := fun id h => by cases h
  inj := fun i j h => by cases h
  low := hI
  ownK := fun id h => by cases h
  disj := hd
  lowK := hK

theorem pcallBody_sound {h : Hs} (hok : CallsOK P h) (hl : LoopsOK P h) {g : FuncId} {ds : List D} {r : D} (he : pcallBody P h g ds = some r) : Enters P g ∧ PCall P h.G g ds r := by
  unfold pcallBody expO at he
  split at he
  · rename_i v n hp hb
    obtain ⟨hent, hm⟩ := callBody_sound hok hl hb
    refine ⟨hent, ?_⟩
    intro w I K vs hg hI hK hd hsz hargs
    have hH : RelH ⟨w, I, K, fun _ => 0, h.G⟩ 0 [] := relH_empty hI hK hd
    refine (hm ⟨w, I, K, fun _ => 0, h.G⟩ vs rfl hg hH ⟨by simpa using hsz, fun j x hj => ?_⟩).mono ?_
    · simp only [List.getElem?_map] at hj
      obtain ⟨d, hd', rfl⟩ := Option.map_eq_some_iff.1 hj
      have hlt := (List.getElem?_eq_some_iff.1 hd').1
      refine ⟨vs.getD j undef, ?_, .d _ _ (hargs j d hd')⟩
      rw [Array.getElem?_toList, Array.getD_eq_getD_getElem?, Array.getElem?_eq_getElem (by omega)]; rfl
    · rintro e w' ⟨u, c', rfl, rfl, hO⟩
      obtain ⟨c2, hp2, hF, hX⟩ := expD_sound he hO.heap hO.rel
      have hx := hO.ext.trans hF.ext hO.le
      have hw : c2.w = c'.w := hF.w
      refine ⟨u, c2.I, rfl, hO.ext.size, ?_, ?_, fun b hb => ⟨?_, ?_⟩, ?_, hO.ext.os, hO.ext.tape, hO.ext.output, ?_⟩
      · have := hx.kept; rw [hw] at this; exact this
      · exact hO.ext.keptK
      · have := hF.heap.low b hb; rw [hw] at this; exact this
      · have := hF.heap.disj b hb
        rw [hx.K] at this
        exact this
      · exact hO.ext.shape
      · have hKK : c2.K = K := hx.K
        rw [hw, hKK] at hX
        exact hX
  · cases he

theorem hsN_G (G : Nat → Option (List D)) (E : FuncId → Option (List D → Option D)) (k : Nat) : (hsN P G E k).G = G := by cases k <;> rfl
theorem hsN_ext (G : Nat → Option (List D)) (E : FuncId → Option (List D → Option D)) (k : Nat) : (hsN P G E k).ext = E := by cases k <;> rfl

def Rounds (P : Program) (h : Hs) (k : Nat) : Prop := ∀ nt body st r, okCode nt body = true → h.loop body st = some r →
  ∀ (c : Cf) (a : Act) (Q : Exit → Act → World → Prop), SR h.G nt c st a → (∀ a' c', Ext c st.n c' → st.n ≤ r.2.n → SR h.G nt c' r.2 a' → Q (exitOf r.1) a' c'.w) → Code.rounds P body Q k a c.w

theorem Rounds.loops {h : Hs} {k : Nat} (hr : Rounds P h k) : LoopsOK P h := fun nt body st r hk he c a Q hs hQ => wp_loop_rounds k (hr nt body st r hk he c a Q hs hQ)

theorem hsN_good {G : Nat → Option (List D)} {E : FuncId → Option (List D → Option D)} (hE : ∀ g f, E g = some f → ExtOK P g f) : ∀ k, CallsOK P (hsN P G E k) ∧ Rounds P (hsN P G E k) k
  | 0 => ⟨⟨fun g f h => hE g f h, (fun g ds r h => by cases h), (fun g xs n hp r h => by cases h)⟩, (fun nt body st r hk h => by cases h)⟩
  | k + 1 => by
    obtain ⟨hc, hr⟩ := hsN_good hE k
    have hl := hr.loops
    have hG : (hsN P G E (k + 1)).G = (hsN P G E k).G := by rw [hsN_G, hsN_G]
    refine ⟨⟨fun g f h => hE g f h, fun g ds r h => ?_, fun g xs n hp r h => ?_⟩, ?_⟩
    · rw [hG]; exact pcallBody_sound hc hl h
    · rw [hG]; exact callBody_sound hc hl h
    · intro nt body st r hk he c a Q hs hQ
      rw [hG] at hs hQ
      rw [rounds_succ]
      have he' : loopStep (hsN P G E k) body (ev P (hsN P G E k) body st) = some r := he
      unfold loopStep at he'
      split at he'
      · rename_i st' h1
        refine ev_wp hc hl body st _ hk h1 c a _ hs fun a1 c1 hx1 hn1 hs1 => ?_
        exact hr nt body st' r hk he' c1 a1 Q hs1 fun a2 c2 hx2 hn2 hs2 => hQ a2 c2 (hx1.trans hx2 hn1) (Nat.le_trans hn1 hn2) hs2
      · rename_i hne
        refine ev_wp hc hl body st r hk he' c a _ hs fun a1 c1 hx1 hn1 hs1 => ?_
        have := hQ a1 c1 hx1 hn1 hs1
        obtain ⟨x', st'⟩ := r
        cases x' with
        | n => exact absurd he' (hne st')
        | ret => exact this
        | exit id => exact this

/-- A call that the plain evaluator tells. -/
theorem call_sound {G : Nat → Option (List D)} {E : FuncId → Option (List D → Option D)} (hE : ∀ g f, E g = some f → ExtOK P g f) {k : Nat} {g : FuncId} {ds : List D} {r : D} (h : (hsN P G E k).pcall g ds = some r) : PCall P G g ds r := by
  have := ((hsN_good hE k).1.pcall g ds r h).2
  rw [hsN_G] at this
  exact this
end Go.Fw
