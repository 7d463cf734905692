/- What the tree of the plain evaluator says is so: regions, code, functions. By this session. -/
import Derived.Test.YtloambokbipnjaaGc
set_option linter.unusedVariables false
set_option linter.unusedSimpArgs false
namespace Go.Fw
variable {P : Program} {α : Type} {r : α}

theorem SR.told {G : Nat → Option (List D)} {nt : Nat} {c : Cf} {st : St} {a : Act} (h : SR G nt c st a) {t : Nat} {v : V} (hg : get st.f t = v) : SR G nt c ⟨(t, v) :: st.f, st.n, st.h⟩ a := by
  refine ⟨h.g, ⟨h.s.glob, fun i => ?_⟩, h.h, h.size, h.defers⟩
  rw [get_cons]
  by_cases hi : t = i
  · subst hi; rw [if_pos rfl, ← hg]; exact h.s.get t
  · rw [if_neg hi]; exact h.s.get i

theorem stepK_sound {H : HK} (hok : HKOK P H) {o : Oper} {st : St} {K : St → Option α} (h : stepK P H o st K = some r) : ∃ h' st', CallsOK P h' ∧ h'.G = H.G ∧ step1 P h' o st = some st' ∧ K st' = some r := by
  obtain ⟨v, n', hp', ⟨h', h1, h2, h3⟩, h4⟩ := opK_sound hok h
  exact ⟨h', _, h1, h2, by simp only [step1, h3], h4⟩

/-- an operation with its guard, as it goes -/
def OperSem (P : Program) (G : Nat → Option (List D)) (nt : Nat) (all : Array Oper) (o : Oper) (st st' : St) : Prop :=
  ∀ (c : Cf) (a : Act) (K : Act → World → Prop) (Q : Exit → Act → World → Prop), SR G nt c st a →
    (∀ v c', Ext c st.n c' → st.n ≤ st'.n → SR G nt c' st' (a.put o.dst v) → K (a.put o.dst v) c'.w) →
    if Region.wanted o (yielded all a.tmps) then o.wp P a c.w K Q ∨ (o.asks P a c.w ∧ LetsOut Q) else K (a.put o.dst undef) c.w

theorem operSem_of {h' : Hs} (hok : CallsOK P h') {G : Nat → Option (List D)} (hG : h'.G = G) {nt : Nat} {all : Array Oper} (hall : ∀ o ∈ all.toList, ∀ d, o.dst = some d → d < nt) {o : Oper} (hin : o ∈ all.toList) {st st0 st' : St}
    (hst : ∀ c a, SR G nt c st a → SR G nt c st0 a) (hn : st0.n = st.n) (he : evOper P h' all.toList o st0 = some st') : OperSem P G nt all o st st' := by
  intro c a K Q hr hK
  subst hG
  refine evOper_wp hok hall hin he (hst c a hr) fun v c' hx hn' hr' => ?_
  rw [hn] at hx hn'
  exact hK v c' hx hn' hr'

theorem operK_sound {H : HK} (hok : HKOK P H) {nt : Nat} {all : Array Oper} (hall : ∀ o ∈ all.toList, ∀ d, o.dst = some d → d < nt) {o : Oper} (hin : o ∈ all.toList) {st : St} {K : St → Option α} (h : operK P H all.toList o st K = some r) :
    ∃ st', OperSem P H.G nt all o st st' ∧ K st' = some r := by
  unfold operK at h
  split at h
  · rename_i hg
    obtain ⟨h', st', h1, h2, h3, h4⟩ := stepK_sound hok h
    exact ⟨st', operSem_of h1 h2 hall hin (fun _ _ h => h) rfl (by simp only [evOper, hg]; exact h3), h4⟩
  · rename_i j want hg
    split at h
    · rename_i t ht
      split at h
      · rename_i x hx
        have told : ∀ b : Bool, x = b → (∀ c a, SR H.G nt c st a → SR H.G nt c ⟨(t, .d (.b b)) :: st.f, st.n, st.h⟩ a) := fun b hb c a hr => hr.told (by rw [hx, hb])
        have getT : ∀ b : Bool, get ((t, V.d (.b b)) :: st.f) t = .d (.b b) := fun b => by rw [get_cons, if_pos rfl]
        have stp : ∀ b : Bool, x = b → b = want → stepK P H o ⟨(t, .d (.b b)) :: st.f, st.n, st.h⟩ K = some r → ∃ st', OperSem P H.G nt all o st st' ∧ K st' = some r := by
          intro b hb hw h
          obtain ⟨h', st', h1, h2, h3, h4⟩ := stepK_sound hok h
          refine ⟨st', operSem_of h1 h2 hall hin (told b hb) rfl ?_, h4⟩
          simp only [evOper, hg, ht, getT, hw, beq_self_eq_true, cond_true]
          rw [← hw]; exact h3
        have skp : ∀ b : Bool, x = b → (b == want) = false → K (St.put ⟨(t, .d (.b b)) :: st.f, st.n, st.h⟩ o.dst (.d (.tp []))) = some r → ∃ st', OperSem P H.G nt all o st st' ∧ K st' = some r := by
          intro b hb hw h
          refine ⟨_, operSem_of hok.hs rfl hall hin (told b hb) rfl ?_, h⟩
          simp only [evOper, hg, ht, getT, hw, cond_false]
        cases x with
        | true =>
          simp only [cond_true] at h
          cases want with
          | true => simp only [cond_true] at h; exact stp true rfl rfl h
          | false => simp only [cond_false] at h; exact skp true rfl rfl h
        | false =>
          simp only [cond_false] at h
          cases want with
          | true => simp only [cond_true] at h; exact skp false rfl rfl h
          | false => simp only [cond_false] at h; exact stp false rfl rfl h
      · rename_i hx
        refine ⟨_, operSem_of hok.hs rfl hall hin (fun _ _ h => h) rfl ?_, h⟩
        simp only [evOper, hg, ht, hx]
      · cases h
    · cases h

theorem opersK_sound {H : HK} (hok : HKOK P H) {nt : Nat} {all : Array Oper} (hall : ∀ o ∈ all.toList, ∀ d, o.dst = some d → d < nt) : ∀ {os : List Oper} {st : St} {K : St → Option α}, (∀ o ∈ os, o ∈ all.toList) → opersK P H all.toList os st K = some r →
    ∃ st', (∀ (c : Cf) (a : Act) (Q : Exit → Act → World → Prop), SR H.G nt c st a → (∀ a' c', Ext c st.n c' → st.n ≤ st'.n → SR H.G nt c' st' a' → Q .normal a' c'.w) → wpList P all Q os a c.w) ∧ K st' = some r
  | [], st, K, hin, h => ⟨st, fun c a Q hr hQ => hQ a c (.refl c _) (Nat.le_refl _) hr, h⟩
  | o :: os, st, K, hin, h => by
    simp only [opersK] at h
    obtain ⟨st1, h1, h2⟩ := operK_sound hok hall (hin o List.mem_cons_self) h
    obtain ⟨st', h3, h4⟩ := opersK_sound hok hall (fun o ho => hin o (List.mem_cons_of_mem _ ho)) h2
    refine ⟨st', fun c a Q hr hQ => ?_, h4⟩
    unfold wpList
    exact h1 c a _ Q hr fun v c' hx hn hr' => h3 c' _ Q hr' fun a2 c2 hx2 hn2 hr2 => hQ a2 c2 (hx.trans hx2 hn) (Nat.le_trans hn hn2) hr2

/-! ### drawn regions -/
theorem hs_noCall (H : HK) : HK.hs { H with call := fun _ _ _ _ _ _ => none } = H.hs := rfl
theorem stepK_plain {H : HK} {o : Oper} {st : St} {K : St → Option α} (h : stepK P { H with call := fun _ _ _ _ _ _ => none } o st K = some r) : ∃ st', step1 P H.hs o st = some st' ∧ K st' = some r := by
  unfold stepK at h
  rcases opK_plain h with ⟨v, n', hp', h1, h2⟩ | ⟨c, gop, g, xs, ho, hc, hx, hf, he, hcall⟩
  · rw [hs_noCall] at h1
    exact ⟨_, by simp only [step1, h1], h2⟩
  · cases hcall

structure RcsOK (rs : List Rc) : Prop where
  one : ∀ (i : Nat) (q : Rc), rs[i]? = some q → q.s.length ≤ 1
  dist : ∀ (i j : Nat) (p q : Rc), i < j → rs[i]? = some p → rs[j]? = some q → ∀ t, t ∈ p.s.map Prod.fst → t ∉ q.s.map Prod.fst

theorem RcsOK.add {rs : List Rc} (h : RcsOK rs) {r : Rc} (h1 : r.s.length ≤ 1) (hd : ∀ q ∈ rs, ∀ t, t ∈ q.s.map Prod.fst → t ∉ r.s.map Prod.fst) : RcsOK (rs ++ [r]) := by
  have at_ : ∀ (i : Nat) (q : Rc), (rs ++ [r])[i]? = some q → (i < rs.length ∧ rs[i]? = some q) ∨ (i = rs.length ∧ q = r) := by
    intro i q hi
    rcases Nat.lt_trichotomy i rs.length with hl | hl | hl
    · exact .inl ⟨hl, by rwa [List.getElem?_append_left hl] at hi⟩
    · subst hl; simp at hi; exact .inr ⟨rfl, hi.symm⟩
    · rw [List.getElem?_eq_none (by simp; omega)] at hi; cases hi
  refine ⟨fun i q hi => ?_, fun i j p q hij hi hj t ht => ?_⟩
  · rcases at_ i q hi with ⟨_, h2⟩ | ⟨_, rfl⟩
    · exact h.one i q h2
    · exact h1
  · rcases at_ i p hi with ⟨i1, i2⟩ | ⟨i1, rfl⟩ <;> rcases at_ j q hj with ⟨j1, j2⟩ | ⟨j1, rfl⟩
    · exact h.dist i j p q hij i2 j2 t ht
    · exact hd p (List.mem_of_getElem? i2) t ht
    · omega
    · omega

theorem tell_same {rs : List Rc} (hr : RcsOK rs) {all : List Oper} {f : Slots} {S : Nat → Bool} {j t : Nat} {b : Bool} (ht : guardAt all j = some t) (hg : get (selS S 0 rs ++ (junked all ++ f)) t = .d (.b b)) : tellRc t b rs = rs := by
  have hmem : ∃ o ∈ all, o.dst = some t := by
    unfold guardAt at ht
    obtain ⟨o, ho, hd⟩ := Option.bind_eq_some_iff.1 ht
    exact ⟨o, List.mem_of_getElem? ho, hd⟩
  rw [get_append] at hg
  split at hg
  · rename_i hk
    obtain ⟨k, q, h1, h2, h3⟩ := selS_keys.1 hk
    rw [selS_last h1 h2 h3 (fun j' q' hj' hq' _ => hr.dist k j' q q' hj' h1 hq' t h3)] at hg
    unfold tellRc
    have hid : ∀ p ∈ rs, { p with s := p.s.map fun x => bif x.1 == t then (x.1, V.d (.b b)) else x } = p := by
      intro p hp
      obtain ⟨i, hi⟩ := List.getElem?_of_mem hp
      have hs : (p.s.map fun x => bif x.1 == t then (x.1, V.d (.b b)) else x) = p.s := by
        by_cases hkey : t ∈ p.s.map Prod.fst
        · have hik : i = k := by
            rcases Nat.lt_trichotomy i k with hl | hl | hl
            · exact absurd h3 (hr.dist i k p q hl hi h1 t hkey)
            · exact hl
            · exact absurd hkey (hr.dist k i q p hl h1 hi t h3)
          subst hik
          rw [hi] at h1
          injection h1 with h1
          subst h1
          have hone := hr.one i p hi
          match hps : p.s, hone with
          | [], _ => rw [hps] at hkey; simp at hkey
          | [(k1, v1)], _ =>
            rw [hps] at hkey hg
            simp only [List.map_cons, List.map_nil, List.mem_singleton] at hkey
            subst hkey
            rw [get_cons, if_pos rfl] at hg
            subst hg
            simp
          | _ :: _ :: _, hl => simp at hl
        · refine (List.map_congr_left (g := id) fun x hx => ?_).trans (List.map_id _)
          have : (x.1 == t) = false := by
            cases hb : (x.1 == t)
            · rfl
            · exact absurd (List.mem_map.2 ⟨x, hx, by simpa using hb⟩) hkey
          rw [this]; rfl
      rw [hs]
    exact (List.map_congr_left (g := id) fun p hp => hid p hp).trans (List.map_id rs)
  · rcases get_junked all f t with h1 | ⟨_, h2⟩
    · rw [h1] at hg; cases hg
    · obtain ⟨o, ho, hd⟩ := hmem
      exact absurd hd (h2 o ho)

theorem drawStepK_sound {H : HK} {all : List Oper} {f : Slots} {n0 : Nat} {h0 : Heap} {rs : List Rc} (hr : RcsOK rs) {n : Nat} {o : Oper} {K : List Rc → Rc → Option α} (h : drawStepK P H all (junked all ++ f) n0 h0 rs n o K = some r) :
    ∃ q, drawStep P H.hs all (junked all ++ f) n0 h0 rs n o = some q ∧ K rs q = some r := by
  unfold drawStepK at h
  split at h
  · rename_i A hA
    have done : ∀ st', evOper P { H.hs with call := fun _ _ _ _ => none } all o ⟨selS (A.testBit ·) 0 rs ++ (junked all ++ f), n, viewH (A.testBit ·) rs h0 (seeOf H.G (selS (A.testBit ·) 0 rs ++ (junked all ++ f)) o)⟩ = some st' →
        (bif okRc (A.testBit ·) n0 rs (rcOf A o n (seeOf H.G (selS (A.testBit ·) 0 rs ++ (junked all ++ f)) o) (viewH (A.testBit ·) rs h0 (seeOf H.G (selS (A.testBit ·) 0 rs ++ (junked all ++ f)) o)) st') then K rs (rcOf A o n (seeOf H.G (selS (A.testBit ·) 0 rs ++ (junked all ++ f)) o) (viewH (A.testBit ·) rs h0 (seeOf H.G (selS (A.testBit ·) 0 rs ++ (junked all ++ f)) o)) st') else none) = some r → ∃ q, drawStep P H.hs all (junked all ++ f) n0 h0 rs n o = some q ∧ K rs q = some r := by
      intro st' h1 h2
      obtain ⟨h3, h4⟩ := cond_some h2
      refine ⟨_, ?_, h4⟩
      unfold drawStep
      rw [hA]
      show (match evOper P { H.hs with call := fun _ _ _ _ => none } all o ⟨selS (A.testBit ·) 0 rs ++ (junked all ++ f), n, viewH (A.testBit ·) rs h0 (seeOf H.G (selS (A.testBit ·) 0 rs ++ (junked all ++ f)) o)⟩ with
        | some st' => bif okRc (A.testBit ·) n0 rs (rcOf A o n (seeOf H.G (selS (A.testBit ·) 0 rs ++ (junked all ++ f)) o) (viewH (A.testBit ·) rs h0 (seeOf H.G (selS (A.testBit ·) 0 rs ++ (junked all ++ f)) o)) st') then some (rcOf A o n (seeOf H.G (selS (A.testBit ·) 0 rs ++ (junked all ++ f)) o) (viewH (A.testBit ·) rs h0 (seeOf H.G (selS (A.testBit ·) 0 rs ++ (junked all ++ f)) o)) st') else none
        | none => none) = _
      rw [h1]
      simp only [h3, cond_true]
    have hnc : ({ H.hs with call := fun _ _ _ _ => none } : Hs) = H.hs := rfl
    rw [hnc] at done
    simp only at h
    split at h
    · rename_i hg
      obtain ⟨st', h1, h2⟩ := stepK_plain h
      exact done st' (by simp only [evOper, hg]; exact h1) h2
    · rename_i j want hg
      split at h
      · rename_i t ht
        split at h
        · rename_i x hx
          have ev : ∀ b, x = b → (if b = want then step1 P H.hs o ⟨selS (A.testBit ·) 0 rs ++ (junked all ++ f), n, viewH (A.testBit ·) rs h0 (seeOf H.G (selS (A.testBit ·) 0 rs ++ (junked all ++ f)) o)⟩ else some (St.put ⟨selS (A.testBit ·) 0 rs ++ (junked all ++ f), n, viewH (A.testBit ·) rs h0 (seeOf H.G (selS (A.testBit ·) 0 rs ++ (junked all ++ f)) o)⟩ o.dst (.d (.tp [])))) =
              evOper P H.hs all o ⟨selS (A.testBit ·) 0 rs ++ (junked all ++ f), n, viewH (A.testBit ·) rs h0 (seeOf H.G (selS (A.testBit ·) 0 rs ++ (junked all ++ f)) o)⟩ := by
            intro b hb
            subst hb
            simp only [evOper, hg, ht, hx]
            by_cases hw : x = want
            · rw [if_pos hw, hw]; simp
            · rw [if_neg hw]
              have : (x == want) = false := by simpa using hw
              rw [this]; rfl
          cases x with
          | true =>
            simp only [cond_true] at h
            rw [tell_same hr ht hx] at h
            cases want with
            | true =>
              simp only [cond_true] at h
              obtain ⟨st', h1, h2⟩ := stepK_plain h
              exact done st' (by rw [← ev true rfl, if_pos rfl]; exact h1) h2
            | false =>
              simp only [cond_false] at h
              exact done _ (by rw [← ev true rfl, if_neg (by simp)]) h
          | false =>
            simp only [cond_false] at h
            rw [tell_same hr ht hx] at h
            cases want with
            | true =>
              simp only [cond_true] at h
              exact done _ (by rw [← ev false rfl, if_neg (by simp)]) h
            | false =>
              simp only [cond_false] at h
              obtain ⟨st', h1, h2⟩ := stepK_plain h
              exact done st' (by rw [← ev false rfl, if_pos rfl]; exact h1) h2
        · rename_i hx
          exact done _ (by simp only [evOper, hg, ht, hx]) h
        · cases h
      · cases h
  · cases h

theorem drawGoK_sound {H : HK} {all : List Oper} {f : Slots} {n0 : Nat} {h0 : Heap} : ∀ {os : List Oper} {rs : List Rc} {n : Nat} {K : List Rc → Nat → Option α}, RcsOK rs → drawGoK P H all (junked all ++ f) n0 h0 os rs n K = some r →
    ∃ R N, drawGo P H.hs all (junked all ++ f) n0 h0 os rs n = some (R, N) ∧ K R N = some r
  | [], rs, n, K, hr, h => ⟨rs, n, rfl, h⟩
  | o :: os, rs, n, K, hr, h => by
    simp only [drawGoK] at h
    obtain ⟨q, h1, h2⟩ := drawStepK_sound hr h
    have hk := drawStep_spec h1
    have hrs : RcsOK (rs ++ [q]) := by
      obtain ⟨st', _, hq⟩ := hk.st
      refine hr.add ?_ ?_
      · rw [hq]
        simp only [rcOf, putOf]
        cases o.dst <;> simp
      · intro p hp t ht ht'
        have h3 := hk.ok
        simp only [okRc, Bool.and_eq_true] at h3
        have h4 := h3.1.1.1.1.2
        rw [List.all_eq_true] at h4
        have h5 := h4 p hp
        rw [Bool.and_eq_true, List.all_eq_true] at h5
        obtain ⟨x, hx, rfl⟩ := List.mem_map.1 ht
        obtain ⟨y, hy, hxy⟩ := List.mem_map.1 ht'
        have h6 := h5.2 x hx
        rw [List.all_eq_true] at h6
        have h7 := h6 y hy
        rw [hxy] at h7
        simp at h7
    obtain ⟨R, N, h3, h4⟩ := drawGoK_sound hrs h2
    exact ⟨R, N, by simp only [drawGo, h1]; exact h3, h4⟩
theorem drawK_sound {H : HK} {all : List Oper} {st : St} {K : St → Option α} (h : drawK P H all st K = some r) : ∃ st', evDraw P H.hs all st = some st' ∧ K st' = some r := by
  unfold drawK at h
  obtain ⟨R, N, h1, h2⟩ := drawGoK_sound ⟨fun i q h => by simp at h, fun i j p q _ h => by simp at h⟩ h
  exact ⟨_, by simp only [evDraw, h1], h2⟩
end Go.Fw
