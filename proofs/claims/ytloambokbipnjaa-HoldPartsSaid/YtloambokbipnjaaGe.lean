/- What the tree of the plain evaluator says is so: code, rounds, functions, tables of functions. By this session. -/
import Derived.Test.YtloambokbipnjaaGd
set_option linter.unusedVariables false
set_option linter.unusedSimpArgs false
namespace Go.Fw
variable {P : Program} {α : Type} {r : α}

theorem loopAt_lt : ∀ {c : Code} {k : Nat} {b : Code}, loopAt c k = some b → k < loops c
  | .seq x y, k, b, h => by
    simp only [loopAt] at h
    simp only [loops]
    cases hb : Nat.blt k (loops x) <;> rw [hb] at h
    · have h1 : ¬ k < loops x := by intro h2; rw [← Nat.blt_eq] at h2; rw [h2] at hb; cases hb
      have := loopAt_lt h
      omega
    · have : k < loops x := by simpa [Nat.blt_eq] using hb
      omega
  | .cond _ x y, k, b, h => by
    simp only [loopAt] at h
    simp only [loops]
    cases hb : Nat.blt k (loops x) <;> rw [hb] at h
    · have h1 : ¬ k < loops x := by intro h2; rw [← Nat.blt_eq] at h2; rw [h2] at hb; cases hb
      have := loopAt_lt h
      omega
    · have : k < loops x := by simpa [Nat.blt_eq] using hb
      omega
  | .block _ x, k, b, h => by simp only [loopAt] at h; exact loopAt_lt (c := x) h
  | .loop x, k, b, h => by
    simp only [loopAt] at h
    have := (cond_some h).1
    simp only [loops]
    have : k = 0 := by simpa using this
    omega
  | .skip, _, _, h => by simp [loopAt] at h
  | .region _ _ _, _, _, h => by simp [loopAt] at h
  | .exit _, _, _, h => by simp [loopAt] at h
  | .ret, _, _, h => by simp [loopAt] at h
  | .scope _, _, _, h => by simp [loopAt] at h
  | .rangeFunc .., _, _, h => by simp [loopAt] at h
  | .label .., _, _, h => by simp [loopAt] at h
  | .goto _, _, _, h => by simp [loopAt] at h
theorem blt_lt {a b : Nat} (h : a < b) : Nat.blt a b = true := by rw [Nat.blt_eq]; exact h

/-- code that leads from here to there; numbers below the first one keep their blocks -/
def CodeN (P : Program) (G : Nat → Option (List D)) (nt n0 : Nat) (code : Code) (st : St) (q : X × St) : Prop :=
  n0 ≤ st.n → ∀ (c : Cf) (a : Act) (Q : Exit → Act → World → Prop), SR G nt c st a → (∀ a' c', Ext c n0 c' → n0 ≤ q.2.n → SR G nt c' q.2 a' → Q (exitOf q.1) a' c'.w) → code.wp P Q a c.w

theorem Ext.weaken {c c' : Cf} {n m : Nat} (h : Ext c m c') (hn : n ≤ m) : Ext c n c' :=
  ⟨h.size, h.kept, h.shape, fun id hid => h.bk id (by omega), h.K, h.G, h.keptK, h.os, h.tape, h.output⟩

/-- what is told of a piece of code's rounds is so -/
def LoopsSem (P : Program) (G : Nat → Option (List D)) (nt n0 : Nat) (L : Loops) (c : Code) (k0 : Nat) : Prop :=
  ∀ k body, loopAt c k = some body → ∀ (st : St) (α : Type) (K : X → St → Option α) (r : α), L (k0 + k) st K = some r → ∃ x st', CodeN P G nt n0 (.loop body) st (x, st') ∧ K x st' = some r

theorem CodeN.seq {G : Nat → Option (List D)} {nt n0 : Nat} {x y : Code} {st st1 : St} {q : X × St} (h1 : CodeN P G nt n0 x st (.n, st1)) (h2 : CodeN P G nt n0 y st1 q) : CodeN P G nt n0 (.seq x y) st q := by
  intro h0 c a Q hr hQ
  refine wp_seq (h1 h0 c a _ hr fun a1 c1 hx1 hn1 hr1 => ?_)
  exact h2 hn1 c1 a1 Q hr1 fun a2 c2 hx2 hn2 hr2 => hQ a2 c2 (hx1.trans hx2 (Nat.le_refl _)) hn2 hr2
theorem CodeN.seq_out {G : Nat → Option (List D)} {nt n0 : Nat} {x y : Code} {st : St} {q : X × St} (h1 : CodeN P G nt n0 x st q) (hq : q.1 ≠ .n) : CodeN P G nt n0 (.seq x y) st q := by
  intro h0 c a Q hr hQ
  refine wp_seq (h1 h0 c a _ hr fun a1 c1 hx1 hn1 hr1 => ?_)
  have := hQ a1 c1 hx1 hn1 hr1
  obtain ⟨x', st'⟩ := q
  cases x' with
  | n => exact absurd rfl hq
  | ret => exact this
  | exit id => exact this
theorem CodeN.block {G : Nat → Option (List D)} {nt n0 id : Nat} {x : Code} {st st' : St} {j : Nat} (h1 : CodeN P G nt n0 x st (.exit j, st')) : CodeN P G nt n0 (.block id x) st (bif j == id then .n else .exit j, st') := by
  intro h0 c a Q hr hQ
  refine wp_block (h1 h0 c a _ hr fun a1 c1 hx1 hn1 hr1 => ?_)
  have := hQ a1 c1 hx1 hn1 hr1
  by_cases hj : j = id
  · subst hj
    simp only [beq_self_eq_true, cond_true] at this
    simpa [exitOf, Exit.inBlock] using this
  · have hb : (j == id) = false := by simpa using hj
    simp only [hb, cond_false] at this
    simpa [exitOf, Exit.inBlock, hj] using this
theorem CodeN.block_out {G : Nat → Option (List D)} {nt n0 id : Nat} {x : Code} {st : St} {q : X × St} (h1 : CodeN P G nt n0 x st q) (hq : ∀ j, q.1 ≠ .exit j) : CodeN P G nt n0 (.block id x) st q := by
  intro h0 c a Q hr hQ
  refine wp_block (h1 h0 c a _ hr fun a1 c1 hx1 hn1 hr1 => ?_)
  have := hQ a1 c1 hx1 hn1 hr1
  obtain ⟨x', st'⟩ := q
  cases x' with
  | n => exact this
  | ret => exact this
  | exit id => exact absurd rfl (hq id)

theorem evK_sound {H : HK} (hok : HKOK P H) {L : Loops} {nt n0 : Nat} : ∀ (c : Code) (k : Nat) (st : St) (K : X → St → Option α), okCode nt c = true → LoopsSem P H.G nt n0 L c k → evK P H L c k st K = some r →
    ∃ x st', CodeN P H.G nt n0 c st (x, st') ∧ K x st' = some r
  | .skip, k, st, K, hk, hL, h => ⟨.n, st, fun h0 c a Q hr hQ => wp_skip (hQ a c (.refl c _) h0 hr), h⟩
  | .region id ops false, k, st, K, hk, hL, h => by
    simp only [evK] at h
    have hall : ∀ o ∈ ops.toList, ∀ d, o.dst = some d → d < nt := by
      intro o ho d hd
      simp only [okCode, List.all_eq_true] at hk
      have := hk o ho
      rw [hd] at this
      exact Nat.le_of_ble_eq_true this
    obtain ⟨st', h1, h2⟩ := opersK_sound hok hall (fun o ho => ho) h
    exact ⟨.n, st', fun h0 c a Q hr hQ => wp_region_list (h1 c a Q hr fun a' c' hx hn hr' => hQ a' c' (hx.weaken h0) (Nat.le_trans h0 hn) hr'), h2⟩
  | .region id ops true, k, st, K, hk, hL, h => by
    simp only [evK] at h
    have hall : ∀ o ∈ ops.toList, ∀ d, o.dst = some d → d < nt := by
      intro o ho d hd
      simp only [okCode, List.all_eq_true] at hk
      have := hk o ho
      rw [hd] at this
      exact Nat.le_of_ble_eq_true this
    obtain ⟨hm, h⟩ := cond_some h
    obtain ⟨st', h1, h2⟩ := drawK_sound h
    exact ⟨.n, st', fun h0 c a Q hr hQ => evDraw_wp hok.hs hm hall h1 hr fun a' c' hx hn hr' => hQ a' c' (hx.weaken h0) (Nat.le_trans h0 hn) hr', h2⟩
  | .seq x y, k, st, K, hk, hL, h => by
    simp only [okCode, Bool.and_eq_true] at hk
    simp only [evK] at h
    have hLx : LoopsSem P H.G nt n0 L x k := fun j b hb => hL j b (by simp only [loopAt, blt_lt (loopAt_lt hb), cond_true, hb])
    have hLy : LoopsSem P H.G nt n0 L y (k + loops x) := fun j b hb st α' K' r' hl => by
      refine hL (loops x + j) b ?_ st α' K' r' (by rw [← hl]; congr 1; omega)
      have : Nat.blt (loops x + j) (loops x) = false := by
        cases hb : Nat.blt (loops x + j) (loops x)
        · rfl
        · rw [Nat.blt_eq] at hb; omega
      simp only [loopAt, this, cond_false]
      rw [← hb]; congr 1; omega
    obtain ⟨x1, st1, h1, h2⟩ := evK_sound hok x k st _ hk.1 hLx h
    cases x1 with
    | n =>
      obtain ⟨x2, st2, h3, h4⟩ := evK_sound hok y _ st1 _ hk.2 hLy h2
      exact ⟨x2, st2, h1.seq h3, h4⟩
    | ret => exact ⟨_, st1, h1.seq_out (by simp), h2⟩
    | exit j => exact ⟨_, st1, h1.seq_out (by simp), h2⟩
  | .cond co x y, k, st, K, hk, hL, h => by
    simp only [okCode, Bool.and_eq_true] at hk
    simp only [evK] at h
    have hLx : LoopsSem P H.G nt n0 L x k := fun j b hb => hL j b (by simp only [loopAt, blt_lt (loopAt_lt hb), cond_true, hb])
    have hLy : LoopsSem P H.G nt n0 L y (k + loops x) := fun j b hb st α' K' r' hl => by
      refine hL (loops x + j) b ?_ st α' K' r' (by rw [← hl]; congr 1; omega)
      have : Nat.blt (loops x + j) (loops x) = false := by
        cases hb : Nat.blt (loops x + j) (loops x)
        · rfl
        · rw [Nat.blt_eq] at hb; omega
      simp only [loopAt, this, cond_false]
      rw [← hb]; congr 1; omega
    split at h
    · rename_i t ht
      have cnd : ∀ (c : Cf) (a : Act), SR H.G nt c st a → a.eval co = .bool t := by
        intro c a hr
        have hv := opV_rel hr.s co
        rw [hr.g, ht] at hv
        generalize a.eval co = v at hv
        cases hv.inv_d
        rfl
      cases t with
      | true =>
        obtain ⟨x1, st1, h1, h2⟩ := evK_sound hok x _ st _ hk.1 hLx h
        exact ⟨x1, st1, fun h0 c a Q hr hQ => wp_cond (cnd c a hr) (h1 h0 c a Q hr hQ), h2⟩
      | false =>
        obtain ⟨x1, st1, h1, h2⟩ := evK_sound hok y _ st _ hk.2 hLy h
        exact ⟨x1, st1, fun h0 c a Q hr hQ => wp_cond (cnd c a hr) (h1 h0 c a Q hr hQ), h2⟩
    · cases h
  | .block id x, k, st, K, hk, hL, h => by
    simp only [okCode] at hk
    simp only [evK] at h
    obtain ⟨x1, st1, h1, h2⟩ := evK_sound hok x k st _ hk (fun j b hb => hL j b hb) h
    cases x1 with
    | n => exact ⟨_, st1, h1.block_out (by simp), h2⟩
    | ret => exact ⟨_, st1, h1.block_out (by simp), h2⟩
    | exit j =>
      refine ⟨_, st1, h1.block, ?_⟩
      cases hb : (j == id) <;> simp only [hb, cond_true, cond_false] at h2 ⊢ <;> exact h2
  | .loop x, k, st, K, hk, hL, h => by
    simp only [evK] at h
    exact hL 0 x rfl st _ K r h
  | .exit id, k, st, K, hk, hL, h => ⟨.exit id, st, fun h0 c a Q hr hQ => wp_exit (hQ a c (.refl c _) h0 hr), h⟩
  | .ret, k, st, K, hk, hL, h => ⟨.ret, st, fun h0 c a Q hr hQ => wp_ret (hQ a c (.refl c _) h0 hr), h⟩
  | .scope _, k, st, K, hk, hL, h => by simp [evK] at h
  | .rangeFunc .., k, st, K, hk, hL, h => by simp [evK] at h
  | .label .., k, st, K, hk, hL, h => by simp [evK] at h
  | .goto _, k, st, K, hk, hL, h => by simp [evK] at h

/-! ### functions -/
theorem mcall_of {G : Nat → Option (List D)} {g : FuncId} {d : Fd} (hd : fnOf P g = some d) {xs : List V} (hle : xs.length ≤ d.nt) {n : Nat} {hp : Heap} {x : X} {st : St} (hx : x = .n ∨ x = .ret)
    (hc : CodeN P G d.nt n d.code ⟨zipArgs 0 xs, n, hp⟩ (x, st)) {vs' : List V} (hres : ress P st d.res = some vs') : Enters P g ∧ MCall P G g xs n hp (oneV vs', st.n, st.h) := by
  obtain ⟨fn, h1, h2, h3, h4, h5, h6⟩ := fnOf_spec hd
  refine ⟨⟨fn, h1, h3, by rw [h2]; rfl⟩, ?_⟩
  intro c vs hG hg hH hL
  have hsz : vs.size = xs.length := by have := hL.1; simpa using this
  have hr0 : SR G d.nt c ⟨zipArgs 0 xs, n, hp⟩ { tmps := vs ++ Array.replicate (fn.ntmps - vs.size) undef, defers := [] } := by
    refine ⟨hG, ⟨hg, fun i => ?_⟩, hH, by simp; omega, rfl⟩
    rw [zipArgs_get, if_pos (Nat.zero_le _)]
    simp only [Nat.sub_zero]
    by_cases hi : i < xs.length
    · obtain ⟨u, hu, hru⟩ := hL.2 i _ (List.getElem?_eq_getElem hi)
      rw [List.getElem?_eq_getElem hi]
      rw [Array.getElem?_toList] at hu
      rw [Array.getD_eq_getD_getElem?, Array.getElem?_append, if_pos (by omega), hu]
      exact hru
    · rw [List.getElem?_eq_none (by omega)]
      exact .junk _
  refine calls_of_wp h1 h2 ?_
  have finish : ∀ (a' : Act) (c' : Cf), Ext c n c' → n ≤ st.n → SR G d.nt c' st a' →
      a'.defers = [] ∧ ∃ v, (results fn a'.tmps).run P c'.w = .ok v c'.w ∧ ∃ v' c'', Ending.returned v = .returned v' ∧ c'.w = c''.w ∧ Outs c n (oneV vs', st.n, st.h) v' c'' := by
    intro a' c' hx hn hr
    rw [← h6] at hres
    obtain ⟨u, hu, hru⟩ := results_sound (P := P) hr hres
    exact ⟨hr.defers, u, hu, u, c', rfl, rfl, hx, hn, hr.h, hru⟩
  rcases hx with rfl | rfl
  · exact hc (Nat.le_refl _) c _ _ hr0 fun a' c' hx hn hr => finish a' c' hx hn hr
  · exact hc (Nat.le_refl _) c _ _ hr0 fun a' c' hx hn hr => finish a' c' hx hn hr

theorem pcall_of {G : Nat → Option (List D)} {g : FuncId} {ds : List D} {v : V} {n : Nat} {hp : Heap} {q : D} (hm : MCall P G g (ds.map .d) 0 [] (v, n, hp)) (he : expD hp v = some q) : PCall P G g ds q := by
  intro w I K vs hg hI hK hd hsz hargs
  have hH : RelH ⟨w, I, K, fun _ => 0, G⟩ 0 [] := relH_empty hI hK hd
  refine (hm ⟨w, I, K, fun _ => 0, G⟩ vs rfl hg hH ⟨by simpa using hsz, fun j x hj => ?_⟩).mono ?_
  · simp only [List.getElem?_map] at hj
    obtain ⟨d, hd', rfl⟩ := Option.map_eq_some_iff.1 hj
    have hlt := (List.getElem?_eq_some_iff.1 hd').1
    refine ⟨vs.getD j undef, ?_, .d _ _ (hargs j d hd')⟩
    rw [Array.getElem?_toList, Array.getD_eq_getD_getElem?, Array.getElem?_eq_getElem (by omega)]; rfl
  · rintro e w' ⟨u, c', rfl, rfl, hO⟩
    obtain ⟨c2, hp2, hF, hX⟩ := expD_sound he hO.heap hO.rel
    have hx := hO.ext.trans hF.ext hO.le
    have hw : c2.w = c'.w := hF.w
    refine ⟨u, c2.I, rfl, hO.ext.size, ?_, ?_, fun b hb => ⟨?_, ?_⟩, ?_, hO.ext.os, hO.ext.tape, hO.ext.output, ?_⟩
    · have := hx.kept; rw [hw] at this; exact this
    · exact hO.ext.keptK
    · have := hF.heap.low b hb; rw [hw] at this; exact this
    · have := hF.heap.disj b hb
      rw [hx.K] at this
      exact this
    · exact hO.ext.shape
    · have hKK : c2.K = K := hx.K
      rw [hw, hKK] at hX
      exact hX

theorem resK_sound {st : St} : ∀ {rs : List ResultVar} {K : List V → Option α}, resK P st rs K = some r → ∃ vs, ress P st rs = some vs ∧ K vs = some r
  | [], K, h => ⟨[], rfl, h⟩
  | .tmp t :: rs, K, h => by
    simp only [resK] at h
    obtain ⟨vs, h1, h2⟩ := resK_sound h
    exact ⟨_, by simp only [ress, resV, h1], h2⟩
  | .cell a t :: rs, K, h => by
    simp only [resK] at h
    obtain ⟨v, h0, h⟩ := loadK_sound h
    obtain ⟨vs, h1, h2⟩ := resK_sound h
    exact ⟨_, by simp only [ress, resV, h0, h1], h2⟩

/-- what is told of a function's rounds is so -/
def LoopsOf (P : Program) (G : Nat → Option (List D)) (n0 : Nat) (L : Loops) (g : FuncId) : Prop := ∀ d, fnOf P g = some d → LoopsSem P G d.nt n0 L d.code 0

theorem bodyK_sound {H : HK} (hok : HKOK P H) {L : Loops} {g : FuncId} {n : Nat} (hL : LoopsOf P H.G n L g) {xs : List V} {hp : Heap} {K : V → Nat → Heap → Option α} (h : bodyK P H L g xs n hp K = some r) :
    ∃ v n' hp', Enters P g ∧ MCall P H.G g xs n hp (v, n', hp') ∧ K v n' hp' = some r := by
  unfold bodyK at h
  split at h
  · rename_i d hd
    obtain ⟨fn, h1, h2, h3, h4, h5, h6⟩ := fnOf_spec hd
    obtain ⟨hle, h⟩ := cond_some h
    obtain ⟨x, st', hc, h⟩ := evK_sound hok d.code 0 _ _ h4 (hL d hd) h
    cases x with
    | n =>
      simp only [finK] at h
      obtain ⟨vs, h7, h8⟩ := resK_sound h
      obtain ⟨e, m⟩ := mcall_of hd (Nat.le_of_ble_eq_true hle) (.inl rfl) hc h7
      exact ⟨_, _, _, e, m, h8⟩
    | ret =>
      simp only [finK] at h
      obtain ⟨vs, h7, h8⟩ := resK_sound h
      obtain ⟨e, m⟩ := mcall_of hd (Nat.le_of_ble_eq_true hle) (.inr rfl) hc h7
      exact ⟨_, _, _, e, m, h8⟩
    | exit j => cases h
  · cases h

theorem outK_sound {hp : Heap} {v : V} {K : D → Heap → Option α} (h : outK hp v K = some r) : ∃ d hp', expTop hp v = some (d, hp') ∧ K d hp' = some r := by
  have main : frzK hp v K = some r → (∀ d hp', frz hp v = some (d, hp') → expTop hp v = some (d, hp')) → ∃ d hp', expTop hp v = some (d, hp') ∧ K d hp' = some r := by
    intro h1 h2
    obtain ⟨d, hp', h3, h4⟩ := frzK_sound h1
    exact ⟨d, hp', h2 d hp' h3, h4⟩
  cases v with
  | ms id w off len =>
    cases hb : lk hp id with
    | arr w' xs =>
      simp only [outK, hb] at h
      cases hc : (off == 0 && len == List.length xs && w == w') <;> rw [hc] at h
      · exact main h fun d hp' h1 => by simp only [expTop, hb, hc, cond_false]; exact h1
      · exact ⟨_, _, by simp only [expTop, hb, hc, cond_true], h⟩
    | _ =>
      simp only [outK, hb] at h
      exact main h fun d hp' h1 => by simp only [expTop, hb]; exact h1
  | _ => exact main h fun d hp' h1 => h1
theorem outsK_sound : ∀ {vs : List V} {hp : Heap} {K : List D → Heap → Option α}, outsK vs hp K = some r → ∃ ds hp', expTops hp vs = some (ds, hp') ∧ K ds hp' = some r
  | [], hp, K, h => ⟨_, _, rfl, h⟩
  | v :: vs, hp, K, h => by
    simp only [outsK] at h
    obtain ⟨d, hp', h1, h2⟩ := outK_sound h
    obtain ⟨ds, hp'', h3, h4⟩ := outsK_sound h2
    exact ⟨_, _, by simp only [expTops, h1, h3], h4⟩
theorem expK_sound {hp : Heap} {v : V} {K : D → Option α} (h : expK hp v K = some r) : ∃ d, expD hp v = some d ∧ K d = some r := by
  unfold expK at h
  split at h
  · obtain ⟨ds, hp', h1, h2⟩ := outsK_sound h
    exact ⟨_, by simp only [expD, h1, Option.map_some], h2⟩
  · rename_i hne
    obtain ⟨d, hp', h1, h2⟩ := outK_sound h
    refine ⟨d, ?_, h2⟩
    unfold expD
    split
    · exact (hne _ rfl).elim
    · rw [h1]; rfl

theorem pcallK_sound {H : HK} (hok : HKOK P H) {L : Loops} {g : FuncId} (hL : LoopsOf P H.G 0 L g) {ds : List D} {K : D → Option α} (h : pcallK P H L g ds K = some r) :
    ∃ q, Enters P g ∧ PCall P H.G g ds q ∧ K q = some r := by
  unfold pcallK at h
  obtain ⟨v, n', hp', h1, h2, h3⟩ := bodyK_sound hok hL h
  obtain ⟨q, h4, h5⟩ := expK_sound h3
  exact ⟨q, h1, pcall_of h2 h4, h5⟩

/-! ### tables of functions -/
abbrev Tab := FuncId → List D → Option (Bool × D)
def TabOK (P : Program) (G : Nat → Option (List D)) (T : Tab) : Prop := ∀ g ds q, T g ds = some (true, q) → Enters P g ∧ PCall P G g ds q

theorem hk_ok {G : Nat → Option (List D)} {E : FuncId → Option (List D → Option (Bool × D))} {T : Tab} {L : FuncId → Loops} (hE : ∀ g f, E g = some f → ExtOK P g (bare f)) (hT : TabOK P G T) (hL : ∀ g n0, LoopsOf P G n0 (L g) g) : ∀ k, HKOK P (hk P G E T L k)
  | 0 => ⟨hE, hT, fun g xs n hp α K r h => by cases h⟩
  | k + 1 => by
    have ih := hk_ok hE hT hL k
    have hG : (hk P G E T L k).G = G := by cases k <;> rfl
    refine ⟨hE, hT, fun g xs n hp α K r h => ?_⟩
    have h' : bodyK P (hk P G E T L k) (L g) g xs n hp K = some r := h
    have hl : LoopsOf P (hk P G E T L k).G n (L g) g := by rw [hG]; exact hL g n
    obtain ⟨v, n', hp', h1, h2, h3⟩ := bodyK_sound ih hl h'
    rw [hG] at h2
    exact ⟨v, n', hp', h1, h2, h3⟩
theorem hk_G {G : Nat → Option (List D)} {E : FuncId → Option (List D → Option (Bool × D))} {T : Tab} {L : FuncId → Loops} (k : Nat) : (hk P G E T L k).G = G := by cases k <;> rfl

def noLoops : FuncId → Loops := fun _ _ _ _ _ => none
theorem noLoops_ok {G : Nat → Option (List D)} (g : FuncId) (n0 : Nat) : LoopsOf P G n0 (noLoops g) g := fun d hd k b hb st α K r h => by cases h

/-- a function's row: what it answers to what -/
structure Row where
  g : FuncId
  f : List D → Option (Bool × D)
def RowOK (P : Program) (G : Nat → Option (List D)) (w : Row) : Prop := ∀ ds q, w.f ds = some (true, q) → Enters P w.g ∧ PCall P G w.g ds q
def tab : List Row → Tab
  | [], _, _ => none
  | w :: ws, g, ds => bif w.g == g then w.f ds else tab ws g ds
theorem tab_ok {G : Nat → Option (List D)} : ∀ {ws : List Row}, (∀ w ∈ ws, RowOK P G w) → TabOK P G (tab ws)
  | [], _, g, ds, q, h => by cases h
  | w :: ws, hw, g, ds, q, h => by
    simp only [tab] at h
    cases hb : (w.g == g) <;> rw [hb] at h
    · exact tab_ok (fun w hm => hw w (List.mem_cons_of_mem _ hm)) g ds q h
    · have hg : w.g = g := by simpa using hb
      subst hg
      exact hw w List.mem_cons_self ds q h
end Go.Fw
