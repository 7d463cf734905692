/- Regions whose order is drawn: step by step, and all of it. By this session. -/
import Derived.Test.YtloambokbipnjaaFu
set_option linter.unusedVariables false
set_option linter.unusedSimpArgs false
namespace Go.Fw
variable {P : Program}

theorem get_junked : ∀ (all : List Oper) (f : Slots) (t : Nat), get (junked all ++ f) t = .junk ∨ (get (junked all ++ f) t = get f t ∧ ∀ o ∈ all, o.dst ≠ some t)
  | [], f, t => .inr ⟨rfl, by simp⟩
  | o :: os, f, t => by
    have ih := get_junked os f t
    cases hd : o.dst with
    | none =>
      have he : junked (o :: os) ++ f = junked os ++ f := by simp [junked, hd]
      rw [he]
      rcases ih with ih | ⟨h1, h2⟩
      · exact .inl ih
      · refine .inr ⟨h1, fun o' ho' => ?_⟩
        rcases List.mem_cons.1 ho' with rfl | ho'
        · rw [hd]; simp
        · exact h2 o' ho'
    | some d =>
      have he : junked (o :: os) ++ f = (d, V.junk) :: (junked os ++ f) := by simp [junked, hd]
      rw [he, get_cons]
      by_cases hdt : d = t
      · rw [if_pos hdt]; exact .inl rfl
      · rw [if_neg hdt]
        rcases ih with ih | ⟨h1, h2⟩
        · exact .inl ih
        · refine .inr ⟨h1, fun o' ho' => ?_⟩
          rcases List.mem_cons.1 ho' with rfl | ho'
          · rw [hd]; simpa using hdt
          · exact h2 o' ho'

structure DInv (h : Hs) (all : Array Oper) (f : Slots) (n0 : Nat) (h0 : Heap) (R : List Rc) (N nt : Nat) (c0 : Cf) (S : Nat → Bool) (c : Cf) (a : Act) : Prop where
  cl : ∀ i r, R[i]? = some r → S i = true → ∀ k, r.A.testBit k = true → S k = true
  glob : Glob c
  g : c.G = h.G
  size : a.tmps.size = nt
  defers : a.defers = []
  ext : Ext c0 n0 c
  base : ∀ t, (∀ o ∈ all.toList, o.dst ≠ some t) → RelV c n0 (get f t) (a.tmps.getD t undef)
  rec_ : ∀ i r, R[i]? = some r → S i = true → ∀ x ∈ r.s, RelV c N x.2 (a.tmps.getD x.1 undef)
  heap : RelH c N (selH S 0 R ++ h0)

theorem put_get (a : Act) (d : Nat) (v : Value) (t : Nat) (h : d ≠ t) : (a.put (some d) v).tmps.getD t undef = a.tmps.getD t undef := by
  simp [Act.put, Array.getD_eq_getD_getElem?, h]
theorem suffix_take {α : Type} {a b : List α} (h : a <:+ b) : b = b.take (b.length - a.length) ++ a := by
  obtain ⟨t, rfl⟩ := h
  simp

theorem rec_keys {A : Nat} {o : Oper} {n : Nat} {see : Option (List Nat)} {hv : Heap} {st : St} : ∀ t, t ∈ (rcOf A o n see hv st).s.map Prod.fst ↔ o.dst = some t := by
  intro t
  simp only [rcOf, putOf]
  cases o.dst with
  | none => simp
  | some d => simp [eq_comm]

theorem draw_step {h : Hs} (hok : CallsOK P h) {all : Array Oper} {f : Slots} {n0 : Nat} {h0 : Heap} {R : List Rc} {N nt : Nat} {c0 : Cf} (hR : Recs P h all (junked all.toList ++ f) n0 h0 R N)
    (hall : ∀ o ∈ all.toList, ∀ d, o.dst = some d → d < nt) {S : Nat → Bool} {c : Cf} {a : Act} (inv : DInv h all f n0 h0 R N nt c0 S c a) {i : Nat} {o : Oper} (ho : all[i]? = some o) (hi : S i = false)
    (hedge : ∀ e ∈ o.after.toList, Region.binds .any e = true → S e.on = true) {K : Act → World → Prop} {Q : Exit → Act → World → Prop}
    (hK : ∀ a' c', DInv h all f n0 h0 R N nt c0 (fun j => S j || j == i) c' a' → K a' c'.w) : wpOp P all Q i K a c.w := by
  obtain ⟨r, hr, hrc, hN⟩ := hR.at_ i o ho
  obtain ⟨st', hev, hrd⟩ := hrc.st
  obtain ⟨f1, f2, f3, f4, f5, f6⟩ := hR.facts hr
  obtain ⟨a1, a2⟩ := ancB_spec hrc.anc
  have hA : ∀ k, r.A.testBit k = true → S k = true := by
    intro k hk
    obtain ⟨e, he, hb, q, hq, hkq⟩ := a2 k hk
    have hs := hedge e he hb
    rcases hkq with rfl | hkq
    · exact hs
    · have hei : e.on < i := by
        have := (List.getElem?_eq_some_iff.1 hq).1
        rw [List.length_take] at this; omega
      rw [List.getElem?_take_of_lt hei] at hq
      exact inv.cl e.on q hq hs k hkq
  have hAi : ∀ j, i ≤ j → (r.A.testBit ·) (0 + j) = false := by
    intro j hj
    rw [Nat.zero_add]
    cases hb : r.A.testBit j
    · exact hb
    · have := (hR.bit i r hr j hb).1; omega
  have hkey : ∀ t, t ∈ r.s.map Prod.fst ↔ o.dst = some t := by rw [hrd]; exact rec_keys
  have view := hR.view hr inv.cl hi hA
  -- the slots that it sees
  have hs : RelS { c with K := joinK c (selH S 0 R ++ h0) (viewH (r.A.testBit ·) (R.take i) h0 r.see) } r.lo (selS (r.A.testBit ·) 0 (R.take i) ++ (junked all.toList ++ f)) a.tmps := by
    have hW : ExtW c { c with K := joinK c (selH S 0 R ++ h0) (viewH (r.A.testBit ·) (R.take i) h0 r.see) } := ⟨fun b hb => ⟨hb, rfl⟩, fun b cs e fz h => ⟨cs, h, rfl⟩⟩
    refine ⟨inv.glob, fun t => ?_⟩
    rw [selS_take hAi, get_append]
    by_cases hk : t ∈ (selS (r.A.testBit ·) 0 R).map Prod.fst
    · rw [if_pos hk]
      obtain ⟨j, q, h1, h2, h3⟩ := selS_keys.1 hk
      rw [Nat.zero_add] at h2
      have hji := (hR.bit i r hr j h2).1
      rw [selS_last h1 (by rw [Nat.zero_add]; exact h2) h3 (fun j' q' hj' hq' _ ht' => ((hR.facts hq').2.2.2.1 j q hj' h1).2 t h3 ht')]
      obtain ⟨x, hx, rfl⟩ := List.mem_map.1 h3
      have hxs : get q.s x.1 = x.2 := by
        obtain ⟨o', ho', hrc', _⟩ := hR.of h1
        obtain ⟨st'', _, hq''⟩ := hrc'.st
        rw [hq''] at hx ⊢
        simp only [rcOf, putOf] at hx ⊢
        cases hd : o'.dst with
        | none => rw [hd] at hx; simp at hx
        | some d =>
          rw [hd] at hx
          simp only [List.mem_singleton] at hx
          subst hx
          simp [get]
      rw [hxs]
      obtain ⟨o', ho', hrc', _⟩ := hR.of h1
      have hk' := hrc'.ok
      simp only [okRc, Bool.and_eq_true] at hk'
      have h6 := hk'.1.2
      rw [List.all_eq_true] at h6
      refine (inv.rec_ j q h1 (hA j h2) x hx).move hW (fun id hp => ⟨?_, rfl⟩) (h6 x hx)
      have hqA : ∀ k, q.A.testBit k = true → (fun k => r.A.testBit k) k = true := by
        obtain ⟨_, q', g2, g3⟩ := hR.bit i r hr j h2
        rw [h1] at g2; injection g2 with g2; subst g2
        exact g3
      rcases Recs.ids (n0 := n0) h1 (S := fun k => r.A.testBit k) h2 hqA id hp with h5 | ⟨k, p, g1, g2, g3, g4⟩
      · omega
      · have := (f4 k p (hR.bit i r hr k g2).1 g1).1; omega
    · rw [if_neg hk]
      rcases get_junked all.toList f t with h1 | ⟨h1, h2⟩
      · rw [h1]; exact .junk _
      · rw [h1]
        refine (inv.base t h2).move hW (fun id hp => ⟨?_, rfl⟩) (inv.base t h2).inB
        have : id < n0 := by simpa [Nat.blt_eq] using hp
        omega
  have hH := view_heap inv.heap (fun id => (view id).1) (fun id hl => ((view id).2 hl).1) (fun id cs hb x hx => ((view id).2 (by simp [hb])).2 cs hb x hx)
  have hsr : SR h.G nt { c with K := joinK c (selH S 0 R ++ h0) (viewH (r.A.testBit ·) (R.take i) h0 r.see) } ⟨selS (r.A.testBit ·) 0 (R.take i) ++ (junked all.toList ++ f), r.lo, viewH (r.A.testBit ·) (R.take i) h0 r.see⟩ a :=
    ⟨inv.g, hs, hH, inv.size, inv.defers⟩
  unfold wpOp
  simp only [ho]
  refine evOper_wp hok.noCall hall (List.mem_of_getElem? (by rw [Array.getElem?_toList]; exact ho)) hev hsr fun v c' hx hn hsr' => ?_
  have hsuf := suffix_take (evOper_suffix (fun _ _ _ _ => rfl) hev)
  have hrp : r.p = st'.h.take (st'.h.length - (viewH (r.A.testBit ·) (R.take i) h0 r.see).length) := by
    have := congrArg Rc.p hrd
    exact this
  have hrs : r.s = putOf o.dst st'.f := by
    have := congrArg Rc.s hrd
    exact this
  have hrhi : r.hi = st'.n := by
    have := congrArg Rc.hi hrd
    exact this
  have hsuf' : st'.h = r.p ++ viewH (r.A.testBit ·) (R.take i) h0 r.see := by rw [hrp]; exact hsuf
  -- numbers of the others
  have rng : ∀ id, OkId R n0 S id → ¬ (r.lo ≤ id ∧ id < r.hi) := by
    rintro id (h1 | ⟨k, q, h1, h2, h3, h4⟩) ⟨h5, h6⟩
    · omega
    · rcases Nat.lt_trichotomy k i with hk | hk | hk
      · have := (f4 k q hk h1).1; omega
      · subst hk; rw [hi] at h2; cases h2
      · have := ((hR.facts h1).2.2.2.1 i r hk hr).1; omega
  have rngB : ∀ id, OkId R n0 S id → (!(Nat.ble r.lo id && Nat.blt id r.hi)) = true := by
    intro id hid
    cases hb : (Nat.ble r.lo id && Nat.blt id r.hi)
    · rfl
    · rw [Bool.and_eq_true] at hb
      exact absurd ⟨Nat.le_of_ble_eq_true hb.1, by simpa [Nat.blt_eq] using hb.2⟩ (rng id hid)
  have hx' : Ext { c with K := joinK c (selH S 0 R ++ h0) (viewH (r.A.testBit ·) (R.take i) h0 r.see) } r.lo c' := hx
  have hle : r.lo ≤ st'.n := hn
  have hext : Ext c0 n0 (joinC c c' r.lo r.hi) := by
    refine ⟨Nat.le_trans inv.ext.size hx'.size, fun b hb => ⟨(hx'.kept b (inv.ext.kept b hb).1).1, ((hx'.kept b (inv.ext.kept b hb).1).2).trans (inv.ext.kept b hb).2⟩, fun b cs e fz hc => ?_, fun id hid => ?_, inv.ext.K, hx'.G.trans inv.ext.G, fun b hb => ?_, hx'.os.trans inv.ext.os, hx'.tape.trans inv.ext.tape, hx'.output.trans inv.ext.output⟩
    · obtain ⟨cs1, h1, h2⟩ := inv.ext.shape b cs e fz hc
      obtain ⟨cs2, h3, h4⟩ := hx'.shape b cs1 e fz h1
      exact ⟨cs2, h3, h4.trans h2⟩
    · simp only [joinC]
      rw [if_neg (by omega)]
      exact inv.ext.bk id hid
    · exact (hx'.keptK b (.inl (by rw [inv.ext.K]; exact hb))).trans (inv.ext.keptK b hb)
  -- what it makes of memory
  have hnew : ∀ id, id ∈ r.p.map Prod.fst → lk (selH (fun j => S j || j == i) 0 R ++ h0) id = lk r.p id := by
    intro id hid
    rw [lk_append, if_pos (selH_keys.2 ⟨i, r, hr, by simp, hid⟩)]
    refine selH_last hr (by simp) hid fun j q hj hq hSj hmem' => ?_
    have hSj' : S j = true := by
      rw [Nat.zero_add] at hSj
      rcases Bool.or_eq_true _ _ ▸ hSj with h1 | h1
      · exact h1
      · have : j = i := by simpa using h1
        omega
    have hnA : q.A.testBit i = false := by
      cases hb : q.A.testBit i
      · rfl
      · have := inv.cl j q hq hSj' i hb
        rw [hi] at this; cases this
    have hm : r.see = none := by
      cases hm : r.see with
      | none => rfl
      | some l => rw [f5 l hm] at hid; simp at hid
    exact ((apart1_spec ((hR.facts hq).2.2.2.2.2 i r hj hr hnA) hmem').1 hm).2 hid
  have hsame : ∀ id, id ∉ r.p.map Prod.fst → lk (selH (fun j => S j || j == i) 0 R ++ h0) id = lk (selH S 0 R ++ h0) id := by
    intro id hid
    refine selH_congr (fun j q hq hne hm => ?_) rfl
    rw [Nat.zero_add] at hne
    by_cases hj : j = i
    · subst hj
      rw [hr] at hq; injection hq with hq; subst hq
      exact hid hm
    · have : (j == i) = false := by simpa using hj
      simp [this] at hne
  have hheap : RelH (joinC c c' r.lo r.hi) N (selH (fun j => S j || j == i) 0 R ++ h0) := by
    refine join_heap inv.heap f2 f3 hx' (hp' := st'.h) (by rw [hrhi]; exact hsr'.h) (fun id => ?_) (fun id hl => rng id (hR.heap inv.cl hl).1) (fun id cs hb x hx => ?_)
    · by_cases hid : id ∈ r.p.map Prod.fst
      · refine .inl ?_
        rw [hnew id hid, hsuf', lk_append, if_pos hid]
      · have e1 : lk st'.h id = lk (viewH (r.A.testBit ·) (R.take i) h0 r.see) id := by rw [hsuf', lk_append, if_neg hid]
        rw [hsame id hid, e1]
        rcases (view id).1 with h1 | h1
        · exact .inr ⟨h1, rfl, h1⟩
        · exact .inl h1.symm
    · exact inB_mono (fun id hid => rngB id (@of_decide_eq_true _ (Classical.propDecidable _) hid)) x ((hR.heap inv.cl (by simp [hb])).2 cs hb x hx)
  refine hK _ (joinC c c' r.lo r.hi) ⟨?_, ?_, ?_, ?_, ?_, hext, ?_, ?_, hheap⟩
  · intro j q hq hj k hk
    rcases Bool.or_eq_true _ _ ▸ hj with h1 | h1
    · simp only [inv.cl j q hq h1 k hk, Bool.true_or]
    · have : j = i := by simpa using h1
      subst this
      rw [hr] at hq; injection hq with hq; subst hq
      simp only [hA k hk, Bool.true_or]
  · intro g cs hg
    exact hsr'.s.glob g cs hg
  · exact hsr'.g
  · rw [put_size]; exact inv.size
  · rw [put_defers]; exact inv.defers
  · intro t ht
    have hne : o.dst ≠ some t := ht o (List.mem_of_getElem? (by rw [Array.getElem?_toList]; exact ho))
    have e : (a.put o.dst v).tmps.getD t undef = a.tmps.getD t undef := by
      cases hd : o.dst with
      | none => rfl
      | some d => exact put_get a d v t (by rintro rfl; exact hne hd)
    rw [e]
    have hb := inv.base t ht
    exact join_old hR.n0N hx' hb (inB_mono (fun id hid => rngB id (.inl (by simpa [Nat.blt_eq] using hid))) _ hb.inB)
  · intro j q hq hj x hx
    by_cases hji : j = i
    · subst hji
      rw [hr] at hq; injection hq with hq; subst hq
      rw [hrs] at hx
      unfold putOf at hx
      cases hd : o.dst with
      | none => rw [hd] at hx; simp at hx
      | some d =>
        rw [hd] at hx
        simp only [List.mem_singleton] at hx
        subst hx
        have hg := hsr'.s.get d
        rw [hd, ← hrhi] at hg
        exact join_new f2 f3 hx' hg
    · have hSj : S j = true := by
        rcases Bool.or_eq_true _ _ ▸ hj with h1 | h1
        · exact h1
        · exact absurd (by simpa using h1) hji
      have hxk : x.1 ∈ q.s.map Prod.fst := List.mem_map.2 ⟨x, hx, rfl⟩
      have e : (a.put o.dst v).tmps.getD x.1 undef = a.tmps.getD x.1 undef := by
        cases hd : o.dst with
        | none => rfl
        | some d =>
          refine put_get a d v _ ?_
          rintro rfl
          have hxr := (hkey x.1).2 hd
          rcases Nat.lt_trichotomy j i with hk | hk | hk
          · exact (f4 j q hk hq).2 _ hxk hxr
          · exact hji hk
          · exact ((hR.facts hq).2.2.2.1 i r hk hr).2 _ hxr hxk
      rw [e]
      have hb := inv.rec_ j q hq hSj x hx
      obtain ⟨o', ho', hrc', _⟩ := hR.of hq
      have hk' := hrc'.ok
      simp only [okRc, Bool.and_eq_true] at hk'
      have h6 := hk'.1.2
      rw [List.all_eq_true] at h6
      exact join_old (Nat.le_refl _) hx' hb (inB_mono (fun id hid => rngB id (Recs.ids (n0 := n0) hq hSj (inv.cl j q hq hSj) id hid)) _ (h6 x hx))

theorem DInv.setS {h : Hs} {all : Array Oper} {f : Slots} {n0 : Nat} {h0 : Heap} {R : List Rc} {N nt : Nat} {c0 c : Cf} {S T : Nat → Bool} {a : Act} (inv : DInv h all f n0 h0 R N nt c0 S c a) (hST : S = T) :
    DInv h all f n0 h0 R N nt c0 T c a := hST ▸ inv

def openN (all : Array Oper) (listed : Array Bool) : Nat := ((List.range all.size).filter fun i => !listed.getD i true).length

theorem draw_any {h : Hs} (hok : CallsOK P h) {all : Array Oper} {f : Slots} {n0 : Nat} {h0 : Heap} {R : List Rc} {N nt : Nat} {c0 : Cf} (hR : Recs P h all (junked all.toList ++ f) n0 h0 R N)
    (hall : ∀ o ∈ all.toList, ∀ d, o.dst = some d → d < nt) {Q : Exit → Act → World → Prop}
    (hQ : ∀ a c S, DInv h all f n0 h0 R N nt c0 S c a → (∀ i, i < all.size → S i = true) → Q .normal a c.w) :
    ∀ (fuel : Nat) (listed : Array Bool) (a : Act) (c : Cf), listed.size = all.size → openN all listed ≤ fuel → DInv h all f n0 h0 R N nt c0 (fun i => listed.getD i false) c a → wpAny P .any all Q fuel listed a c.w := by
  have done : ∀ (listed : Array Bool), listed.size = all.size → Region.ready .any all listed = [] → ∀ i, i < all.size → listed.getD i false = true := by
    intro listed hsz hr i
    induction i using Nat.strongRecOn with
    | _ i ih =>
      intro hi
      cases hl : listed.getD i false with
      | true => rfl
      | false =>
        exfalso
        have hmem : i ∈ Region.ready .any all listed := by
          unfold Region.ready
          rw [List.mem_filter]
          refine ⟨List.mem_range.2 hi, ?_⟩
          have h1 : listed.getD i true = false := by
            rw [Array.getD_eq_getD_getElem?, Array.getElem?_eq_getElem (by omega)] at hl ⊢
            exact hl
          rw [h1, Array.getElem?_eq_getElem hi]
          simp only [Bool.not_false, Bool.true_and, Option.map_some, Option.getD_some, Array.all_eq_true']
          intro e he
          cases hb : Region.binds .any e with
          | false => rfl
          | true =>
            obtain ⟨r, hr', hrc, _⟩ := hR.at_ i all[i] (Array.getElem?_eq_getElem hi)
            obtain ⟨q, hq, _, _⟩ := (ancB_spec hrc.anc).1 e (by simpa using he) hb
            have hlt : e.on < i := by
              have := (List.getElem?_eq_some_iff.1 hq).1
              rw [List.length_take] at this; omega
            simpa using ih e.on hlt (by omega)
        rw [hr] at hmem
        cases hmem
  intro fuel
  induction fuel with
  | zero =>
    intro listed a c hsz hn inv
    have hnil : Region.ready .any all listed = [] := by
      have h0 : (List.range all.size).filter (fun i => !listed.getD i true) = [] := List.length_eq_zero_iff.1 (Nat.le_zero.1 hn)
      unfold Region.ready
      rw [List.filter_eq_nil_iff] at h0 ⊢
      intro i hi hb
      rw [Bool.and_eq_true] at hb
      exact h0 i hi hb.1
    exact ⟨hnil, hQ a c _ inv (done listed hsz hnil)⟩
  | succ fuel ih =>
    intro listed a c hsz hn inv
    refine ⟨fun hnil => hQ a c _ inv (done listed hsz hnil), fun i hi => ?_⟩
    unfold Region.ready at hi
    rw [List.mem_filter, List.mem_range, Bool.and_eq_true] at hi
    obtain ⟨hlt, hl, hedge⟩ := hi
    have ho : all[i]? = some all[i] := Array.getElem?_eq_getElem hlt
    rw [ho] at hedge
    simp only [Option.map_some, Option.getD_some, Array.all_eq_true'] at hedge
    have hl0 : listed.getD i false = false := by
      rw [Array.getD_eq_getD_getElem?, Array.getElem?_eq_getElem (by omega)] at hl ⊢
      simpa using hl
    refine draw_step hok hR hall inv ho hl0 (fun e he hb => ?_) fun a' c' inv' => ?_
    · have := hedge e (by simpa using he)
      rw [hb] at this
      simpa using this
    · refine ih _ a' c' (by simp [hsz]) ?_ (inv'.setS ?_)
      · have hlen : openN all (listed.setIfInBounds i true) < openN all listed := by
          unfold openN
          have hset : ∀ j, (!(listed.setIfInBounds i true).getD j true) = (!(j == i) && !listed.getD j true) := by
            intro j
            rw [Array.getD_eq_getD_getElem?, Array.getElem?_setIfInBounds, Array.getD_eq_getD_getElem?]
            by_cases hj : i = j
            · subst hj
              rw [if_pos rfl, if_pos (by omega)]
              simp
            · rw [if_neg hj]
              have : (j == i) = false := by simpa using fun h => hj h.symm
              rw [this]; simp
          simp only [hset]
          rw [← List.filter_filter]
          rw [List.length_filter_lt_length_iff_exists]
          exact ⟨i, List.mem_filter.2 ⟨List.mem_range.2 hlt, hl⟩, by simp⟩
        omega
      · funext j
        simp only [Array.getD_eq_getD_getElem?, Array.getElem?_setIfInBounds]
        by_cases hj : i = j
        · subst hj
          rw [if_pos rfl, if_pos (by omega)]
          simp
        · rw [if_neg hj]
          have : (j == i) = false := by simpa using fun h => hj h.symm
          rw [this]; simp

theorem RelH.lows {c : Cf} {n : Nat} {hp : Heap} (h : RelH c n hp) : ∀ id cs, lk hp id = .box cs → ∀ x ∈ cs, inB (fun id => Nat.blt id n) x = true := by
  intro id cs hb x hx
  obtain ⟨vs, e, _, _, h3⟩ := h.box id cs hb
  obtain ⟨j, hj⟩ := List.getElem?_of_mem hx
  exact (h3 j x hj).1.inB

theorem evDraw_wp {h : Hs} (hok : CallsOK P h) (hm : P.follows .mixedOrders = true) {nt id : Nat} {all : Array Oper} (hall : ∀ o ∈ all.toList, ∀ d, o.dst = some d → d < nt) {Q : Exit → Act → World → Prop} {st st' : St} {a : Act} {c : Cf}
    (he : evDraw P h all.toList st = some st') (hr : SR h.G nt c st a) (hQ : ∀ a' c', Ext c st.n c' → st.n ≤ st'.n → SR h.G nt c' st' a' → Q .normal a' c'.w) : (Code.region id all true).wp P Q a c.w := by
  unfold evDraw at he
  split at he
  · rename_i R N hgo
    injection he with he
    subst he
    have hspec := drawGo_spec _ _ _ _ _ hgo
    have hR : Recs P h all (junked all.toList ++ st.f) st.n st.h R N := by
      refine ⟨by rw [hspec.2.1]; simp, hspec.1, fun i o ho => ?_, fun id hl => hr.h.lt id hl, hr.h.lows⟩
      have := hspec.2.2.2 i o (by simpa using ho)
      simpa using this
    refine wp_region_any hm ?_
    -- the same, one more thing drawn
    let c1 : Cf := { c with w := { c.w with drawn := c.w.drawn + 1 } }
    have hext : Ext c st.n c1 := ⟨Nat.le_refl _, fun _ h => ⟨h, rfl⟩, fun _ cs _ _ h => ⟨cs, h, rfl⟩, fun _ _ => rfl, rfl, rfl, fun _ _ => rfl, rfl, rfl, rfl⟩
    have hs1 : RelS c1 st.n st.f a.tmps := hr.s.mono hext (Nat.le_refl _)
    have hh1 : RelH c1 N st.h := by
      have b := hr.h
      refine ⟨fun id hl => Nat.lt_of_lt_of_le (b.lt id hl) hspec.1, ?_, ?_, ?_, b.own, b.inj, b.low, b.ownK, b.disj, b.lowK⟩
      · intro id cs hb
        obtain ⟨vs, e, h1, h2, h3⟩ := b.box id cs hb
        exact ⟨vs, e, h1, h2, fun j x hj => ⟨(h3 j x hj).1.mono hext hspec.1, (h3 j x hj).2⟩⟩
      · intro id wd xs hb
        exact (b.arr id wd xs hb).frame hext.kept rfl rfl
      · intro id wd xs hb
        exact ⟨(b.fz id wd xs hb).1.frame hext.kept rfl rfl, (b.fz id wd xs hb).2⟩
    have selS0 : ∀ (R : List Rc) (k : Nat), selH (fun _ => false) k R = [] := by
      intro R
      induction R with
      | nil => intro k; rfl
      | cons r R ih => intro k; rw [selH, ih]; rfl
    have lst : (fun i => (Array.replicate all.size false).getD i false) = fun _ => false := by
      funext i
      simp only [Array.getD_eq_getD_getElem?, Array.getElem?_replicate]
      split <;> rfl
    have inv0 : DInv h all st.f st.n st.h R N nt c (fun i => (Array.replicate all.size false).getD i false) c1 a := by
      rw [lst]
      refine ⟨fun _ _ _ h => by simp at h, hs1.glob, hr.g, hr.size, hr.defers, hext, fun t ht => hs1.get t, fun _ _ _ h => by simp at h, ?_⟩
      rw [selS0]
      exact hh1
    refine draw_any hok hR hall (c0 := c) (fun a' c' S inv hS => ?_) all.size _ a c1 (by simp) ?_ inv0
    · have hall' : ∀ i r, R[i]? = some r → S i = true := fun i r hi => hS i (by rw [← hR.len]; exact (List.getElem?_eq_some_iff.1 hi).1)
      have e1 : ∀ id, lk (selH (fun _ => true) 0 R ++ st.h) id = lk (selH S 0 R ++ st.h) id := fun id =>
        selH_congr (fun j r hj hne => absurd (by rw [Nat.zero_add]; exact (hall' j r hj).symm) hne) rfl
      refine hQ a' c' inv.ext hspec.1 ⟨inv.g, ⟨inv.glob, fun t => ?_⟩, ?_, inv.size, inv.defers⟩
      · show RelV c' N (get (selS (fun _ => true) 0 R ++ (junked all.toList ++ st.f)) t) _
        rw [get_append]
        by_cases hk : t ∈ (selS (fun _ => true) 0 R).map Prod.fst
        · rw [if_pos hk]
          obtain ⟨j, q, h1, h2, h3⟩ := selS_keys.1 hk
          rw [selS_last h1 rfl h3 (fun j' q' hj' hq' _ ht' => ((hR.facts hq').2.2.2.1 j q hj' h1).2 t h3 ht')]
          obtain ⟨x, hx, rfl⟩ := List.mem_map.1 h3
          have hxs : get q.s x.1 = x.2 := by
            obtain ⟨o', ho', hrc', _⟩ := hR.of h1
            obtain ⟨st'', _, hq''⟩ := hrc'.st
            rw [hq''] at hx ⊢
            simp only [rcOf, putOf] at hx ⊢
            cases hd : o'.dst with
            | none => rw [hd] at hx; simp at hx
            | some d =>
              rw [hd] at hx
              simp only [List.mem_singleton] at hx
              subst hx
              simp [get]
          rw [hxs]
          exact inv.rec_ j q h1 (hall' j q h1) x hx
        · rw [if_neg hk]
          rcases get_junked all.toList st.f t with h1 | ⟨h1, h2⟩
          · rw [h1]; exact .junk _
          · rw [h1]
            exact (inv.base t h2).mono (.refl _ _) hspec.1
      · have b := inv.heap
        exact ⟨fun id hl => b.lt id (by rw [← e1]; exact hl), fun id cs hb => b.box id cs (by rw [← e1]; exact hb), fun id w xs hb => b.arr id w xs (by rw [← e1]; exact hb),
          fun id w xs hb => b.fz id w xs (by rw [← e1]; exact hb), fun id ho => b.own id (by rw [← e1]; exact ho), fun id id' ho ho' => b.inj id id' (by rw [← e1]; exact ho) (by rw [← e1]; exact ho'), b.low,
          fun id ho => b.ownK id (by rw [← e1]; exact ho), b.disj, b.lowK⟩
    · unfold openN
      have := List.length_filter_le (fun i => !(Array.replicate all.size false).getD i true) (List.range all.size)
      simpa using this
  · cases he
end Go.Fw
