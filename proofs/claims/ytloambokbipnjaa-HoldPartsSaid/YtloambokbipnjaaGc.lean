/- What the tree of the plain evaluator says is so: appending, making, turning, calling; each operation. By this session. -/
import Derived.Test.YtloambokbipnjaaGb
set_option linter.unusedVariables false
set_option linter.unusedSimpArgs false
namespace Go.Fw
variable {P : Program} {α : Type} {r : α}

theorem elsK_sound {e u : TypeId} {hp : Heap} {x : V} {K : Nat → List D → Option α} (h : elsK P e u hp x K = some r) : ∃ w xs, elsV P e u hp x = some (w, xs) ∧ K w xs = some r := by
  unfold elsK at h
  split at h
  · obtain ⟨h1, h⟩ := cond_some h
    exact ⟨_, _, by simp only [elsV, h1, cond_true], h⟩
  · obtain ⟨h1, h⟩ := cond_some h
    exact ⟨_, _, by simp only [elsV, h1, cond_true, sliceOf], h⟩
  · obtain ⟨h1, h⟩ := cond_some h
    exact ⟨_, _, by simp only [elsV, h1, cond_true, sliceOf], h⟩
  · obtain ⟨h1, h⟩ := cond_some h
    exact ⟨_, _, by simp only [elsV, h1, cond_true, sliceOf], h⟩
  · obtain ⟨h1, h⟩ := cond_some h
    split at h
    · rename_i w' xs hb
      obtain ⟨h2, h⟩ := cond_some h
      exact ⟨_, _, by simp only [elsV, h1, cond_true, sliceOf, hb, h2], h⟩
    · rename_i w' xs hb
      obtain ⟨h2, h⟩ := cond_some h
      exact ⟨_, _, by simp only [elsV, h1, cond_true, sliceOf, hb, h2], h⟩
    · cases h
  · cases h
theorem appendK_sound {t u : TypeId} {s x : V} {n : Nat} {hp : Heap} {K : V → Nat → Heap → Option α} (h : appendK P t u s x n hp K = some r) : ∃ v n' hp', appendV P t u s x n hp = some (v, n', hp') ∧ K v n' hp' = some r := by
  unfold appendK at h
  split at h
  · rename_i e he
    split at h
    · rename_i z hz
      obtain ⟨h1, h⟩ := cond_some h
      obtain ⟨w, ys, h2, h⟩ := elsK_sound h
      unfold appendV
      simp only [he, hz, h1, cond_true, h2]
      cases ys with
      | nil =>
        simp only [List.isEmpty_nil, cond_true] at h
        split at h
        · exact ⟨_, _, _, rfl, h⟩
        · exact ⟨_, _, _, rfl, h⟩
        · exact ⟨_, _, _, rfl, h⟩
        · exact ⟨_, _, _, rfl, h⟩
        · cases h
      | cons y ys =>
        simp only [List.isEmpty_cons, cond_false] at h
        obtain ⟨h3, h⟩ := cond_some h
        simp only [h3, cond_true]
        split at h
        · obtain ⟨h4, h⟩ := cond_some h
          exact ⟨_, _, _, by simp only [h4, cond_true], h⟩
        · obtain ⟨h4, h⟩ := cond_some h
          exact ⟨_, _, _, by simp only [h4, cond_true], h⟩
        · split at h
          · rename_i w'' xs hb
            obtain ⟨h4, h⟩ := cond_some h
            exact ⟨_, _, _, by simp only [hb, h4, cond_true], h⟩
          · cases h
        · cases h
    · cases h
  · cases h
theorem makeSliceK_sound {t : TypeId} {l c : V} {n : Nat} {hp : Heap} {K : V → Nat → Heap → Option α} (h : makeSliceK P t l c n hp K = some r) : ∃ v n' hp', makeSliceV P t l c n hp = some (v, n', hp') ∧ K v n' hp' = some r := by
  unfold makeSliceK at h
  split at h
  · rename_i e he
    split at h
    · rename_i hz
      obtain ⟨h1, h⟩ := cond_some h
      exact ⟨_, _, _, by simp only [makeSliceV, he, hz, h1, cond_true], h⟩
    · cases h
  · cases h
theorem strOf_of : ∀ {xs : List D}, isBytes xs = true → strOf xs = some (bytesOf xs)
  | [], _ => rfl
  | d :: xs, h => by
    cases d with
    | i k n =>
      cases k <;> first | (simp [isBytes] at h; done) | skip
      simp only [isBytes] at h
      simp only [strOf, strOf_of h, bytesOf, iOf, Option.map_some]
    | _ => simp [isBytes] at h
def convOut (P : Program) (src dst : TypeId) (x : V) (n : Nat) (hp : Heap) : Out := match x with
    | .d (.s s) => bif strT P dst then pure1 n hp (convV P src dst (.d (.s s))) else
        (match elemT P dst with
         | some e => bif strT P src && decide (intT P e = some .u8) && sz P e == 1 && Nat.ble s.size 140737488355328 then some (.ms n 1 0 s.size, n + 1, (n, .arr 1 (bytesD s)) :: hp) else none
         | none => none)
    | .d (.i k a) => pure1 n hp (convV P src dst (.d (.i k a)))
    | x => match elemT P src with
      | some e => bif strT P dst && decide (intT P e = some .u8) then (match sliceOf hp x with
        | some (w, xs) => bif w == 1 || xs.isEmpty then pure1 n hp ((strOf xs).map fun l => .d (.s ⟨l.toArray⟩)) else none
        | none => none) else none
      | none => none
theorem pure1_of {v : Option V} {x : V} {n : Nat} {hp : Heap} (h : v = some x) : pure1 n hp v = some (x, n, hp) := by subst h; rfl
theorem convK_sound {src dst : TypeId} {x : V} {n : Nat} {hp : Heap} {K : V → Nat → Heap → Option α} (h : convK P src dst x n hp K = some r) : ∃ v n' hp', convOut P src dst x n hp = some (v, n', hp') ∧ K v n' hp' = some r := by
  unfold convK at h
  split at h
  · rename_i s
    cases hs : strT P dst <;> rw [hs] at h
    · simp only [cond_false] at h
      split at h
      · rename_i e he
        obtain ⟨h1, h⟩ := cond_some h
        exact ⟨_, _, _, by simp only [convOut, hs, cond_false, he, h1, cond_true], h⟩
      · cases h
    · simp only [cond_true] at h
      obtain ⟨v, h1, h⟩ := someK_sound h
      exact ⟨_, _, _, by simp only [convOut, hs, cond_true, pure1_of h1], h⟩
  · obtain ⟨v, h1, h⟩ := someK_sound h
    exact ⟨_, _, _, by simp only [convOut, pure1_of h1], h⟩
  · rename_i hx1 hx2
    split at h
    · rename_i e he
      obtain ⟨h1, h⟩ := cond_some h
      obtain ⟨w, xs, h2, h⟩ := elsK_sound h
      obtain ⟨h3, h⟩ := cond_some h
      rw [Bool.and_eq_true] at h3
      refine ⟨_, _, _, ?_, h⟩
      have hsl : sliceOf hp x = some (w, xs) := by
        unfold elsV at h2
        split at h2
        · exact (hx1 _ rfl).elim
        · exact (cond_some h2).2
      unfold convOut
      split
      · exact (hx1 _ rfl).elim
      · exact (hx2 _ _ rfl).elim
      · simp only [he, h1, cond_true, hsl, h3.1, strOf_of h3.2, Option.map_some, pure1]
    · cases h

mutual
theorem frzB_of : ∀ (v : V) {hp hp' : Heap} {d : D}, frz hp v = some (d, hp') → ∀ hp0 : Heap, (∀ id, (∃ w xs, lk hp id = .arr w xs ∨ lk hp id = .fz w xs) → ∃ w xs, lk hp0 id = .arr w xs ∨ lk hp0 id = .fz w xs) → frzB hp0 v = true ∧ (∀ id, (∃ w xs, lk hp' id = .arr w xs ∨ lk hp' id = .fz w xs) → ∃ w xs, lk hp0 id = .arr w xs ∨ lk hp0 id = .fz w xs)
  | .d x, hp, hp', d, h, hp0, h0 => by
    simp only [frz, Option.some.injEq, Prod.mk.injEq] at h
    exact ⟨rfl, by rw [← h.2]; exact h0⟩
  | .ag cs, hp, hp', d, h, hp0, h0 => by
    simp only [frz] at h
    split at h
    · rename_i h1
      injection h with h; injection h with _ h; subst h
      exact frzsB_of cs h1 hp0 h0
    · cases h
  | .fn g cs, hp, hp', d, h, hp0, h0 => by
    simp only [frz] at h
    split at h
    · rename_i h1
      injection h with h; injection h with _ h; subst h
      exact frzsB_of cs h1 hp0 h0
    · cases h
  | .ms id w off len, hp, hp', d, h, hp0, h0 => by
    simp only [frz] at h
    split at h
    · rename_i w' xs hb
      obtain ⟨h1, h⟩ := cond_some h
      injection h with h; injection h with _ h; subst h
      obtain ⟨w0, xs0, h2⟩ := h0 id ⟨w', xs, .inl hb⟩
      refine ⟨by rcases h2 with h2 | h2 <;> simp [frzB, h2], fun id' hid => ?_⟩
      rw [lk_cons] at hid
      by_cases hii : id = id'
      · subst hii; exact ⟨w0, xs0, h2⟩
      · rw [if_neg hii] at hid; exact h0 id' hid
    · rename_i w' xs hb
      obtain ⟨h1, h⟩ := cond_some h
      injection h with h; injection h with _ h; subst h
      obtain ⟨w0, xs0, h2⟩ := h0 id ⟨w', xs, .inr hb⟩
      exact ⟨by rcases h2 with h2 | h2 <;> simp [frzB, h2], h0⟩
    · cases h
  | .fl w xs, hp, hp', d, h, hp0, h0 => by
    simp only [frz, Option.some.injEq, Prod.mk.injEq] at h
    exact ⟨rfl, by rw [← h.2]; exact h0⟩
  | .tp _, hp, hp', d, h, _, _ => by simp [frz] at h
  | .pt _ _, hp, hp', d, h, _, _ => by simp [frz] at h
  | .ep _ _ _ _, hp, hp', d, h, _, _ => by simp [frz] at h
  | .rp _ _, hp, hp', d, h, _, _ => by simp [frz] at h
  | .junk, hp, hp', d, h, _, _ => by simp [frz] at h
theorem frzsB_of : ∀ (vs : List V) {hp hp' : Heap} {ds : List D}, frzs hp vs = some (ds, hp') → ∀ hp0 : Heap, (∀ id, (∃ w xs, lk hp id = .arr w xs ∨ lk hp id = .fz w xs) → ∃ w xs, lk hp0 id = .arr w xs ∨ lk hp0 id = .fz w xs) → frzB.frzsB hp0 vs = true ∧ (∀ id, (∃ w xs, lk hp' id = .arr w xs ∨ lk hp' id = .fz w xs) → ∃ w xs, lk hp0 id = .arr w xs ∨ lk hp0 id = .fz w xs)
  | [], hp, hp', d, h, hp0, h0 => by
    simp only [frzs, Option.some.injEq, Prod.mk.injEq] at h
    exact ⟨rfl, by rw [← h.2]; exact h0⟩
  | v :: vs, hp, hp', ds, h, hp0, h0 => by
    simp only [frzs] at h
    split at h
    · rename_i h1
      split at h
      · rename_i h2
        injection h with h; injection h with _ h; subst h
        obtain ⟨i1, i2⟩ := frzB_of v h1 hp0 h0
        obtain ⟨i3, i4⟩ := frzsB_of vs h2 hp0 i2
        exact ⟨by simp only [frzB.frzsB, i1, i3, Bool.and_self], i4⟩
      · cases h
    · cases h
end
theorem frzs_none {hp : Heap} {vs : List V} (h : frzB.frzsB hp vs = false) : frzs hp vs = none := by
  cases hf : frzs hp vs with
  | none => rfl
  | some q =>
    obtain ⟨ds, hp'⟩ := q
    have := (frzsB_of vs hf hp fun _ h => h).1
    rw [h] at this; cases this

theorem callK_sound {H : HK} {g : FuncId} {args : List V} {n : Nat} {hp : Heap} {K : V → Nat → Heap → Option α} (h : callK H g args n hp K = some r) :
    (∃ v n' hp', callV H.hs g args n hp = some (v, n', hp') ∧ K v n' hp' = some r) ∨ (frzs hp args = none ∧ H.ext g = none ∧ H.call g args n hp K = some r) := by
  unfold callK at h
  cases hb : frzB.frzsB hp args <;> rw [hb] at h
  · simp only [cond_false] at h
    refine .inr ⟨frzs_none hb, ?_⟩
    split at h
    · cases h
    · rename_i he; exact ⟨he, h⟩
  · simp only [cond_true] at h
    refine .inl ?_
    obtain ⟨ds, hp', h1, h⟩ := frzsK_sound h
    unfold callV
    simp only [h1]
    split at h
    · rename_i f hf
      split at h
      · rename_i b q hq
        obtain ⟨h2, h⟩ := cond_some h
        have : H.hs.ext g = some (bare f) := by simp only [HK.hs, hf, Option.map_some]
        exact ⟨_, _, _, by simp only [this, bare, hq, h2, cond_true], h⟩
      · cases h
    · rename_i hf
      split at h
      · rename_i b q hq
        obtain ⟨h2, h⟩ := cond_some h
        subst h2
        have h3 : H.hs.ext g = none := by simp only [HK.hs, hf, Option.map_none]
        have h4 : H.hs.pcall g ds = some q := by simp only [HK.hs, hq, cond_true]
        exact ⟨_, _, _, by simp only [h3, h4], h⟩
      · cases h

structure HKOK (P : Program) (H : HK) : Prop where
  ext : ∀ g f, H.ext g = some f → ExtOK P g (bare f)
  pc : ∀ g ds q, H.pc g ds = some (true, q) → Enters P g ∧ PCall P H.G g ds q
  call : ∀ g xs n hp (α : Type) (K : V → Nat → Heap → Option α) r, H.call g xs n hp K = some r → ∃ v n' hp', Enters P g ∧ MCall P H.G g xs n hp (v, n', hp') ∧ K v n' hp' = some r

theorem HKOK.hs {H : HK} (h : HKOK P H) : CallsOK P H.hs where
  ext := fun g f hf => by
    simp only [HK.hs] at hf
    obtain ⟨f', h1, rfl⟩ := Option.map_eq_some_iff.1 hf
    exact h.ext g f' h1
  pcall := fun g ds q hq => by
    simp only [HK.hs] at hq
    split at hq
    · rename_i b q' hb
      obtain ⟨h1, h2⟩ := cond_some hq
      subst h1
      injection h2 with h2
      subst h2
      exact h.pc g ds q' hb
    · cases hq
  call := fun g xs n hp q hq => by cases hq
open Classical in
/-- one call in common memory, told -/
noncomputable def oneCall (h : Hs) (g : FuncId) (xs : List V) (n : Nat) (hp : Heap) (q : V × Nat × Heap) : Hs :=
  { h with call := fun g' xs' n' hp' => if g' = g ∧ xs' = xs ∧ n' = n ∧ hp' = hp then some q else none }

/-- an operation, by itself or by a call in common memory -/
def OpOK (P : Program) (H : HK) (o : Oper) (f : Slots) (n : Nat) (hp : Heap) (q : V × Nat × Heap) : Prop := ∃ h', CallsOK P h' ∧ h'.G = H.G ∧ evOp P h' o f n hp = some q

theorem opK_plain {H : HK} {o : Oper} {f : Slots} {n : Nat} {hp : Heap} {K : V → Nat → Heap → Option α} (h : opK P H o f n hp K = some r) :
    (∃ v n' hp', evOp P H.hs o f n hp = some (v, n', hp') ∧ K v n' hp' = some r) ∨
    (∃ c gop g xs, o.op = .call c ∧ c.callee = .value gop ∧ ((∃ cs, opV H.G f gop = .d (.fn g cs) ∧ xs = c.args.toList.map (opV H.G f) ++ cs.map .d) ∨ ∃ cs, opV H.G f gop = .fn g cs ∧ xs = c.args.toList.map (opV H.G f) ++ cs) ∧
      frzs hp xs = none ∧ H.ext g = none ∧ H.call g xs n hp K = some r) := by
  have hG : H.hs.G = H.G := rfl
  unfold opK at h
  split at h
  · rename_i c a b ho
    left
    split at h
    · rename_i t ht
      cases t
      · exact ⟨_, _, _, by simp only [evOp, ho, hG, ht, cond_false], h⟩
      · exact ⟨_, _, _, by simp only [evOp, ho, hG, ht, cond_true], h⟩
    · cases h
  · rename_i op t x y _ ho
    left
    cases hn : (nilConst x || nilConst y) <;> rw [hn] at h
    · simp only [cond_false] at h
      split at h
      · cases h
      · rename_i hne
        obtain ⟨v, h1, h⟩ := binK_sound h
        refine ⟨_, _, _, ?_, h⟩
        simp only [evOp, ho, hG, hn, cond_false]
        exact pure1_of h1
    · simp only [cond_true] at h
      obtain ⟨v, h1, h⟩ := binK_sound h
      exact ⟨_, _, _, by simp only [evOp, ho, hG, hn, cond_true, pure1_of h1], h⟩
  · rename_i src dst x ho
    left
    obtain ⟨v, n', hp', h1, h⟩ := convK_sound h
    refine ⟨v, n', hp', ?_, h⟩
    unfold evOp
    simp only [ho, hG]
    exact h1
  · rename_i ho
    left
    obtain ⟨v, h1, h⟩ := indexK_sound h
    exact ⟨_, _, _, by simp only [evOp, ho, hG, pure1_of h1], h⟩
  · rename_i ho
    left
    obtain ⟨v, h1, h⟩ := indexAddrK_sound h
    exact ⟨_, _, _, by simp only [evOp, ho, hG, pure1_of h1], h⟩
  · rename_i ho
    left
    obtain ⟨v, h1, h⟩ := loadK_sound h
    exact ⟨_, _, _, by simp only [evOp, ho, hG, pure1_of h1], h⟩
  · rename_i ho
    left
    obtain ⟨v, h1, h⟩ := storeK_sound h
    exact ⟨_, _, _, by simp only [evOp, ho, hG, h1], h⟩
  · rename_i ho
    left
    obtain ⟨v, h1, h⟩ := sliceK_sound h
    exact ⟨_, _, _, by simp only [evOp, ho, hG, pure1_of h1], h⟩
  · rename_i ho
    left
    obtain ⟨v, n', hp', h1, h⟩ := makeSliceK_sound h
    exact ⟨v, n', hp', by simp only [evOp, ho, hG, h1], h⟩
  · rename_i c ho
    split at h
    · rename_i hc
      left
      split at h
      · rename_i x t hx ht
        obtain ⟨v, h1, h⟩ := someK_sound h
        exact ⟨_, _, _, by simp only [evOp, ho, hG, hc, hx, ht, pure1_of h1], h⟩
      · cases h
    · rename_i hc
      left
      split at h
      · rename_i s x t u hx ht
        obtain ⟨v, n', hp', h1, h⟩ := appendK_sound h
        exact ⟨v, n', hp', by simp only [evOp, ho, hG, hc, hx, ht, h1], h⟩
      · cases h
    · rename_i gop hc
      split at h
      · rename_i g cs hg
        rcases callK_sound h with ⟨v, n', hp', h1, h⟩ | ⟨h1, h2, h3⟩
        · left
          exact ⟨v, n', hp', by simp only [evOp, ho, hG, hc, calleeV, hg, h1], h⟩
        · right
          exact ⟨c, gop, g, _, ho, hc, .inl ⟨cs, hg, rfl⟩, h1, h2, h3⟩
      · rename_i g cs hg
        rcases callK_sound h with ⟨v, n', hp', h1, h⟩ | ⟨h1, h2, h3⟩
        · left
          exact ⟨v, n', hp', by simp only [evOp, ho, hG, hc, calleeV, hg, h1], h⟩
        · right
          exact ⟨c, gop, g, _, ho, hc, .inr ⟨cs, hg, rfl⟩, h1, h2, h3⟩
      · cases h
    · cases h
  · left
    split at h
    · rename_i v n' hp' h1
      exact ⟨_, _, _, h1, h⟩
    · cases h

theorem opK_sound {H : HK} (hok : HKOK P H) {o : Oper} {f : Slots} {n : Nat} {hp : Heap} {K : V → Nat → Heap → Option α} (h : opK P H o f n hp K = some r) :
    ∃ v n' hp', OpOK P H o f n hp (v, n', hp') ∧ K v n' hp' = some r := by
  rcases opK_plain h with ⟨v, n', hp', h1, h2⟩ | ⟨c, gop, g, xs, ho, hc, hx, hf, he, hcall⟩
  · exact ⟨v, n', hp', ⟨H.hs, hok.hs, rfl, h1⟩, h2⟩
  · obtain ⟨v, n', hp', hent, hm, hk⟩ := hok.call g xs n hp α K r hcall
    refine ⟨v, n', hp', ⟨oneCall H.hs g xs n hp (v, n', hp'), ⟨hok.hs.ext, hok.hs.pcall, ?_⟩, rfl, ?_⟩, hk⟩
    · intro g1 xs1 n1 hp1 q hq
      simp only [oneCall] at hq
      split at hq
      · rename_i heq
        obtain ⟨rfl, rfl, rfl, rfl⟩ := heq
        injection hq with hq
        subst hq
        exact ⟨hent, hm⟩
      · cases hq
    · have hcv : callV (oneCall H.hs g xs n hp (v, n', hp')) g xs n hp = some (v, n', hp') := by
        unfold callV
        have he' : (oneCall H.hs g xs n hp (v, n', hp')).ext g = none := by simp only [oneCall, HK.hs, he, Option.map_none]
        simp only [hf, he']
        simp [oneCall]
      have hG : (oneCall H.hs g xs n hp (v, n', hp')).G = H.G := rfl
      rcases hx with ⟨cs, hg, rfl⟩ | ⟨cs, hg, rfl⟩
      · simp only [evOp, ho, hc, calleeV, hG, hg]; exact hcv
      · simp only [evOp, ho, hc, calleeV, hG, hg]; exact hcv
end Go.Fw
