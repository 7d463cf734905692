/- Keeping of a state what is looked at later. By this session. -/
import Derived.Test.YtloambokbipnjaaGf
set_option linter.unusedVariables false
set_option linter.unusedSimpArgs false
namespace Go.Fw
variable {P : Program} {α : Type} {r : α}

/-- the place of a number in a list -/
def posIn : List Nat → Nat → Nat → Nat
  | [], _, id => id
  | a :: l, k, id => bif a == id then k else posIn l (k + 1) id
def numB (l : List Nat) (hp : Heap) : Nat → List Nat → Heap
  | _, [] => []
  | k, a :: rest => (k, renB (posIn l 0) (lk hp a)) :: numB l hp (k + 1) rest
def keepR (ks l : List Nat) (st : St) : St := ⟨ks.map fun k => (k, renV (posIn l 0) (get st.f k)), l.length, numB l st.h 0 l⟩
def okKeep (n0 : Nat) (ks l : List Nat) (st : St) : Bool :=
  (ks.all fun k => inB (hasN l) (get st.f k)) && (l.all fun a => inBk (hasN l) (lk st.h a)) && okSig n0 l.length l
def keepK (n0 : Nat) (ks l : List Nat) (st : St) (K : St → Option α) : Option α := bif okKeep n0 ks l st then K (keepR ks l st) else none

theorem posIn_spec : ∀ {l : List Nat} {k id : Nat}, hasN l id = true → k ≤ posIn l k id ∧ posIn l k id < k + l.length ∧ l[posIn l k id - k]? = some id
  | [], k, id, h => by cases h
  | a :: l, k, id, h => by
    simp only [hasN, Bool.or_eq_true] at h
    simp only [posIn]
    cases ha : (a == id)
    · rw [ha] at h
      obtain ⟨h1, h2, h3⟩ := posIn_spec (k := k + 1) (h.resolve_left (by simp))
      simp only [cond_false, List.length_cons]
      refine ⟨by omega, by omega, ?_⟩
      rw [show posIn l (k + 1) id - k = posIn l (k + 1) id - (k + 1) + 1 by omega, List.getElem?_cons_succ]
      exact h3
    · have : a = id := by simpa using ha
      subst this
      simp
theorem sig_pos {l : List Nat} {id : Nat} (h : hasN l id = true) : sig l (posIn l 0 id) = id := by
  obtain ⟨_, h2, h3⟩ := posIn_spec (k := 0) h
  simp only [Nat.sub_zero] at h3
  simp [sig, h3]
mutual
theorem ren_ren {l : List Nat} : ∀ (x : V), inB (hasN l) x = true → renV (sig l) (renV (posIn l 0) x) = x
  | .d _, _ => rfl
  | .ag cs, h => by simp only [renV]; rw [rens_rens cs h]
  | .tp cs, h => by simp only [renV]; rw [rens_rens cs h]
  | .fn _ cs, h => by simp only [renV]; rw [rens_rens cs h]
  | .pt id o, h => by simp only [renV]; rw [sig_pos h]
  | .ms id w o n, h => by simp only [renV]; rw [sig_pos h]
  | .ep id w k c, h => by simp only [renV]; rw [sig_pos h]
  | .rp _ _, _ => rfl
  | .fl _ _, _ => rfl
  | .junk, _ => rfl
theorem rens_rens {l : List Nat} : ∀ (cs : List V), inBs (hasN l) cs = true → renVs (sig l) (renVs (posIn l 0) cs) = cs
  | [], _ => rfl
  | x :: cs, h => by
    simp only [inBs, Bool.and_eq_true] at h
    simp only [renVs]
    rw [ren_ren x h.1, rens_rens cs h.2]
end
mutual
theorem inB_ren {l : List Nat} : ∀ (x : V), inB (hasN l) x = true → inB (fun id => Nat.blt id l.length) (renV (posIn l 0) x) = true
  | .d _, _ => rfl
  | .ag cs, h => inBs_ren cs h
  | .tp cs, h => inBs_ren cs h
  | .fn _ cs, h => inBs_ren cs h
  | .pt id o, h => pos h
  | .ms id w o n, h => pos h
  | .ep id w k c, h => pos h
  | .rp _ _, _ => rfl
  | .fl _ _, _ => rfl
  | .junk, _ => rfl
theorem inBs_ren {l : List Nat} : ∀ (cs : List V), inBs (hasN l) cs = true → inBs (fun id => Nat.blt id l.length) (renVs (posIn l 0) cs) = true
  | [], _ => rfl
  | x :: cs, h => by
    simp only [inBs, Bool.and_eq_true] at h
    simp only [renVs, inBs, Bool.and_eq_true]
    exact ⟨inB_ren x h.1, inBs_ren cs h.2⟩
theorem pos {l : List Nat} {id : Nat} (h : hasN l id = true) : Nat.blt (posIn l 0 id) l.length = true := by
  have := (posIn_spec (k := 0) h).2.1
  rw [Nat.blt_eq]; omega
end
theorem keep_slots {f : Slots} {l : List Nat} : ∀ (ks : List Nat), (ks.all fun k => inB (hasN l) (get f k)) = true → slotsW f (sig l) (ks.map fun k => (k, renV (posIn l 0) (get f k)))
  | [], _ => trivial
  | k :: ks, h => by
    simp only [List.all_cons, Bool.and_eq_true] at h
    exact ⟨(ren_ren _ h.1).symm, keep_slots ks h.2⟩
theorem keep_heap {h : Heap} {l : List Nat} : ∀ (rest : List Nat) (k : Nat), (∀ i a, rest[i]? = some a → sig l (k + i) = a) → (rest.all fun a => inBk (hasN l) (lk h a)) = true → heapW h (sig l) (numB l h k rest)
  | [], _, _, _ => trivial
  | a :: rest, k, hs, hb => by
    simp only [List.all_cons, Bool.and_eq_true] at hb
    refine ⟨fun _ => ?_, keep_heap rest (k + 1) (fun i a hi => ?_) hb.2⟩
    · have h1 := hs 0 a rfl
      rw [Nat.add_zero] at h1
      rw [h1]
      have h2 := hb.1
      cases hl : lk h a with
      | box cs =>
        rw [hl] at h2
        simp only [renB]
        rw [rens_rens cs h2]
      | _ => rfl
    · have := hs (i + 1) a (by simpa using hi)
      rw [← this]; congr 1; omega
theorem numB_all {hp : Heap} {l : List Nat} : ∀ (rest : List Nat) (k : Nat), k + rest.length ≤ l.length → (rest.all fun a => inBk (hasN l) (lk hp a)) = true →
    ((numB l hp k rest).all fun x => Nat.blt x.1 l.length && inBk (fun id => Nat.blt id l.length) x.2) = true
  | [], _, _, _ => rfl
  | a :: rest, k, hk, hb => by
    simp only [List.all_cons, Bool.and_eq_true] at hb
    simp only [List.length_cons] at hk
    simp only [numB, List.all_cons, Bool.and_eq_true]
    refine ⟨⟨by rw [Nat.blt_eq]; omega, ?_⟩, numB_all rest (k + 1) (by omega) hb.2⟩
    have h2 := hb.1
    cases hl : lk hp a with
    | box cs =>
      rw [hl] at h2
      exact inBs_ren cs h2
    | _ => rfl
theorem keep_weak {n0 : Nat} {ks l : List Nat} {st : St} (h : okKeep n0 ks l st = true) : Weak n0 l st (keepR ks l st) := by
  simp only [okKeep, Bool.and_eq_true] at h
  obtain ⟨⟨h1, h2⟩, h3⟩ := h
  refine ⟨keep_slots ks h1, keep_heap l 0 (fun i a hi => by simp [sig, hi]) h2, ?_, h3⟩
  simp only [okW, keepR, Bool.and_eq_true]
  refine ⟨?_, numB_all l 0 (by omega) h2⟩
  rw [List.all_map]
  rw [List.all_eq_true] at h1 ⊢
  intro k hk
  exact inB_ren _ (h1 k hk)

/-- what is kept, by how the code ends -/
abbrev Keep := X → List Nat × List Nat
def endK (n0 : Nat) (kp : Keep) (x : X) (st : St) : Option (X × St) := keepK n0 (kp x).1 (kp x).2 st fun s => some (x, s)
theorem evK_end {H : HK} (hok : HKOK P H) {L : Loops} {nt n0 : Nat} {c : Code} {k : Nat} {st : St} {q : X × St} {kp : Keep} (hk : okCode nt c = true) (hL : LoopsSem P H.G nt n0 L c k) (h : evK P H L c k st (endK n0 kp) = some q) : CodeN P H.G nt n0 c st q := by
  obtain ⟨x, st', h1, h2⟩ := evK_sound (n0 := n0) hok c k st _ hk hL h
  unfold endK keepK at h2
  obtain ⟨h3, h4⟩ := cond_some h2
  injection h4 with h4
  subst h4
  exact h1.weak_out (keep_weak h3)
/-- one turn -/
theorem turnK {H : HK} (hok : HKOK P H) {g : FuncId} {k : Nat} {n0 : Nat} {L : Loops} (kp : Keep) (hL : LoopsSem P H.G (ntOf P g) n0 L (bodyOf P g k) 0) (hc : okCode (ntOf P g) (bodyOf P g k) = true) {st : St} {q : X × St} (h : evK P H L (bodyOf P g k) 0 st (endK n0 kp) = some q) : CodeN P H.G (ntOf P g) n0 (bodyOf P g k) st q :=
  evK_end hok hc hL h
/-- one turn of a loop that has none in it -/
theorem turn0 {H : HK} (hok : HKOK P H) {g : FuncId} {k n0 : Nat} (kp : Keep) (hf : loops (bodyOf P g k) = 0) (hc : okCode (ntOf P g) (bodyOf P g k) = true) {st : St} {q : X × St} (h : evK P H (noLoops 0) (bodyOf P g k) 0 st (endK n0 kp) = some q) : CodeN P H.G (ntOf P g) n0 (bodyOf P g k) st q :=
  evK_end hok hc (noLoopsIn hf) h
theorem loopIs_keep {G : Nat → Option (List D)} {n0 : Nat} {g : FuncId} {k : Nat} {s : St → {α : Type} → (X → St → Option α) → Option α} (h : LoopIs P G n0 g k s) (ks l : List Nat) : LoopIs P G n0 g k (fun st _ K => keepK n0 ks l st fun st0 => s st0 K) := by
  intro st α K r hk
  unfold keepK at hk
  obtain ⟨h1, h2⟩ := cond_some hk
  obtain ⟨x, st', h3, h4⟩ := h _ α K r h2
  exact ⟨x, st', h3.weak (keep_weak h1), h4⟩
theorem nl_ok {G : Nat → Option (List D)} {g : FuncId} {n0 : Nat} : LoopsOf P G n0 (noLoops 0) g := fun d hd k b hb st α K r h => by cases h
/-- a row of a function without loops -/
theorem row_nl {H : HK} (hok : HKOK P H) (g : FuncId) {ds : List D} {q : D} (h : pcallK P H (noLoops 0) g ds some = some q) : Enters P g ∧ PCall P H.G g ds q := row_of hok nl_ok h
end Go.Fw
