/- Part 5 of the proof: what the operations of the model do to values as Lean sees them, and plain laws. -/
import Derived.Test.YtikkobmghmphaaaDoorP04
namespace Go.Av
open Go

section
variable {P : Program} {n n0 : Nat} {env : Env} {hp : Hp} {nx : Nat} {K : Kont} {s : List Fr}
variable {l : List Oper} {E : Nat → Env} {hp0 : Hp} {R : List Rec} {sel sel' : Nat → Bool} {i : Nat} {o : Oper} {r : Rec}

theorem keepB_get {i t : Nat} : ∀ {l : List Oper} {ms : List Nat}, keepB i t l ms = true → ∀ (j : Nat) o, l[j]? = some o → o.dst = some t → Nat.testBit (((masks l ms)[ms.length + j]?).getD 0) i = true
  | [], ms, _, j, o, h, _ => by simp at h
  | o' :: l, ms, hk, j, o, h, hd => by
    simp only [keepB, forceN_eq, Bool.and_eq_true] at hk
    cases j with
    | zero =>
      simp at h; subst h
      have h1 := hk.1
      rw [hd] at h1
      simp only [Nat.beq_refl] at h1
      rw [Nat.add_zero, masks, masks_pre l _ _ (by simp)]
      simpa using h1
    | succ j =>
      simp at h
      have := keepB_get hk.2 j o h hd
      simp only [List.length_append, List.length_cons, List.length_nil] at this
      rw [masks, show ms.length + (j + 1) = ms.length + (0 + 1) + j from by omega]
      exact this
theorem keepB_of {i t : Nat} : ∀ {l : List Oper} {ms : List Nat}, (∀ (j : Nat) o, l[j]? = some o → o.dst = some t → Nat.testBit (((masks l ms)[ms.length + j]?).getD 0) i = true) → keepB i t l ms = true
  | [], ms, _ => rfl
  | o :: l, ms, h => by
    simp only [keepB, forceN_eq, Bool.and_eq_true]
    refine ⟨?_, keepB_of fun j o' hj hd => ?_⟩
    · cases hd : o.dst with
      | none => rfl
      | some d =>
        cases hb : Nat.beq d t with
        | false => simp only [hb]
        | true =>
          have e := Nat.eq_of_beq_eq_true hb
          subst e
          have := h 0 o rfl hd
          rw [Nat.add_zero, masks, masks_pre l _ _ (by simp)] at this
          simp only [hb]
          simpa using this
    · have := h (j + 1) o' (by simpa using hj) hd
      rw [masks] at this
      simp only [List.length_append, List.length_cons, List.length_nil]
      rw [show ms.length + (0 + 1) + j = ms.length + (j + 1) from by omega]
      exact this
theorem get_stripK {l : List Oper} {i : Nat} : ∀ {e : Env} {t av}, get (stripK (dstsOf l) l i e) t = some av → get e t = some av ∧ ∀ (j : Nat) o, l[j]? = some o → o.dst = some t → Nat.testBit (mkOf l j) i = true
  | [], t, av, h => by simp [stripK, get] at h
  | (k, v) :: r, t, av, h => by
    have nd : (dstsOf l).any (Nat.beq k ·) = false → ∀ (j : Nat) o, l[j]? = some o → o.dst = some k → False := fun hb j o hj hd => by
      rw [List.any_eq_false] at hb
      exact hb k (by simp only [dstsOf, List.mem_filterMap]; exact ⟨o, List.mem_of_getElem? hj, hd⟩) (Nat.beq_refl k)
    have kp : keepB i k l [] = true → ∀ (j : Nat) o, l[j]? = some o → o.dst = some k → Nat.testBit (mkOf l j) i = true := fun hk j o hj hd => by
      have := keepB_get hk j o hj hd
      simp only [List.length_nil, Nat.zero_add] at this
      exact this
    have rec1 : ∀ (hk : k ≠ t ∨ True), get (stripK (dstsOf l) l i r) t = some av → (k = t → False) → get ((k, v) :: r) t = some av ∧ ∀ (j : Nat) o, l[j]? = some o → o.dst = some t → Nat.testBit (mkOf l j) i = true := fun _ h hne => by
      obtain ⟨h1, h2⟩ := get_stripK h
      exact ⟨by rw [get_cons, if_neg hne]; exact h1, h2⟩
    simp only [stripK] at h
    split at h
    · rename_i hb
      split at h
      · rename_i hkb
        rw [get_cons] at h
        split at h
        · rename_i e; subst e; cases h
          exact ⟨by rw [get_cons, if_pos rfl], kp hkb⟩
        · rename_i hne; exact rec1 (.inr trivial) h hne
      · rename_i hkb
        by_cases e : k = t
        · subst e
          -- the newest saying is dropped, an older one would be too
          obtain ⟨h1, h2⟩ := get_stripK h
          exfalso
          exact absurd (keepB_of (ms := []) (fun j o hj hd => by rw [List.length_nil, Nat.zero_add]; exact h2 j o hj hd)) (by rw [hkb]; simp)
        · exact rec1 (.inr trivial) h e
    · rename_i hb
      rw [get_cons] at h
      split at h
      · rename_i e; subst e; cases h
        exact ⟨by rw [get_cons, if_pos rfl], fun j o hj hd => (nd hb j o hj hd).elim⟩
      · rename_i hne; exact rec1 (.inr trivial) h hne

theorem put_ne {a : Act} {dst : Option Nat} {v : Value} {t : Nat} (h : dst ≠ some t) : (a.put dst v).tmps[t]? = a.tmps[t]? := by
  cases dst with
  | none => rfl
  | some d => simp only [Act.put]; rw [Array.getElem?_setIfInBounds_ne (fun e => h (by rw [e]))]
theorem put_eq {a : Act} {d : Nat} {v : Value} (h : d < a.tmps.size) : (a.put (some d) v).tmps[d]? = some v := by
  simp only [Act.put]; rw [Array.getElem?_setIfInBounds_self_of_lt h]
theorem put_size {a : Act} {dst : Option Nat} {v : Value} : (a.put dst v).tmps.size = a.tmps.size := by
  cases dst <;> simp [Act.put]
theorem put_defers {a : Act} {dst : Option Nat} {v : Value} : (a.put dst v).defers = a.defers := by
  cases dst <;> simp [Act.put]

structure DInv (C : Ctx) (n n0 : Nat) (l : List Oper) (nx : Nat) (env : Env) (hp0 : Hp) (R : List Rec) (sel : Nat → Bool) (ρ : Rho) (w : World) (a : Act) : Prop where
  rel : SRel C n n0 [] (hpB sel nx 0 R hp0) (nxB sel 0 R (nx + l.length)) ρ w a
  tm : ∀ (j : Nat) r d, R[j]? = some r → sel j = true → r.dst = some d → ∃ v, a.tmps[d]? = some v ∧ VR w (XX C.ex (hpB sel nx 0 R hp0) ρ) ρ r.av v
  al : ∀ (j : Nat) r mk b, R[j]? = some r → r.kd = .al mk b → sel j = false → ρ (nx + j) = none
  en : ∀ t av, get env t = some av → (∀ (j : Nat) o, l[j]? = some o → sel j = true → o.dst ≠ some t) → ∃ v, a.tmps[t]? = some v ∧ VR w (XX C.ex (hpB sel nx 0 R hp0) ρ) ρ av v

variable {C : Ctx} {ρ ρ' : Rho} {w w' : World} {a : Act}

/-- What the operations have said stands in the temporaries, still. -/
theorem DInv.after (hD : DF P n n0 l nx E hp0 R) (hI : DInv C n n0 l nx env hp0 R sel ρ w a) (ho : l[i]? = some o) (hi : R[i]? = some r) (hf : FactK P n n0 l.toArray nx l.length (E i) hp0 (R.take i) (mkOf l i) o r)
    (h2 : sel' i = true) (h3 : ∀ j, j ≠ i → sel' j = sel j) {v : Value} {hp' : Hp} {nx' : Nat}
    (hsr : HRel C n0 hp' nx' ρ' w') (hkeep : ∀ x u, VR w (XX C.ex (hpB sel nx 0 R hp0) ρ) ρ x u → VR w' (XX C.ex hp' ρ') ρ' x u)
    (hv : VR w' (XX C.ex hp' ρ') ρ' r.av v) (e1 : hpB sel' nx 0 R hp0 = hp') (e2 : nxB sel' 0 R (nx + l.length) = nx')
    (hal : ∀ (j : Nat) r mk b, R[j]? = some r → r.kd = .al mk b → sel' j = false → ρ' (nx + j) = none) :
    DInv C n n0 l nx env hp0 R sel' ρ' w' (a.put o.dst v) := by
  subst e1; subst e2
  refine ⟨{ hsr with env := fun t av ht => ?_, size := by rw [put_size]; exact hI.rel.size, defers := by rw [put_defers]; exact hI.rel.defers }, fun j rj d hj hsj hd => ?_, hal, fun t av ht hno => ?_⟩
  · simp [get] at ht
  · by_cases e : j = i
    · subst e
      rw [hi] at hj; cases hj
      have hfd := hf.1
      have hdn : d < n := by
        have h2 := hf.2.1
        rw [← hfd, hd] at h2
        simp [Nat.blt] at h2; omega
      refine ⟨v, ?_, hv⟩
      rw [← hfd, hd]
      exact put_eq (by rw [hI.rel.size]; exact hdn)
    · rw [h3 j e] at hsj
      obtain ⟨u, hu, hr⟩ := hI.tm j rj d hj hsj hd
      refine ⟨u, ?_, hkeep _ _ hr⟩
      rw [put_ne, hu]
      intro he
      obtain ⟨oj, h1, h2⟩ := hD.recd hj
      exact e (nodup_dsts hD.dst j i oj o d h1 ho (by rw [← h2.1]; exact hd) he)
  · obtain ⟨u, hu, hr⟩ := hI.en t av ht fun j oj hj hsj => hno j oj hj (by
      by_cases e : j = i
      · subst e; exact h2
      · rw [h3 j e]; exact hsj)
    exact ⟨u, by rw [put_ne (hno i o ho h2)]; exact hu, hkeep _ _ hr⟩

theorem DInv.envs (hE : ∀ i t av, get (E i) t = some av → get env t = some av ∧ ∀ (j : Nat) o, l[j]? = some o → o.dst = some t → Nat.testBit (mkOf l j) i = true) (hc : Closed l sel) (h1 : sel i = false) (hI : DInv C n n0 l nx env hp0 R sel ρ w a) {m : Nat} (hm : ∀ j, Nat.testBit m j = true → sel j = true) {k : Nat} (t : Nat) (av : AV)
    (h : get (bnd (Nat.testBit m) 0 (R.take k) (E i)) t = some av) : ∃ v, a.tmps[t]? = some v ∧ VR w (XX C.ex (hpB sel nx 0 R hp0) ρ) ρ av v := by
  rcases get_bnd h with ⟨j, r, h1, h2, h3, rfl⟩ | h
  · rw [Nat.zero_add] at h2
    exact hI.tm j r t (get_of_take h1).1 (hm j h2) h3
  · obtain ⟨g1, g2⟩ := hE i t av h
    refine hI.en t av g1 fun j o hj hsj hd => ?_
    have := hc j (List.getElem?_eq_some_iff.1 hj).1 hsj i (g2 j o hj hd)
    rw [h1] at this; cases this

theorem DInv.quiet (hD : DF P n n0 l nx E hp0 R) (hI : DInv C n n0 l nx env hp0 R sel ρ w a) (ho : l[i]? = some o) (hi : R[i]? = some r) (hf : FactK P n n0 l.toArray nx l.length (E i) hp0 (R.take i) (mkOf l i) o r)
    (h2 : sel' i = true) (h3 : ∀ j, j ≠ i → sel' j = sel j) (hk : noHp r.kd = true) {v : Value} (hP : Pres (fun _ => False) w w') (hv : VR w' (XX C.ex (hpB sel nx 0 R hp0) ρ) ρ r.av v) :
    DInv C n n0 l nx env hp0 R sel' ρ w' (a.put o.dst v) := by
  have hch := hI.rel.change (fun _ => False) hP (fun _ _ h => h.elim) (ρ' := ρ) (hp' := hpB sel nx 0 R hp0) (nx' := nxB sel 0 R (nx + l.length)) (fun _ _ h => h) (fun _ _ => rfl) (Nat.le_refl _) hI.rel.fresh
    (fun id b hb => .inl ⟨hb, fun _ _ _ h => h⟩) hI.rel.inj
  have cg := fun x => hpB_congr (sel := sel') (sel' := sel) (nx0 := nx) (l := R) (k := 0) (h := hp0) (x := x) fun j r' hj hno => by
    rw [Nat.zero_add]
    refine h3 j fun e => ?_
    subst e; rw [hi] at hj; cases hj; rw [hk] at hno; cases hno
  refine hI.after hD ho hi hf h2 h3 hch.1.toHRel hch.2.2 hv (cg 0).1 (cg _).2 fun j r' mk b hj hk' hs => ?_
  refine hI.al j r' mk b hj hk' ?_
  rw [← h3 j ?_]
  · exact hs
  · intro e; subst e; rw [hi] at hj; cases hj; rw [hk'] at hk; cases hk

theorem dstep (hE : ∀ i t av, get (E i) t = some av → get env t = some av ∧ ∀ (j : Nat) o, l[j]? = some o → o.dst = some t → Nat.testBit (mkOf l j) i = true) (hD : DF P n n0 l nx E hp0 R) (hlow : ∀ id b, getB hp0 id = some b → id < nx) (hn0 : n0 ≤ nx) (hc : Closed l sel) (hI : DInv C n n0 l nx env hp0 R sel ρ w a) (ho : l[i]? = some o) (he : ∀ e ∈ o.after, Region.binds .any e = true → sel e.on = true)
    (h1 : sel i = false) (h2 : sel' i = true) (h3 : ∀ j, j ≠ i → sel' j = sel j) {Kr : Act → World → Prop} {Q : Exit → Act → World → Prop}
    (hK : ∀ ρ' w' a', DInv C n n0 l nx env hp0 R sel' ρ' w' a' → Kr a' w') : if Region.wanted o (yielded l.toArray a.tmps) = true then o.wp P a w Kr Q else Kr (a.put o.dst undef) w := by
  have hm := mask_sub hD hc ho he
  obtain ⟨r, hi, hf⟩ := hD.fk i o ho
  have hf0 := hf
  obtain ⟨hd, hdn, hf⟩ := hf
  have hil : i < R.length := (List.getElem?_eq_some_iff.1 hi).1
  have hlen : (R.take i).length = i := by simp; omega
  have henv : SRel C n n0 (bnd (Nat.testBit (mkOf l i)) 0 (R.take i) (E i)) (hpB sel nx 0 R hp0) (nxB sel 0 R (nx + l.length)) ρ w a := hI.rel.envOf fun t av h => hI.envs hE hc h1 hm t av h
  cases hk : r.kd with
  | off =>
    simp only [hk] at hf
    have hw := wantA_sound henv hf.1
    simp only [hw, Bool.false_eq_true, if_false]
    refine hK ρ w _ (hI.quiet hD ho hi hf0 h2 h3 (by rw [hk]; rfl) (Pres.refl _ _) ?_)
    rw [hf.2]; simp [VR, undef, VRs]
  | p =>
    simp only [hk] at hf
    have hw := wantA_sound henv hf.1
    simp only [hw, if_true]
    exact hf.2 _ _ C ρ w a henv Kr Q fun v w' hP hv => hK ρ w' _ (hI.quiet hD ho hi hf0 h2 h3 (by rw [hk]; rfl) hP hv)
  | q =>
    simp only [hk] at hf
    have hw := wantA_sound henv hf.1
    simp only [hw, if_true]
    have hsub := sub_q hD hc hlow hi h1 hk hm hf.2.1
    obtain ⟨hdr, hiff⟩ := henv.drop (env2 := bnd (Nat.testBit (mkOf l i)) 0 (R.take i) (E i)) hsub.1 henv.env
    rw [show nxB sel 0 R (nx + l.length) = nxB (fun _ => true) 0 (R.take i) (Nat.add nx l.length) from hsub.2.symm] at hdr
    refine hf.2.2 _ ρ w a hdr Kr Q fun v w' hP hv => hK ρ w' _ (hI.quiet hD ho hi hf0 h2 h3 (by rw [hk]; rfl) hP ?_)
    exact VR.mono (Pres.refl (fun _ => False) w') (fun _ _ h => h.elim) (fun r _ h => (hiff r).2 h) (fun _ _ h => h) _ _ hv
  | al mk blk =>
    simp only [hk] at hf
    have hw := wantA_sound henv hf.1
    simp only [hw, if_true]
    have later : ∀ (k : Nat) r', R[k]? = some r' → i < k → sel k = true → isE r'.kd = false ∧ (∀ m nxc hp' y, r'.kd = .rn m nxc hp' y → nx + i ∉ m ∧ nx + i < nxc ∧ nx + l.length ≤ y) := fun k r' hk' hik hsk => by
      refine ⟨laterA hD hc hi h1 (by rw [hk]; rfl) hk' hik hsk, fun m nxc hp' y hrn => ?_⟩
      obtain ⟨o', ho', hf'⟩ := hD.recd hk'
      simp only [FactK, hrn] at hf'
      obtain ⟨_, _, _, _, _, f4, f5, f6, _⟩ := hf'
      have f4 : nx + l.length ≤ nxc := by simpa using f4
      have f5 : nxc ≤ y := by simpa using f5
      refine ⟨?_, by have := hD.len; omega, by omega⟩
      rcases okM_get f6 i r (take_get hi hik) (by rw [hk]; rfl) with h | h
      · rw [Nat.zero_add] at h
        have := hc k (List.getElem?_eq_some_iff.1 ho').1 hsk i h
        rw [h1] at this; cases this
      · rw [Nat.zero_add] at h; exact h
    have earlier : ∀ (k : Nat) r', R[k]? = some r' → k < i → isEf r'.kd = false := fun k r' hk' hik => noEf_al hD hi hk hk' hik
    have hge : nx + l.length ≤ nxB sel 0 R (nx + l.length) := nxB_ge (fun j r' hj hs => by
      rw [Nat.zero_add] at hs
      rcases Nat.lt_trichotomy j i with h | rfl | h
      · have := earlier j r' hj h
        exact ⟨by cases hk' : r'.kd <;> rw [hk'] at this <;> simp [isEf] at this <;> rfl, fun m nxc hp' y hrn => by rw [hrn] at this; cases this⟩
      · rw [h1] at hs; cases hs
      · obtain ⟨g1, g2⟩ := later j r' hj h hs
        exact ⟨g1, fun m nxc hp' y hrn => (g2 m nxc hp' y hrn).2.2⟩) (Nat.le_refl _)
    obtain ⟨obj, v, hrun, hob⟩ := hf.2.2.2 _ _ C ρ w a henv
    have hA : ρ (nx + i) = none := hI.al i r mk blk hi hk h1
    have hal := hI.rel.allocAt (nx + i) (nxB sel 0 R (nx + l.length)) hA (by omega) (Nat.le_refl _) (by have := hD.len; omega) obj blk (fun ρ' X' a1 a2 a3 => (hob (nx + i) ρ' X' a1 a2 a3).1)
    unfold Oper.wp
    rw [hrun]
    simp only [Oper.upon]
    have hext : ∀ id, getB (hpB sel' nx 0 R hp0) id = getB ((nx + i, blk) :: hpB sel nx 0 R hp0) id := fun id => by
      rw [getB_cons]
      by_cases e : nx + i = id
      · subst e
        rw [if_pos rfl, (hpB_cut (x := 0) hi).1, hpB_stay fun j r' hj hs => ?_]
        · simp only [hpB, h2, hk]
          rw [getB_cons, if_pos (show Nat.add nx i = nx + i from rfl)]
        · rw [List.getElem?_drop] at hj
          rw [h3 _ (by omega)] at hs
          obtain ⟨g1, g2⟩ := later _ r' hj (by omega) hs
          exact ⟨g1, fun _ => by omega, fun m nxc hp' y hrn => ⟨(g2 m nxc hp' y hrn).1, (g2 m nxc hp' y hrn).2.1⟩⟩
      · rw [if_neg e]
        refine hpB_at (fun j r' hj hno => ?_) rfl
        rw [Nat.zero_add]
        by_cases e' : j = i
        · subst e'
          rw [hi] at hj; cases hj
          exact .inr ⟨by rw [hk]; rfl, fun e'' => e e''.symm⟩
        · exact .inl (h3 j e')
    have e : getB (hpB sel' nx 0 R hp0) = getB ((nx + i, blk) :: hpB sel nx 0 R hp0) := funext hext
    have eX : ∀ ρ, XX C.ex (hpB sel' nx 0 R hp0) ρ = XX C.ex ((nx + i, blk) :: hpB sel nx 0 R hp0) ρ := fun ρ => by unfold XX; rw [e]
    have hnx' : nxB sel' 0 R (nx + l.length) = nxB sel 0 R (nx + l.length) := nxB_congr fun j r' hj he => by
      rw [Nat.zero_add]
      refine h3 j fun e' => ?_
      subst e'; rw [hi] at hj; cases hj; rw [hk] at he; cases he
    refine hK (updR ρ (nx + i) (some (w.heap.size, 0))) (w.alloc obj) _ (hI.after hD ho hi hf0 h2 h3 (hp' := hpB sel' nx 0 R hp0) (nx' := nxB sel 0 R (nx + l.length)) (hal.1.toHRel.ext hext) (fun x u hx => ?_) ?_ rfl hnx' ?_)
    · rw [eX]; exact hal.2.2 x u hx
    · rw [eX, hf.2.2.1, show (Nat.add nx (R.take i).length) = nx + i from by rw [hlen]; rfl]
      refine (hob (nx + i) _ _ (fun j p hj => ?_) (by simp [updR]) hal.2.1).2
      by_cases e : j = nx + i
      · subst e; rw [hA] at hj; cases hj
      · simp [updR, e, hj]
    · intro j r' mk' b' hj hk' hs
      have hne : j ≠ i := fun e => by subst e; rw [h2] at hs; cases hs
      simp only [updR, if_neg (show ¬ nx + j = nx + i by omega)]
      exact hI.al j r' mk' b' hj hk' (by rw [← h3 j hne]; exact hs)
  | rn mm nxc hp' nx' =>
    simp only [hk] at hf
    obtain ⟨f1, f2, f3, f4, f5, f6, f7⟩ := hf
    have hw := wantA_sound henv f1
    simp only [hw, if_true]
    obtain ⟨s1, s2, s3⟩ := same_rn hD hc hi h1 (by rw [hk]; rfl) hm f2 (mm := mm) f6
    have f4 : nx + l.length ≤ nxc := by simpa using f4
    have henv2 := henv
    rw [s2, show nxB (fun _ => true) 0 (R.take i) (nx + l.length) = nxc from f3.symm] at henv2
    refine f7 (hpB sel nx 0 R hp0) s3 C ρ w a henv2 Kr Q ?_
    rintro v w' ρ' av2 hp2 nx2 ⟨rfl, rfl, rfl⟩ hs' hv hkeep hmono
    have sk := fun h x => hpB_skip (sel := sel') (nx0 := nx) (l := R.drop (i + 1)) (k := i + 1) (h := h) (x := x) fun j r' hj hsj => by
      rw [List.getElem?_drop] at hj
      rw [h3 _ (by omega)] at hsj
      have hne := later2 hD hc hi h1 (by rw [hk]; rfl) hj (by omega) hsj
      cases hk' : r'.kd <;> rw [hk'] at hne <;> first | rfl | (cases hne; done)
    refine hK ρ' w' _ (hI.after hD ho hi hf0 h2 h3 (hp' := backH mm nxc (hpB sel nx 0 R hp0) hp') (nx' := nx2) hs'.toHRel hkeep hv ?_ ?_ ?_)
    · rw [(hpB_cut (x := 0) hi).1, (sk _ 0).1]
      simp only [hpB, h2, hk]
      rw [s1]
      have := (hpB_congr (sel := sel') (sel' := sel) (nx0 := nx) (l := R.take i) (k := 0) (h := hp0) (x := 0) fun j r' hj _ => by rw [Nat.zero_add]; exact h3 j (by have := (get_of_take hj).2; omega)).1
      rw [this]
    · rw [(hpB_cut (nx0 := nx) (h := hp0) hi).2, (sk [] _).2]
      simp only [nxB, h2, hk]
    · intro j r' mk' b' hj hk' hs
      have hne : j ≠ i := fun e => by subst e; rw [h2] at hs; cases hs
      rw [hmono (nx + j) (by have := (List.getElem?_eq_some_iff.1 hj).1; have := hD.len; omega)]
      exact hI.al j r' mk' b' hj hk' (by rw [← h3 j hne]; exact hs)
  | ef hp' nx' =>
    simp only [hk] at hf
    have hw := wantA_sound henv hf.1
    simp only [hw, if_true]
    have hsame := same_ef hD hc hi h1 (by rw [hk]; rfl) hm hf.2.1
    have henv2 := henv
    rw [hsame.1, hsame.2] at henv2
    refine hf.2.2 C ρ w a henv2 Kr Q ?_
    rintro v w' ρ' av2 hp2 nx2 ⟨rfl, e8, e9⟩ hs' hv hkeep
    rw [e8] at hs' hv hkeep
    rw [e9] at hs'
    have hsr := hs'
    have hgoal : DInv C n n0 l nx env hp0 R sel' ρ' w' (a.put o.dst v) := by
      have e1 : R = R.take i ++ R.drop i := (List.take_append_drop i R).symm
      have sk := fun h x => hpB_skip (sel := sel') (nx0 := nx) (l := R.drop (i + 1)) (k := i + 1) (h := h) (x := x) fun j r' hj hsj => by
        rw [List.getElem?_drop] at hj
        rw [h3 _ (by omega)] at hsj
        have hne := later2 hD hc hi h1 (by rw [hk]; rfl) hj (by omega) hsj
        cases hk' : r'.kd <;> rw [hk'] at hne <;> first | rfl | cases hne
      have g := hpB_ef (sel := sel') (nx0 := nx) (h := hp0) (x := nx + l.length) hi hk h2
      refine hI.after hD ho hi hf0 h2 h3 (hp' := hp') (nx' := nx') hsr.toHRel (fun x u hx => hkeep x u ?_) hv ?_ ?_ ?_
      · rw [hsame.1] at hx; exact hx
      · rw [g.1]; exact (sk _ 0).1
      · rw [g.2]; exact (sk [] _).2
      · intro j r' mk' b' hj hk' hs
        exfalso
        have hne : j ≠ i := fun e => by subst e; rw [h2] at hs; cases hs
        rcases Nat.lt_or_gt_of_ne hne with hlt | hgt
        · rcases allB_get hf.2.1 j r' (take_get hj hlt) with h | h
          · rw [hk'] at h; cases h
          · rw [Nat.zero_add] at h
            rw [h3 j hne, hm j h] at hs; cases hs
        · have := noEf_al hD hj hk' hi hgt
          rw [hk] at this; cases this
    exact hK ρ' w' _ hgoal

/-- How many are left. -/
def left (sel : Nat → Bool) : Nat → Nat
  | 0 => 0
  | k + 1 => left sel k + if sel k = true then 0 else 1
theorem left_zero : ∀ {k : Nat}, left sel k = 0 → ∀ i, i < k → sel i = true
  | 0, _, i, h => by omega
  | k + 1, h, i, hi => by
    simp only [left] at h
    by_cases e : i = k
    · subst e
      cases hs : sel i
      · rw [hs] at h; simp at h
      · rfl
    · exact left_zero (k := k) (by omega) i (by omega)
theorem left_same : ∀ {k : Nat}, (∀ j, j < k → sel' j = sel j) → left sel' k = left sel k
  | 0, _ => rfl
  | k + 1, h => by simp only [left]; rw [left_same fun j hj => h j (by omega), h k (by omega)]
theorem left_step (h1 : sel i = false) (h2 : sel' i = true) (h3 : ∀ j, j ≠ i → sel' j = sel j) : ∀ {k : Nat}, i < k → left sel' k + 1 = left sel k
  | 0, h => by omega
  | k + 1, h => by
    simp only [left]
    by_cases e : i = k
    · subst e
      rw [left_same fun j hj => h3 j (by omega), h1, h2]; simp
    · have := left_step h1 h2 h3 (k := k) (by omega)
      rw [h3 k (fun h => e h.symm)]
      omega

theorem dany (hE : ∀ i t av, get (E i) t = some av → get env t = some av ∧ ∀ (j : Nat) o, l[j]? = some o → o.dst = some t → Nat.testBit (mkOf l j) i = true) (hD : DF P n n0 l nx E hp0 R) (hlow : ∀ id b, getB hp0 id = some b → id < nx) (hn0 : n0 ≤ nx) {Q : Exit → Act → World → Prop}
    (hQ : ∀ sel ρ w a, (∀ i, i < l.length → sel i = true) → DInv C n n0 l nx env hp0 R sel ρ w a → Q .normal a w) : ∀ (fuel : Nat) (listed : Array Bool) (ρ : Rho) (w : World) (a : Act), listed.size = l.length → left (fun j => listed.getD j false) l.length ≤ fuel →
    Closed l (fun j => listed.getD j false) → DInv C n n0 l nx env hp0 R (fun j => listed.getD j false) ρ w a → wpAny P .any l.toArray Q fuel listed a w := by
  have hall : ∀ (listed : Array Bool), listed.size = l.length → Region.ready .any l.toArray listed = [] → ∀ i, i < l.length → listed.getD i false = true := by
    intro listed hsz hr i
    induction i using Nat.strongRecOn with
    | ind i ih =>
      intro hi
      cases h : listed.getD i false with
      | true => rfl
      | false =>
        have : i ∈ Region.ready .any l.toArray listed := by
          rw [mem_ready]
          refine ⟨?_, l[i], by simp [hi], fun e he hb => ?_⟩
          · simp [Array.getElem?_eq_getElem (by omega : i < listed.size)] at h ⊢; exact h
          · have := edgesB_get hD.edges i _ (List.getElem?_eq_getElem hi) e he hb
            exact ih e.on (by omega) (by omega)
        rw [hr] at this; cases this
  intro fuel
  induction fuel with
  | zero =>
    intro listed ρ w a hsz hl hc hI
    have hz := left_zero (Nat.le_zero.1 hl)
    refine ⟨?_, hQ _ ρ w a hz hI⟩
    rw [List.eq_nil_iff_forall_not_mem]
    intro i hi
    rw [mem_ready] at hi
    obtain ⟨h1, o, ho, _⟩ := hi
    have hil : i < l.length := by have := (Array.getElem?_eq_some_iff.1 ho).1; simpa using this
    have := hz i hil
    simp [Array.getElem?_eq_getElem (by omega : i < listed.size)] at h1 this
    rw [this] at h1; cases h1
  | succ fuel ih =>
    intro listed ρ w a hsz hl hc hI
    refine ⟨fun h => hQ _ ρ w a (hall listed hsz h) hI, fun i hi => ?_⟩
    rw [mem_ready] at hi
    obtain ⟨h1, o, ho, he⟩ := hi
    have hil : i < l.length := by have := (Array.getElem?_eq_some_iff.1 ho).1; simpa using this
    have ho' : l[i]? = some o := by simpa using ho
    have g1 : listed.getD i false = false := by
      simp [Array.getElem?_eq_getElem (by omega : i < listed.size)] at h1 ⊢; exact h1
    have g2 : (listed.setIfInBounds i true).getD i false = true := by
      simp [hsz, hil]
    have g3 : ∀ j, j ≠ i → (listed.setIfInBounds i true).getD j false = listed.getD j false := fun j hj => getD_set_ne false (Ne.symm hj)
    unfold wpOp
    rw [ho]
    simp only
    have := dstep (Q := Q) (Kr := wpAny P .any l.toArray Q fuel (listed.setIfInBounds i true)) (sel' := fun j => (listed.setIfInBounds i true).getD j false) hE hD hlow hn0 hc hI ho' he g1 g2 g3 fun ρ' w' a' hI' => by
      refine ih _ ρ' w' a' (by simp [hsz]) ?_ ?_ hI'
      · have := left_step (sel := fun j => listed.getD j false) (sel' := fun j => (listed.setIfInBounds i true).getD j false) g1 g2 g3 hil
        omega
      · intro k hk hs j hj
        by_cases e : k = i
        · subst e
          have := mask_sub hD hc ho' he j hj
          by_cases e' : j = k
          · subst e'; exact g2
          · simp only at this ⊢; rw [g3 j e']; exact this
        · simp only at hs ⊢
          rw [g3 k e] at hs
          have := hc k hk hs j hj
          by_cases e' : j = i
          · subst e'; exact g2
          · simp only at this ⊢; rw [g3 j e']; exact this
    split
    · rename_i hw; rw [if_pos hw] at this; exact .inl this
    · rename_i hw; rw [if_neg hw] at this; exact this

/-- The names that live. -/
def lowB (hp : Hp) (nx : Nat) : Prop := ∀ id b, getB hp id = some b → id < nx

theorem get_bnd_all {sel : Nat → Bool} : ∀ {l : List Rec} {k : Nat} {e : Env}, (∀ j, j < l.length → sel (k + j) = true) → bnd sel k l e = bnd (fun _ => true) k l e
  | [], k, e, _ => rfl
  | r :: l, k, e, h => by
    simp only [bnd]
    have h0 := h 0 (by simp)
    rw [Nat.add_zero] at h0
    rw [h0, get_bnd_all (l := l) (fun j hj => by rw [show Nat.succ k + j = k + (j + 1) from by omega]; exact h (j + 1) (by simpa using hj))]

theorem draw_any (hed : edgesB 0 l = true) (hdst : nodupB (dstsOf l) = true) {fin : List Rec → Prop} (hF : Facts P n n0 l.toArray nx l.length (fun i => stripK (dstsOf l) l i env) hp fin l [] [])
    (hfin : ∀ R, fin R → Wc P n n0 K (.st s (bnd (fun _ => true) 0 R (strip (dstsOf l) env)) (hpB (fun _ => true) nx 0 R hp) (nxB (fun _ => true) 0 R (Nat.add nx l.length)))) :
    ∀ C ρ w a, SRel C n n0 env hp nx ρ w a → wpAny P .any l.toArray (lift C n n0 (kOf P n n0 s K)) l.length (Array.replicate l.length false) a { w with drawn := w.drawn + 1 } := by
  intro C ρ w a hs
  obtain ⟨R, g1, g2, g3, g4⟩ := hF.out rfl
  simp only [List.length_nil, Nat.zero_add] at g2 g4
  have hD : DF P n n0 l nx (fun i => stripK (dstsOf l) l i env) hp R := ⟨g2, g4, hed, hdst⟩
  have hlow : ∀ id b, getB hp id = some b → id < nx := fun id b hb => by
    obtain ⟨p, h1, _⟩ := hs.blk id b hb
    rcases Nat.lt_or_ge id nx with h | h
    · exact h
    · rw [hs.fresh id h] at h1; cases h1
  have hrep : ∀ j, (Array.replicate l.length false).getD j false = false := fun j => by
    by_cases h : j < l.length <;> simp [h]
  have hsel : (fun j => (Array.replicate l.length false).getD j false) = fun _ => false := funext hrep
  have hemp : hpB (fun _ => false) nx 0 R hp = hp ∧ nxB (fun _ => false) 0 R (nx + l.length) = nx + l.length := hpB_skip fun _ _ _ h => by cases h
  have hs2 : SRel C n n0 env hp (nx + l.length) ρ w a := { hs with env := hs.env, fresh := fun id h => hs.fresh id (by omega), le := by have := hs.le; omega, size := hs.size, defers := hs.defers }
  have hch := hs2.change (fun _ => False) (drew_pres _ w) (fun _ _ h => h.elim) (ρ' := ρ) (hp' := hp) (nx' := nx + l.length) (fun _ _ h => h) (fun _ _ => rfl) (Nat.le_refl _) hs2.fresh
      (fun id b hb => .inl ⟨hb, fun _ _ _ h => h⟩) hs2.inj
  refine dany (env := env) (fun i t av h => get_stripK h) hD hlow hs.le (C := C) ?_ l.length (Array.replicate l.length false) ρ _ a (by simp) ?_ ?_ ?_
  · intro sel ρ' w' a' hall hI
    have hfull : ∀ (j : Nat) (r : Rec), R[j]? = some r → sel j = true := fun j r hj => hall j (by rw [← g2]; exact (List.getElem?_eq_some_iff.1 hj).1)
    have cg := fun x => hpB_congr (sel := sel) (sel' := fun _ => true) (nx0 := nx) (l := R) (k := 0) (h := hp) (x := x) fun j r hj _ => by rw [Nat.zero_add]; exact hfull j r hj
    have hrel := hI.rel
    rw [(cg 0).1, (cg _).2] at hrel
    refine ⟨_, _, _, ρ', hfin R g3, hrel.envOf fun t av ht => ?_⟩
    rcases get_bnd ht with ⟨j, r, h1, _, h3, rfl⟩ | h
    · have := hI.tm j r t h1 (hfull j r h1) h3
      rw [(cg 0).1] at this; exact this
    · obtain ⟨k1, k2⟩ := get_strip h
      have := hI.en t av k1 fun j o hj _ hd => k2 t (by simp only [dstsOf, List.mem_filterMap]; exact ⟨o, List.mem_of_getElem? hj, hd⟩) rfl
      rw [(cg 0).1] at this; exact this
  · rw [hsel]
    have : ∀ k, left (fun _ => false) k = k := fun k => by
      induction k with
      | zero => rfl
      | succ k ih => simp [left, ih]
    rw [this]; exact Nat.le_refl _
  · rw [hsel]; intro i _ h; cases h
  · rw [hsel]
    refine ⟨by rw [hemp.1, hemp.2]; exact hch.1.envOf fun t av h => (by simp [get] at h), fun j r d _ h => (by cases h), fun j r mk b _ _ _ => hs.fresh _ (by omega), fun t av ht _ => (by rw [hemp.1]; exact hch.1.env t av ht)⟩

theorem draw_sound (hm : P.follows .mixedOrders = true) (hed : edgesB 0 l = true) (hdst : nodupB (dstsOf l) = true) {fin : List Rec → Prop} (hF : Facts P n n0 l.toArray nx l.length (fun i => stripK (dstsOf l) l i env) hp fin l [] [])
    (hfin : ∀ R, fin R → Wc P n n0 K (.st s (bnd (fun _ => true) 0 R (strip (dstsOf l) env)) (hpB (fun _ => true) nx 0 R hp) (nxB (fun _ => true) 0 R (Nat.add nx l.length)))) {id : Nat} :
    W P n n0 (.region id l.toArray true) (kOf P n n0 s K) env hp nx := by
  intro C ρ w a hs
  refine wp_region_any hm ?_
  rw [show (l.toArray).size = l.length from by simp]
  exact draw_any hed hdst hF hfin C ρ w a hs

/-- A region whose order is open. -/
theorem c_draw (hm : P.follows .mixedOrders = true) {ops : Array Oper} {l : List Oper} (hl : ops = l.toArray) (hed : edgesB 0 l = true) (hdst : nodupB (dstsOf l) = true) {id : Nat}
    (hF : Facts P n n0 ops nx l.length (fun i => stripK (dstsOf l) l i env) hp (fun R => Wc P n n0 K (.st s (bnd (fun _ => true) 0 R (strip (dstsOf l) env)) (hpB (fun _ => true) nx 0 R hp) (nxB (fun _ => true) 0 R (Nat.add nx l.length)))) l [] []) :
    Wc P n n0 K (.st (.code (.region id ops true) :: s) env hp nx) := by
  subst hl
  exact draw_sound hm hed hdst hF (fun R h => h)
end
end Go.Av
namespace Go.Av
open Go

section
variable {P : Program} {n n0 : Nat} {env : Env} {hp : Hp} {nx : Nat} {K : Kont} {s : List Fr}

theorem BR_ren' {w X} {ρ ρ' : Rho} (m : Nat → Nat) (h : ∀ i p, ρ i = some p → ρ' (m i) = some p) : ∀ (b : Blk) (p : Option (Nat × Nat)), BR w X ρ b p → BR w X ρ' (b.ren m) p
  | .arr sz els, none, hb => by simp only [BR, Blk.ren] at hb ⊢; subst hb; rfl
  | .arr sz els, some (b, base), hb => by
    obtain ⟨c, T, fz, evs, h1, h2, h3, h4⟩ := hb
    exact ⟨c, T, fz, evs, h1, h2, VRs_ren' m ρ' h _ _ h3, h4⟩
  | .mp ents, some (b, base), hb => by
    obtain ⟨es, clock, h1, h2, h3⟩ := hb
    have key : ∀ (f : AV × AV → AV) (l : List (AV × AV)) (vs : List Value), (∀ p, f (p.1.ren m, p.2.ren m) = (f p).ren m) → VRs w X ρ (l.map f) vs → VRs w X ρ' ((l.map fun p => (p.1.ren m, p.2.ren m)).map f) vs := by
      intro f l vs hf h0
      have := VRs_ren' m ρ' h _ _ h0
      rw [AV.rens_eq, List.map_map] at this
      rw [List.map_map]
      have e : (f ∘ fun p => (p.1.ren m, p.2.ren m)) = AV.ren m ∘ f := funext fun p => hf p
      rw [e]; exact this
    exact ⟨es, clock, h1, key _ _ _ (fun _ => rfl) h2, key _ _ _ (fun _ => rfl) h3⟩
  | .siter s pos, some (b, base), hb => hb
  | .mp _, none, hb => hb
  | .siter _ _, none, hb => hb
  | .dead, none, hb => hb
  | .dead, some _, hb => hb

theorem HRel.back {C ρ w} {m : List Nat} {n1 : Nat} {hp1 : Hp} (hs : HRel C n0 hp nx ρ w) (hlen : Nat.beq m.length n1 = true) (hnd : nodupB m = true) (hh : embH m nx hp hp1) (hlow : ∀ k ∈ m, k < nx) :
    ∃ C1 : Ctx, C1.w0 = w ∧ C1.ρ0 = rhoM m ρ ∧ HRel C1 n1 hp1 n1 C1.ρ0 w ∧ (∀ r, XX C1.ex hp1 C1.ρ0 r → XX C.ex hp ρ r) ∧
      ∀ hp' nx' ρ' w', HRel C1 n1 hp' nx' ρ' w' → ∃ ρ'', HRel C n0 (backH m nx hp hp') (nx + (nx' - n1)) ρ'' w' ∧ (∀ x u, VR w (XX C.ex hp ρ) ρ x u → VR w' (XX C.ex (backH m nx hp hp') ρ'') ρ'' x u) ∧
        (∀ x u, VR w' (XX C1.ex hp' ρ') ρ' x u → VR w' (XX C.ex (backH m nx hp hp') ρ'') ρ'' (x.ren (mg m nx)) u) ∧ (∀ i, i < nx → ρ'' i = ρ i) := by
  have hlen := Nat.eq_of_beq_eq_true hlen
  have hn := hs.fresh nx (Nat.le_refl _)
  have hid : ∀ id b, getB hp1 id = some b → ∃ k, m[id]? = some k ∧ getB hp k = some (b.ren (mf m nx)) := by
    intro id b h
    have h1 := embH_get hh id b h
    cases hm : m[id]? with
    | some k => exact ⟨k, rfl, by simpa [mf, hm] using h1⟩
    | none =>
      have e : mf m nx id = nx := by simp [mf, hm]
      rw [e] at h1
      obtain ⟨p, hp1, _⟩ := hs.blk nx _ h1
      rw [hn] at hp1; cases hp1
  let O : Nat → Prop := Owned hp1 (rhoM m ρ)
  have hO : ∀ r, O r → Owned hp ρ r := by
    rintro r ⟨id, b, base, h1, h2⟩
    obtain ⟨k, h3, h4⟩ := hid id b h1
    simp only [rhoM, h3] at h2
    exact ⟨k, _, base, h4, h2⟩
  let C1 : Ctx := { ex := fun r => XX C.ex hp ρ r ∧ ¬ O r, O0 := O, w0 := w, ρ0 := rhoM m ρ }
  let C2 : Ctx := { C with ex := fun _ => False }
  have hemb : HRel { ex := fun r => False, O0 := fun _ => True, w0 := w, ρ0 := rhoM m ρ } 0 hp1 n1 (rhoM m ρ) w := by
    have h0 : HRel { ex := fun r => False, O0 := fun _ => True, w0 := w, ρ0 := rhoM m ρ } 0 hp nx ρ w :=
      ⟨fun id b h => by
        obtain ⟨p, h1, h2⟩ := hs.blk id b h
        refine ⟨p, h1, BR.mono (Pres.refl (fun _ => False) w) (fun _ _ h => h.elim) (fun r _ hr => ?_) (fun _ _ h => h) b p (fun _ _ _ => rfl) h2⟩
        rcases hr with hr | hr
        · exact hr.elim
        · exact .inr hr, hs.inj, fun id b r base h1 h2 => ⟨.inl trivial, fun h => (h : False), (hs.own id b r base h1 h2).2.2⟩, fun _ h => h.elim, hs.fresh, Pres.refl _ _, fun i hi => absurd hi (Nat.not_lt_zero i), Nat.zero_le _⟩
    exact (h0.emb (nx0 := n1) (by rw [hlen]; exact Nat.beq_refl n1) rfl hnd hh).1
  have hX1 : ∀ r, XX C1.ex hp1 (rhoM m ρ) r → XX C.ex hp ρ r := by
    rintro r (h | h)
    · exact h.1
    · exact .inr (hO r h)
  have hX2 : ∀ r, XX (fun _ => False) hp1 (rhoM m ρ) r → XX C1.ex hp1 (rhoM m ρ) r := by
    rintro r (h | h)
    · exact h.elim
    · exact .inr h
  have hH1 : HRel C1 n1 hp1 n1 C1.ρ0 w := by
    refine ⟨fun id b h => ?_, hemb.inj, fun id b r base h1 h2 => ⟨.inl ⟨id, b, base, h1, h2⟩, fun hx => hx.2 ⟨id, b, base, h1, h2⟩, (hemb.own id b r base h1 h2).2.2⟩, fun r hr => ?_, hemb.fresh, Pres.refl _ _, fun _ _ => rfl, Nat.le_refl _⟩
    · obtain ⟨k, h3, h4⟩ := hid id b h
      obtain ⟨p, g1, g2⟩ := hs.blk k _ h4
      refine ⟨p, by simp [C1, rhoM, h3, g1], ?_⟩
      -- as in emb, with X smaller
      have hm : ∀ (X : AV) (v : Value), VR w (XX C.ex hp ρ) ρ X v → VR w (XX C1.ex hp1 (rhoM m ρ)) ρ X v := fun X v => VR.mono (Pres.refl (fun _ => False) w) (fun _ _ h => h.elim) (fun r _ h => hX1 r h) (fun _ _ h => h) X v
      have hms : ∀ (X : List AV) (v : List Value), VRs w (XX C.ex hp ρ) ρ X v → VRs w (XX C1.ex hp1 (rhoM m ρ)) ρ X v := fun X v => VRs.mono (Pres.refl (fun _ => False) w) (fun _ _ h => h.elim) (fun r _ h => hX1 r h) (fun _ _ h => h) X v
      show BR w (XX C1.ex hp1 (rhoM m ρ)) (rhoM m ρ) b p
      cases b with
      | dead => simp only [Blk.ren] at g2; cases p <;> simp only [BR] at g2
      | siter s ps => simp only [Blk.ren] at g2; cases p <;> simp only [BR] at g2 ⊢ <;> exact g2
      | arr sz els =>
        simp only [Blk.ren] at g2
        cases p with
        | none => simp only [BR] at g2 ⊢; cases els with
          | nil => rfl
          | cons a l => simp [AV.rens] at g2
        | some p =>
          obtain ⟨b, base⟩ := p
          obtain ⟨c, T, fz, evs, k1, k2, k3, k4, k5, k6⟩ := g2
          exact ⟨c, T, fz, evs, k1, k2, VRs_ren _ _ (mf_rho hn) _ _ (hms _ _ k3), k4, k5, k6⟩
      | mp ents =>
        simp only [Blk.ren] at g2
        cases p with
        | none => simp only [BR] at g2
        | some p =>
          obtain ⟨b, base⟩ := p
          obtain ⟨es, clock, k1, k2, k3⟩ := g2
          rw [List.map_map] at k2 k3
          exact ⟨es, clock, k1, VRs_mapren hn _ _ (fun _ => rfl) _ _ (hms _ _ k2), VRs_mapren hn _ _ (fun _ => rfl) _ _ (hms _ _ k3)⟩
    · rcases hr.1 with h | ⟨id, b, base, h1, h2⟩
      · exact hs.exo r h
      · exact (hs.own id b r base h1 h2).2.2
  refine ⟨C1, rfl, rfl, hH1, hX1, fun hp' nx' ρ' w' h' => ?_⟩
  have hle : n1 ≤ nx' := h'.le
  have hinj : ∀ i j, mg m nx i = mg m nx j → i = j := by
    intro i j h
    unfold mg at h
    cases hi : m[i]? with
    | some k =>
      rw [hi] at h
      cases hj : m[j]? with
      | some k' => rw [hj] at h; simp only at h; subst h; exact nodupB_get m hnd i j k hi hj
      | none =>
        rw [hj] at h; simp only at h
        have := hlow k (List.mem_of_getElem? hi)
        have e : Nat.add nx (Nat.sub j m.length) = nx + (j - m.length) := rfl
        omega
    | none =>
      rw [hi] at h
      have hi' := List.getElem?_eq_none_iff.1 hi
      cases hj : m[j]? with
      | some k' =>
        rw [hj] at h; simp only at h
        have := hlow k' (List.mem_of_getElem? hj)
        have e : Nat.add nx (Nat.sub i m.length) = nx + (i - m.length) := rfl
        omega
      | none =>
        rw [hj] at h; simp only at h
        have hj' := List.getElem?_eq_none_iff.1 hj
        have e1 : Nat.add nx (Nat.sub i m.length) = nx + (i - m.length) := rfl
        have e2 : Nat.add nx (Nat.sub j m.length) = nx + (j - m.length) := rfl
        omega
  let ρ'' : Rho := fun i => if i < nx then ρ i else ρ' (n1 + (i - nx))
  have hnew : ∀ i p, ρ' i = some p → ρ'' (mg m nx i) = some p := by
    intro i p hi
    unfold mg
    cases hm : m[i]? with
    | some k =>
      have hk := hlow k (List.mem_of_getElem? hm)
      have hlt := (List.getElem?_eq_some_iff.1 hm).1
      have := h'.base i (by omega)
      rw [hi] at this
      simp only [C1, rhoM, hm] at this
      simp only [ρ'', if_pos hk, ← this]
    | none =>
      have hge := List.getElem?_eq_none_iff.1 hm
      have e : Nat.add nx (Nat.sub i m.length) = nx + (i - m.length) := rfl
      simp only [ρ'', e]
      rw [if_neg (by omega), show n1 + (nx + (i - m.length) - nx) = i from by omega]
      exact hi
  have hold : ∀ i p, ρ i = some p → ρ'' i = some p := by
    intro i p hi
    have : i < nx := by
      rcases Nat.lt_or_ge i nx with h | h
      · exact h
      · rw [hs.fresh i h] at hi; cases hi
    simp only [ρ'', if_pos this]; exact hi
  have hlive : ∀ id b, getB hp id = some b → id < nx := fun id b h => by
    obtain ⟨p, h1, _⟩ := hs.blk id b h
    rcases Nat.lt_or_ge id nx with h | h
    · exact h
    · rw [hs.fresh id h] at h1; cases h1
  have hnO : ∀ id b r base, id ∉ m → getB hp id = some b → ρ id = some (some (r, base)) → ¬ O r := by
    rintro id b r base hni h1 h2 ⟨id', b', base', h3, h4⟩
    obtain ⟨k, h5, h6⟩ := hid id' b' h3
    simp only [rhoM, h5] at h4
    have := hs.inj id k _ _ r base base' h1 h6 h2 h4
    subst this
    exact hni (List.mem_of_getElem? h5)
  have hXX : ∀ r, XX C.ex (backH m nx hp hp') ρ'' r → XX C1.ex hp' ρ' r := by
    rintro r (h | ⟨id, b, base, h1, h2⟩)
    · refine .inl ⟨.inl h, fun ho => ?_⟩
      obtain ⟨id, b, base, h1, h2⟩ := hO r ho
      exact (hs.own id b r base h1 h2).2.1 h
    · rcases get_backH hinj h1 with ⟨i, b0, rfl, g1, _⟩ | ⟨g1, g2⟩
      · obtain ⟨p, g2, _⟩ := h'.blk i b0 g1
        have := hnew i p g2
        rw [h2] at this
        cases this
        exact .inr ⟨i, b0, base, g1, g2⟩
      · have hlt := hlive id b g2
        simp only [ρ'', if_pos hlt] at h2
        exact .inl ⟨.inr ⟨id, b, base, g2, h2⟩, hnO id b r base g1 g2 h2⟩
  have hch := hs.change (hp' := backH m nx hp hp') (nx' := nx + (nx' - n1)) (ρ' := ρ'') (w' := w') O h'.pres (fun r _ h => hO r h) hold (fun i hi => by
      have := hs.le; simp only [ρ'']; rw [if_pos (by omega)]) (by omega) (fun id hid' => by
      simp only [ρ'']; rw [if_neg (by omega)]; exact h'.fresh _ (by omega))
    (fun id b h => by
      rcases get_backH hinj h with ⟨i, b0, rfl, g1, rfl⟩ | ⟨g1, g2⟩
      · obtain ⟨p, k1, k2⟩ := h'.blk i b0 g1
        refine .inr ⟨p, hnew i p k1, BR.mono (Pres.refl (fun _ => False) w') (fun _ _ h => h.elim) (fun r _ h => hXX r h) (fun _ _ h => h) _ p (fun _ _ _ => rfl) (BR_ren' _ hnew b0 p k2), fun r base e => ?_⟩
        subst e
        have := h'.own i b0 r base g1 k1
        refine ⟨?_, this.2.2⟩
        rcases this.1 with h | h
        · exact .inl (hO r h)
        · exact .inr h
      · exact .inl ⟨g2, fun r base e => hnO id b r base g1 g2 e⟩)
    (fun id id' b b' r base base' h1 h2 h3 h4 => by
      have hcr : ∀ i b0 id b, getB hp' i = some b0 → id ∉ m → getB hp id = some b → ∀ base base', ρ'' (mg m nx i) = some (some (r, base)) → ρ'' id = some (some (r, base')) → False := by
        intro i b0 id b g1 k1 k2 base base' h3 h4
        obtain ⟨p, g2, _⟩ := h'.blk i b0 g1
        rw [hnew i p g2] at h3
        cases h3
        simp only [ρ'', if_pos (hlive id b k2)] at h4
        rcases (h'.own i b0 r base g1 g2).1 with h | h
        · exact hnO id b r base' k1 k2 h4 h
        · have := (hs.own id b r base' k2 h4).2.2
          have : C1.w0 = w := rfl
          rw [this] at h; omega
      rcases get_backH hinj h1 with ⟨i, b0, rfl, g1, _⟩ | ⟨g1, g2⟩ <;> rcases get_backH hinj h2 with ⟨i', b0', rfl, g1', _⟩ | ⟨g1', g2'⟩
      · obtain ⟨p, k1, _⟩ := h'.blk i b0 g1
        obtain ⟨p', k1', _⟩ := h'.blk i' b0' g1'
        rw [hnew i p k1] at h3
        rw [hnew i' p' k1'] at h4
        cases h3; cases h4
        rw [h'.inj i i' b0 b0' r base base' g1 g1' k1 k1']
      · exact (hcr i b0 id' b' g1 g1' g2' _ _ h3 h4).elim
      · exact (hcr i' b0' id b g1' g1 g2 _ _ h4 h3).elim
      · simp only [ρ'', if_pos (hlive _ _ g2)] at h3
        simp only [ρ'', if_pos (hlive _ _ g2')] at h4
        exact hs.inj id id' b b' r base base' g2 g2' h3 h4)
  refine ⟨ρ'', hch.1, fun x u hx => ?_, fun x u hx => VR_ren' _ _ hnew x u (VR.mono (Pres.refl (fun _ => False) w') (fun _ _ h => h.elim) (fun r _ h => hXX r h) (fun _ _ h => h) x u hx), fun i hi => by simp only [ρ'', if_pos hi]⟩
  exact VR.mono h'.pres (fun r hlt hy => .inr (hO r hy)) hch.2 hold x u hx

theorem OpR.run {o : Oper} {c : Call} {x : Operand} {f g : FuncId} {caps as args : List AV} {hp1 : Hp} {n1 : Nat} {Q : AV → Hp → Nat → Prop} (hc : RunC P g args hp1 n1 Q) (ho : o.op = .call c) (hcal : c.callee = .value x)
    (hx : evO env x = some (.func (.func f) [] caps)) (has : evL env c.args.toList = some as) (hcf : CallsTo P f g) (m : List Nat) (hargs : AV.rens (mf m nx) args = as ++ caps)
    (hlen : Nat.beq m.length n1 = true) (hnd : nodupB m = true) (hh : embH m nx hp hp1) (hlow : (m.all fun k => Nat.blt k nx) = true) :
    OpR P n n0 o env hp nx (fun av hp2 nx2 => ∃ r hp' nx', Q r hp' nx' ∧ av = r.ren (mg m nx) ∧ hp2 = backH m nx hp hp' ∧ nx2 = Nat.add nx (Nat.sub nx' n1)) := by
  intro C ρ w a hs Kr Q' hk
  unfold Oper.wp
  obtain ⟨argv, hrun, hv⟩ := run_call (P := P) hs ho hcal hx hcf (by rw [evL_mapM]; exact has)
  rw [hrun]
  simp only [Oper.upon]
  obtain ⟨C1, e1, e2, hH, hX1, hback⟩ := hs.toHRel.back hlen hnd hh (fun k hk => by
    have := List.all_eq_true.1 hlow k hk
    simp [Nat.blt] at this; omega)
  have hv1 : VRs w (XX C1.ex hp1 C1.ρ0) C1.ρ0 args argv := by
    rw [e2] at hX1 ⊢
    refine VRs_ren (mf m nx) _ (mf_rho (hs.fresh nx (Nat.le_refl _))) _ _ ?_
    rw [hargs]
    exact VRs.mono (Pres.refl (fun _ => False) w) (fun _ _ h => h.elim) (fun r _ h => hX1 r h) (fun _ _ h => h) _ _ hv
  refine (hc C1 w argv e1 hH hv1).mono ?_
  rintro e w' ⟨v, rfl, r, hp', nx', ρ', hq, hH', hv'⟩
  obtain ⟨ρ'', k1, k2, k3, k4⟩ := hback hp' nx' ρ' w' hH'
  refine hk v w' ρ'' _ _ _ ⟨r, hp', nx', hq, rfl, rfl, rfl⟩ { k1 with env := fun t av ht => ?_, size := hs.size, defers := hs.defers } (k3 _ _ hv') k2 k4
  obtain ⟨u, h1, h2⟩ := hs.env t av ht
  exact ⟨u, h1, k2 _ _ h2⟩

theorem OpE.run {o : Oper} {c : Call} {x : Operand} {f g : FuncId} {caps as args : List AV} {hp1 : Hp} {n1 : Nat} {Q : AV → Hp → Nat → Prop} (hc : RunC P g args hp1 n1 Q) (ho : o.op = .call c) (hcal : c.callee = .value x)
    (hx : evO env x = some (.func (.func f) [] caps)) (has : evL env c.args.toList = some as) (hcf : CallsTo P f g) (m : List Nat) (hargs : AV.rens (mf m nx) args = as ++ caps)
    (hlen : Nat.beq m.length n1 = true) (hnd : nodupB m = true) (hh : embH m nx hp hp1) (hlow : (m.all fun k => Nat.blt k nx) = true) :
    OpE P n n0 o env hp nx (fun av hp2 nx2 => ∃ r hp' nx', Q r hp' nx' ∧ av = r.ren (mg m nx) ∧ hp2 = backH m nx hp hp' ∧ nx2 = Nat.add nx (Nat.sub nx' n1)) :=
  (OpR.run hc ho hcal hx has hcf m hargs hlen hnd hh hlow).e

theorem OpE.mono {o : Oper} {R R' : AV → Hp → Nat → Prop} (h : OpE P n n0 o env hp nx R) (hR : ∀ av hp nx, R av hp nx → R' av hp nx) : OpE P n n0 o env hp nx R' :=
  fun C ρ w a hs Kr Q hk => h C ρ w a hs Kr Q fun v w' ρ' av hp' nx' hr => hk v w' ρ' av hp' nx' (hR _ _ _ hr)

theorem Wo_opE {ops : Array Oper} {o : Oper} {rest : List Oper} {d : Nat} {R : AV → Hp → Nat → Prop} (ho : OpE P n n0 o env hp nx R) (hw : wantA ops env o = some true)
    (hd : o.dst = some d) (hdn : Nat.blt d n = true) (h : ∀ av hp' nx', R av hp' nx' → Wo P n n0 ops rest K ((d, av) :: env) hp' nx') : Wo P n n0 ops (o :: rest) K env hp nx := by
  intro C ρ w a hs
  have hwant := wantA_sound hs hw
  simp only [wpList, hwant, if_true]
  refine .inl (ho C ρ w a hs _ _ fun v w' ρ' av hp' nx' hr hs' hv _ => ?_)
  rw [hd]
  exact h av hp' nx' hr C ρ' w' _ (hs'.put (by have := hdn; simp [Nat.blt] at this; omega) hv)
theorem Wo_opE0 {ops : Array Oper} {o : Oper} {rest : List Oper} {R : AV → Hp → Nat → Prop} (ho : OpE P n n0 o env hp nx R) (hw : wantA ops env o = some true)
    (hd : o.dst = none) (h : ∀ av hp' nx', R av hp' nx' → Wo P n n0 ops rest K env hp' nx') : Wo P n n0 ops (o :: rest) K env hp nx := by
  intro C ρ w a hs
  have hwant := wantA_sound hs hw
  simp only [wpList, hwant, if_true]
  refine .inl (ho C ρ w a hs _ _ fun v w' ρ' av hp' nx' hr hs' hv _ => ?_)
  rw [hd]
  exact h av hp' nx' hr C ρ' w' _ hs'

theorem c_opE {ops : Array Oper} {o : Oper} {l : List Oper} {d : Nat} {R : AV → Hp → Nat → Prop} (ho : OpE P n n0 o env hp nx R) (hw : wantA ops env o = some true)
    (hd : o.dst = some d) (hdn : Nat.blt d n = true) (h : ∀ av hp' nx', R av hp' nx' → Wc P n n0 K (.rg ops l s ((d, av) :: env) hp' nx')) : Wc P n n0 K (.rg ops (o :: l) s env hp nx) := Wo_opE ho hw hd hdn h
theorem c_opE0 {ops : Array Oper} {o : Oper} {l : List Oper} {R : AV → Hp → Nat → Prop} (ho : OpE P n n0 o env hp nx R) (hw : wantA ops env o = some true)
    (hd : o.dst = none) (h : ∀ av hp' nx', R av hp' nx' → Wc P n n0 K (.rg ops l s env hp' nx')) : Wc P n n0 K (.rg ops (o :: l) s env hp nx) := Wo_opE0 ho hw hd h

/-- The words of a contract that leaves nothing open. -/
def QE (r0 : AV) (hp0 : Hp) (nx0 : Nat) : AV → Hp → Nat → Prop := fun r h x => r = r0 ∧ h = hp0 ∧ x = nx0

theorem c_run {ops : Array Oper} {o : Oper} {l : List Oper} {c : Call} {x : Operand} {f g : FuncId} {caps as args : List AV} {hp1 hp2 : Hp} {n1 nx2 : Nat} {r0 r : AV} {hp' : Hp} {nx' : Nat} {d : Nat} (hc : RunC P g args hp1 n1 (QE r0 hp' nx')) (m : List Nat)
    (ho : o.op = .call c) (hcal : c.callee = .value x) (hx : evO env x = some (.func (.func f) [] caps)) (has : evL env c.args.toList = some as) (hcf : CallsTo P f g) (hargs : AV.rens (mf m nx) args = as ++ caps)
    (hlen : Nat.beq m.length n1 = true) (hnd : nodupB m = true) (hh : embH m nx hp hp1) (hlow : (m.all fun k => Nat.blt k nx) = true) (hw : wantA ops env o = some true)
    (hd : o.dst = some d) (hdn : Nat.blt d n = true) (hr : r0.ren (mg m nx) = r) (hb : backH m nx hp hp' = hp2) (hx2 : Nat.add nx (Nat.sub nx' n1) = nx2) (h : Wc P n n0 K (.rg ops l s ((d, r) :: env) hp2 nx2)) : Wc P n n0 K (.rg ops (o :: l) s env hp nx) := by
  refine c_opE (OpE.run hc ho hcal hx has hcf m hargs hlen hnd hh hlow) hw hd hdn ?_
  rintro av hp3 nx3 ⟨_, _, _, ⟨rfl, rfl, rfl⟩, rfl, rfl, rfl⟩
  rw [hr, hb, hx2]; exact h

/-- How a call ends, in its contract's words. -/
def kfinQ (T : Tab) (fn : Func) (n0 : Nat) (Q : AV → Hp → Nat → Prop) : Kont := fun e env hp nx =>
  match e with
  | .normal | .ret => ∃ r r0 hp0 nx0 m, resA T env hp fn.results.toList = some r ∧ Q r0 hp0 nx0 ∧ r = r0.ren (mf m nx) ∧ Emb m n0 nx0 [] hp0 env hp nx
  | _ => False

theorem RunC.mono {f : FuncId} {args : List AV} {Q Q' : AV → Hp → Nat → Prop} (h : RunC P f args hp n0 Q) (hq : ∀ r h x, Q r h x → Q' r h x) : RunC P f args hp n0 Q' := by
  intro C w argv hw hr hv
  refine (h C w argv hw hr hv).mono ?_
  rintro e w' ⟨v, rfl, r, hp', nx', ρ', hq', k⟩
  exact ⟨v, rfl, r, hp', nx', ρ', hq _ _ _ hq', k⟩

theorem RunC.of_c {T : Tab} (hT : TabOk P T) {f : FuncId} {fn : Func} {c : Code} {args : List AV} {Q : AV → Hp → Nat → Prop} (hf : P.funcs[f]? = some fn) (hb : fn.body = some c) {k : Nat} (hk : fn.ntmps = k) (hn : Nat.ble args.length k = true)
    (h : Wc P k n0 (kfinQ T fn n0 Q) (.st [.code c] (enumE 0 args) hp n0)) : RunC P f args hp n0 Q := by
  subst hk
  intro C w argv hw hr hv
  have h' : W P fn.ntmps n0 c (kfinQ T fn n0 Q) (enumE 0 args) hp n0 := W.mono h fun e env hp nx h => by cases e <;> simpa only [kOf, kseq] using h
  refine calls_of_wp hf hb (wp_mono (h' C C.ρ0 w _ (SRel.enter hr hv (by simpa using hn))) ?_)
  rintro e a w' ⟨env, hp, nx, ρ, hk, hs⟩
  cases e <;> simp only [kfinQ] at hk <;> simp only [bodyPost]
  all_goals
    obtain ⟨r, r0, hp0, nx0, m, h1, h2, rfl, he⟩ := hk
    obtain ⟨v, h3, h4⟩ := res_sound hT hs h1
    have h5 := hs.toHRel.emb he.len he.base he.nodup he.hp
    exact ⟨hs.defers, v, h3, v, rfl, r0, hp0, nx0, _, h2, h5.1, VR_ren _ _ (mf_rho (hs.fresh nx (Nat.le_refl _))) _ _ (VR.mono (Pres.refl (fun _ => False) w') (fun _ _ h => h.elim) (fun r _ h => h5.2 r h) (fun _ _ h => h) _ _ h4)⟩
end
end Go.Av
namespace Go.Av
open Go

/-- 0: looks at temporaries alone; 1: looks at memory; 2: makes a block; 3: writes. -/
def opK : Op → Nat
  | .move _ | .assign _ | .pick .. | .binOp .. | .unOp .. | .extract .. | .nilCheck _ | .makeInterface .. | .makeFunc .. | .convert .. | .fieldAddr .. | .field .. | .build .. => 0
  | .call c => match c.callee with | .builtin .len => 0 | _ => 9
  | .load .. => 1
  | .alloc _ | .box .. => 2
  | .store .. => 3
  | _ => 9

section
variable {P : Program} {n n0 : Nat} {env : Env} {hp : Hp} {nx : Nat} {K : Kont} {s : List Fr}

theorem stepA_pk {T : FTab} {o : Oper} {av : AV} {hp' : Hp} {nx' : Nat} (hk : opK o.op = 0) (h : stepA T o env hp nx = some (av, hp', nx')) :
    ∀ hp2 nx2, stepA T o env hp2 nx2 = some (av, hp2, nx2) := by
  intro hp2 nx2
  unfold stepA at h ⊢
  split at h
  all_goals (rename_i ho; first | (rw [ho] at hk; simp [opK] at hk; done) | (simp only [ho] at hk ⊢) | skip)
  all_goals (repeat' (split at h <;> try (cases h; done)))
  all_goals (try rw [forceL_eq] at h)
  all_goals (cases h)
  all_goals (simp only [*, forceL_eq])

theorem stepA_q {T : FTab} {o : Oper} {av : AV} {hp' : Hp} {nx' : Nat} (hk : opK o.op = 1) (h : stepA T o env hp nx = some (av, hp', nx')) :
    hp' = hp ∧ nx' = nx := by
  unfold stepA at h
  split at h
  all_goals (rename_i ho; first | (rw [ho] at hk; simp [opK] at hk; done) | skip)
  all_goals (repeat' (split at h <;> try (cases h; done)))
  all_goals (cases h)
  all_goals (exact ⟨rfl, rfl⟩)

theorem stepA_ld {T : FTab} {o : Oper} {av : AV} {hp' : Hp} {nx' : Nat} (hk : opK o.op = 1) (h : stepA T o env [] 0 = some (av, hp', nx')) :
    ∀ hp2 nx2, stepA T o env hp2 nx2 = some (av, hp2, nx2) := by
  intro hp2 nx2
  have hg : ∀ id, getB [] id = none := fun _ => rfl
  unfold stepA at h ⊢
  simp only [hg] at h
  split at h
  all_goals (rename_i ho; first | (rw [ho] at hk; simp [opK] at hk; done) | (simp only [ho] at hk ⊢) | skip)
  all_goals (repeat' (split at h <;> try (cases h; done)))
  all_goals (try cases h)
  all_goals (first | (simp only [*]; done) | (simp at *; done))

def stepAl (T : FTab) (o : Oper) (env : Env) : Option ((Nat → AV) × Blk) :=
  match o.op with
  | .alloc t => match T t with
    | some i => match autoT i.ti, Nat.beq i.ti.zero.cells.length i.ti.size with
      | true, true => some (fun A => .ptr A i.ti.size 0 0, .arr i.ti.size [i.ti.zero])
      | _, _ => none
    | none => none
  | .box t x => match T t, evO env x with
    | some i, some av => match autoT i.ti, Nat.beq av.cells.length i.ti.size, av.flatOk with
      | true, true, true => some (fun A => .ptr A i.ti.size 0 0, .arr i.ti.size [av])
      | _, _, _ => none
    | _, _ => none
  | _ => none

theorem stepAl_sound {T : FTab} (hT : FTabOk P T) {o : Oper} {mk : Nat → AV} {blk : Blk} (h : stepAl T o env = some (mk, blk)) : OpAl P n n0 o env hp nx mk blk := by
  unfold stepAl at h
  split at h
  · rename_i t ho
    split at h <;> try (cases h; done)
    rename_i i hi
    split at h <;> try (cases h; done)
    cases h
    exact al_alloc ho (hT _ _ hi).ok
  · rename_i t x ho
    split at h <;> try (cases h; done)
    rename_i i av' hi hx
    split at h <;> try (cases h; done)
    rename_i hau hz hf
    have hz := Nat.eq_of_beq_eq_true hz
    cases h
    rw [← hz]
    exact al_box ho hx hf
  · cases h

/-- What the program that walks says of one operation of a region whose order is open. -/
def stepF (T : FTab) (n : Nat) (ops : Array Oper) (nx0 N : Nat) (env0 : Env) (hp0 : Hp) (o : Oper) (m : Nat) (acc : List Rec) : Option Rec :=
  match (match o.dst with | some d => Nat.blt d n | none => true) with
  | false => none
  | true => match wantA ops (bnd (Nat.testBit m) 0 acc env0) o with
    | none => none
    | some false => some ⟨.off, o.dst, .tuple []⟩
    | some true => match opK o.op with
      | 0 => match stepA T o (bnd (Nat.testBit m) 0 acc env0) [] 0 with
        | some (.sb _, _, _) => none
        | some (av, _, _) => some ⟨.p, o.dst, av⟩
        | none => none
      | 1 => match stepA T o (bnd (Nat.testBit m) 0 acc env0) [] 0 with
        | some (.sb _, _, _) => none
        | some (av, _, _) => some ⟨.p, o.dst, av⟩
        | none => match allB (fun r => !isEf r.kd) m 0 acc with
        | false => none
        | true => match stepA T o (bnd (Nat.testBit m) 0 acc env0) (hpB (Nat.testBit m) nx0 0 acc hp0) (nxB (fun _ => true) 0 acc (Nat.add nx0 N)) with
          | some (.sb _, _, _) => none
          | some (av, _, _) => some ⟨.q, o.dst, av⟩
          | none => none
      | 2 => match acc.all (fun r => !isEf r.kd) with
        | false => none
        | true => match stepAl T o (bnd (Nat.testBit m) 0 acc env0) with
          | some (mk, blk) => some ⟨.al mk blk, o.dst, mk (Nat.add nx0 acc.length)⟩
          | none => none
      | 3 => match allB (fun r => isP r.kd) m 0 acc with
        | false => none
        | true => match stepA T o (bnd (Nat.testBit m) 0 acc env0) (hpB (fun _ => true) nx0 0 acc hp0) (nxB (fun _ => true) 0 acc (Nat.add nx0 N)) with
          | some (av, hp', nx') => some ⟨.ef hp' nx', o.dst, av⟩
          | none => none
      | _ => none

theorem stepF_sound {T : FTab} (hT : FTabOk P T) {ops : Array Oper} {nx0 N : Nat} {env0 : Env} {hp0 : Hp} {o : Oper} {m : Nat} {acc : List Rec} {r : Rec} (h : stepF T n ops nx0 N env0 hp0 o m acc = some r) :
    FactK P n n0 ops nx0 N env0 hp0 acc m o r := by
  unfold stepF at h
  split at h
  · cases h
  · rename_i hd
    split at h
    · cases h
    · rename_i hw; cases h; exact ⟨rfl, hd, hw, rfl⟩
    · rename_i hw
      split at h
      · rename_i hk
        split at h <;> try (cases h; done)
        rename_i av _ _ _ hs
        cases h
        exact ⟨rfl, hd, hw, fun hp nx => (stepA_sound hT (stepA_pk hk hs hp nx)).q⟩
      · rename_i hk
        split at h <;> try (cases h; done)
        · rename_i av _ _ _ hs
          cases h
          exact ⟨rfl, hd, hw, fun hp nx => (stepA_sound hT (stepA_ld hk hs hp nx)).q⟩
        split at h <;> try (cases h; done)
        rename_i ha
        split at h <;> try (cases h; done)
        rename_i av hp' nx' _ hs
        cases h
        obtain ⟨rfl, rfl⟩ := stepA_q hk hs
        exact ⟨rfl, hd, hw, ha, (stepA_sound hT hs).q⟩
      · rename_i hk
        split at h <;> try (cases h; done)
        rename_i ha
        split at h <;> try (cases h; done)
        rename_i mk blk hs
        cases h
        exact ⟨rfl, hd, hw, ha, rfl, fun hp nx => stepAl_sound hT hs⟩
      · rename_i hk
        split at h <;> try (cases h; done)
        rename_i ha
        split at h <;> try (cases h; done)
        rename_i av hp' nx' hs
        cases h
        exact ⟨rfl, hd, hw, ha, (stepA_sound hT hs).e⟩
      · cases h

def forceM {β : Type} : List Nat → (List Nat → β) → β
  | [], k => k []
  | x :: l, k => forceM l fun l => k (x :: l)
theorem forceM_eq {β : Type} : ∀ (l : List Nat) (k : List Nat → β), forceM l k = k l
  | [], k => rfl
  | x :: l, k => by rw [forceM, forceM_eq l]
def forceR {β : Type} : List Rec → (List Rec → β) → β
  | [], k => k []
  | x :: l, k => forceR l fun l => k (x :: l)
theorem forceR_eq {β : Type} : ∀ (l : List Rec) (k : List Rec → β), forceR l k = k l
  | [], k => rfl
  | x :: l, k => by rw [forceR, forceR_eq l]

inductive DCfg where
  | mk (l : List Oper) (ms : List Nat) (acc : List Rec)
  | no

/-- As far as it goes by itself. -/
def runF (T : FTab) (n : Nat) (ops : Array Oper) (nx0 N : Nat) (E : Nat → Env) (hp0 : Hp) : List Oper → List Nat → List Rec → DCfg
  | [], ms, acc => .mk [] ms acc
  | o :: l, ms, acc => forceN (maskOf ms o) fun m => match (forceN ms.length fun i => stepF T n ops nx0 N (E i) hp0 o m acc) with
    | some r => forceM (ms ++ [m]) fun ms => forceR (acc ++ [r]) fun acc => runF T n ops nx0 N E hp0 l ms acc
    | none => .mk (o :: l) ms acc

theorem runF_sound {T : FTab} (hT : FTabOk P T) {ops : Array Oper} {nx0 N : Nat} {E : Nat → Env} {hp0 : Hp} {fin : List Rec → Prop} : ∀ {l : List Oper} {ms : List Nat} {acc : List Rec} {l' : List Oper} {ms' : List Nat} {acc' : List Rec}, runF T n ops nx0 N E hp0 l ms acc = .mk l' ms' acc' →
    Facts P n n0 ops nx0 N E hp0 fin l' ms' acc' → Facts P n n0 ops nx0 N E hp0 fin l ms acc
  | [], ms, acc, _, _, _, h, hF => by cases h; exact hF
  | o :: l, ms, acc, _, _, _, h, hF => by
    rw [runF, forceN_eq, forceN_eq] at h
    split at h
    · rename_i r hr
      rw [forceM_eq, forceR_eq] at h
      exact ⟨r, stepF_sound hT hr, runF_sound hT h hF⟩
    · cases h; exact hF

variable {ops : Array Oper} {nx0 N : Nat} {E : Nat → Env} {hp0 : Hp} {fin : List Rec → Prop} {l : List Oper} {ms : List Nat} {acc : List Rec} {o : Oper}

theorem f_go {T : FTab} (hT : FTabOk P T) {l' : List Oper} {ms' : List Nat} {acc' : List Rec} (h : runF T n ops nx0 N E hp0 l ms acc = .mk l' ms' acc') (hF : Facts P n n0 ops nx0 N E hp0 fin l' ms' acc') : Facts P n n0 ops nx0 N E hp0 fin l ms acc :=
  runF_sound hT h hF
theorem f_end (h : fin acc) : Facts P n n0 ops nx0 N E hp0 fin [] ms acc := h

/-- The mask is known from here. -/
theorem f_step {m : Nat} (hm : maskOf ms o = m) {r : Rec} (hr : FactK P n n0 ops nx0 N (E ms.length) hp0 acc m o r) {ms' : List Nat} {acc' : List Rec} (e1 : ms ++ [m] = ms') (e2 : acc ++ [r] = acc') (hF : Facts P n n0 ops nx0 N E hp0 fin l ms' acc') :
    Facts P n n0 ops nx0 N E hp0 fin (o :: l) ms acc := by subst hm; subst e1; subst e2; exact ⟨r, hr, hF⟩

theorem OpQ.say {av av' : AV} (h : OpQ P n n0 o env hp nx av) (hv : ∀ w X ρ v, VR w X ρ av v → VR w X ρ av' v) : OpQ P n n0 o env hp nx av' :=
  fun C ρ w a hs Kr Q hk => h C ρ w a hs Kr Q fun v w' hp hv' => hk v w' hp (hv _ _ _ _ hv')

/-- An operation of the first kind whose answer is a test: its two ways, or none. -/
theorem f_case {T : FTab} (hT : FTabOk P T) {m : Nat} (hm : maskOf ms o = m) {b : Bool} (hd : (match o.dst with | some d => Nat.blt d n | none => true) = true) (hw : wantA ops (bnd (Nat.testBit m) 0 acc (E ms.length)) o = some true) (hk : opK o.op = 0)
    (hs : stepA T o (bnd (Nat.testBit m) 0 acc (E ms.length)) [] 0 = some (.sb b, [], 0)) (ht : b = true → Facts P n n0 ops nx0 N E hp0 fin l (ms ++ [m]) (acc ++ [⟨.p, o.dst, .bool true⟩])) (hf : b = false → Facts P n n0 ops nx0 N E hp0 fin l (ms ++ [m]) (acc ++ [⟨.p, o.dst, .bool false⟩])) :
    Facts P n n0 ops nx0 N E hp0 fin (o :: l) ms acc := by
  have key : ∀ hp nx, OpQ P n n0 o (bnd (Nat.testBit m) 0 acc (E ms.length)) hp nx (.sb b) := fun hp nx => (stepA_sound hT (stepA_pk hk hs hp nx)).q
  cases hb : b
  · exact f_step hm (r := ⟨.p, o.dst, .bool false⟩) ⟨rfl, hd, hw, fun hp nx => (key hp nx).say fun w X ρ v h => by simpa only [VR, hb] using h⟩ rfl rfl (hf hb)
  · exact f_step hm (r := ⟨.p, o.dst, .bool true⟩) ⟨rfl, hd, hw, fun hp nx => (key hp nx).say fun w X ρ v h => by simpa only [VR, hb] using h⟩ rfl rfl (ht hb)
theorem f_test {T : FTab} (hT : FTabOk P T) {m : Nat} (hm : maskOf ms o = m) {b : Bool} (hd : (match o.dst with | some d => Nat.blt d n | none => true) = true) (hw : wantA ops (bnd (Nat.testBit m) 0 acc (E ms.length)) o = some true) (hk : opK o.op = 0)
    (hs : stepA T o (bnd (Nat.testBit m) 0 acc (E ms.length)) [] 0 = some (.sb b, [], 0)) (h : Facts P n n0 ops nx0 N E hp0 fin l (ms ++ [m]) (acc ++ [⟨.p, o.dst, .sb b⟩])) :
    Facts P n n0 ops nx0 N E hp0 fin (o :: l) ms acc :=
  f_step hm (r := ⟨.p, o.dst, .sb b⟩) ⟨rfl, hd, hw, fun hp nx => (stepA_sound hT (stepA_pk hk hs hp nx)).q⟩ rfl rfl h

/-- Any operation that leaves memory alone; the caller says what it says. -/
theorem f_op {av : AV} (ho : OpS P n n0 o (bnd (Nat.testBit (maskOf ms o)) 0 acc (E ms.length)) (hpB (Nat.testBit (maskOf ms o)) nx0 0 acc hp0) (nxB (fun _ => true) 0 acc (Nat.add nx0 N)) av
      (hpB (Nat.testBit (maskOf ms o)) nx0 0 acc hp0) (nxB (fun _ => true) 0 acc (Nat.add nx0 N))) (hd : (match o.dst with | some d => Nat.blt d n | none => true) = true) (hw : wantA ops (bnd (Nat.testBit (maskOf ms o)) 0 acc (E ms.length)) o = some true)
    (ha : allB (fun r => !isEf r.kd) (maskOf ms o) 0 acc = true) (h : Facts P n n0 ops nx0 N E hp0 fin l (ms ++ [maskOf ms o]) (acc ++ [⟨.q, o.dst, av⟩])) : Facts P n n0 ops nx0 N E hp0 fin (o :: l) ms acc :=
  f_step rfl (r := ⟨.q, o.dst, av⟩) ⟨rfl, hd, hw, ha, ho.q⟩ rfl rfl h
theorem f_opP {av : AV} (ho : ∀ hp nx, OpS P n n0 o (bnd (Nat.testBit (maskOf ms o)) 0 acc (E ms.length)) hp nx av hp nx) (hd : (match o.dst with | some d => Nat.blt d n | none => true) = true) (hw : wantA ops (bnd (Nat.testBit (maskOf ms o)) 0 acc (E ms.length)) o = some true)
    (h : Facts P n n0 ops nx0 N E hp0 fin l (ms ++ [maskOf ms o]) (acc ++ [⟨.p, o.dst, av⟩])) : Facts P n n0 ops nx0 N E hp0 fin (o :: l) ms acc :=
  f_step rfl (r := ⟨.p, o.dst, av⟩) ⟨rfl, hd, hw, fun hp nx => (ho hp nx).q⟩ rfl rfl h
theorem f_ef {av : AV} {hp' : Hp} {nx' : Nat} (ho : OpE P n n0 o (bnd (Nat.testBit (maskOf ms o)) 0 acc (E ms.length)) (hpB (fun _ => true) nx0 0 acc hp0) (nxB (fun _ => true) 0 acc (Nat.add nx0 N)) (fun a h x => a = av ∧ h = hp' ∧ x = nx'))
    (hd : (match o.dst with | some d => Nat.blt d n | none => true) = true) (hw : wantA ops (bnd (Nat.testBit (maskOf ms o)) 0 acc (E ms.length)) o = some true) (ha : allB (fun r => isP r.kd) (maskOf ms o) 0 acc = true)
    (h : Facts P n n0 ops nx0 N E hp0 fin l (ms ++ [maskOf ms o]) (acc ++ [⟨.ef hp' nx', o.dst, av⟩])) : Facts P n n0 ops nx0 N E hp0 fin (o :: l) ms acc :=
  f_step rfl (r := ⟨.ef hp' nx', o.dst, av⟩) ⟨rfl, hd, hw, ha, ho⟩ rfl rfl h
theorem f_call {c : Call} {x : Operand} {f g : FuncId} {caps as : List AV} {r : AV} (hc : PureC P g (as ++ caps) r) (ho : o.op = .call c) (hcal : c.callee = .value x)
    (hx : evO (bnd (Nat.testBit (maskOf ms o)) 0 acc (E ms.length)) x = some (.func (.func f) [] caps)) (has : evL (bnd (Nat.testBit (maskOf ms o)) 0 acc (E ms.length)) c.args.toList = some as) (hcf : CallsTo P f g) (hnid : AV.nids (as ++ caps) = true)
    (hd : (match o.dst with | some d => Nat.blt d n | none => true) = true) (hw : wantA ops (bnd (Nat.testBit (maskOf ms o)) 0 acc (E ms.length)) o = some true)
    (h : Facts P n n0 ops nx0 N E hp0 fin l (ms ++ [maskOf ms o]) (acc ++ [⟨.p, o.dst, r⟩])) : Facts P n n0 ops nx0 N E hp0 fin (o :: l) ms acc :=
  f_step rfl (r := ⟨.p, o.dst, r⟩) ⟨rfl, hd, hw, fun _ _ => OpQ.call hc ho hcal hx has hcf hnid⟩ rfl rfl h
theorem f_callB {c : Call} {x : Operand} {f g : FuncId} {caps as : List AV} {b : Bool} (hc : PureC P g (as ++ caps) (.sb b)) (ho : o.op = .call c) (hcal : c.callee = .value x)
    (hx : evO (bnd (Nat.testBit (maskOf ms o)) 0 acc (E ms.length)) x = some (.func (.func f) [] caps)) (has : evL (bnd (Nat.testBit (maskOf ms o)) 0 acc (E ms.length)) c.args.toList = some as) (hcf : CallsTo P f g) (hnid : AV.nids (as ++ caps) = true)
    (hd : (match o.dst with | some d => Nat.blt d n | none => true) = true) (hw : wantA ops (bnd (Nat.testBit (maskOf ms o)) 0 acc (E ms.length)) o = some true)
    (ht : b = true → Facts P n n0 ops nx0 N E hp0 fin l (ms ++ [maskOf ms o]) (acc ++ [⟨.p, o.dst, .bool true⟩])) (hf : b = false → Facts P n n0 ops nx0 N E hp0 fin l (ms ++ [maskOf ms o]) (acc ++ [⟨.p, o.dst, .bool false⟩])) : Facts P n n0 ops nx0 N E hp0 fin (o :: l) ms acc := by
  cases hb : b
  · exact f_step rfl (r := ⟨.p, o.dst, .bool false⟩) ⟨rfl, hd, hw, fun hp nx => (OpQ.call hc ho hcal hx has hcf hnid).say fun w X ρ v h => by simpa only [VR, hb] using h⟩ rfl rfl (hf hb)
  · exact f_step rfl (r := ⟨.p, o.dst, .bool true⟩) ⟨rfl, hd, hw, fun hp nx => (OpQ.call hc ho hcal hx has hcf hnid).say fun w X ρ v h => by simpa only [VR, hb] using h⟩ rfl rfl (ht hb)

/-- A region whose order is open, begun. -/
theorem c_dgo {T : FTab} (hT : FTabOk P T) (hm : P.follows .mixedOrders = true) {id : Nat} {ops : Array Oper} {l : List Oper} (hl : ops.toList = l) (hed : edgesB 0 l = true) (hdst : nodupB (dstsOf l) = true)
    {l' : List Oper} {ms' : List Nat} {acc' : List Rec} (h : runF T n ops nx l.length (fun i => stripK (dstsOf l) l i env) hp l [] [] = .mk l' ms' acc')
    (hF : Facts P n n0 ops nx l.length (fun i => stripK (dstsOf l) l i env) hp (fun R => Wc P n n0 K (.st s (bnd (fun _ => true) 0 R (strip (dstsOf l) env)) (hpB (fun _ => true) nx 0 R hp) (nxB (fun _ => true) 0 R (Nat.add nx l.length)))) l' ms' acc') :
    Wc P n n0 K (.st (.code (.region id ops true) :: s) env hp nx) :=
  c_draw hm (by rw [← hl]) hed hdst (f_go hT h hF)
end
end Go.Av
namespace Go.Av
open Go

section
variable {P : Program} {n n0 : Nat} {env : Env} {hp : Hp} {nx : Nat} {K : Kont} {s : List Fr}

/-- Elements k, k+1, .. written anew. -/
def fillE (els : List AV) (k : Nat) (l2 : List AV) : List AV := els.take k ++ l2 ++ els.drop (k + l2.length)

theorem flat_fill {sz : Nat} {evs evs2 : List Value} (h : ∀ ev ∈ evs, ev.cells.size = sz) (h2 : ∀ ev ∈ evs2, ev.cells.size = sz) {k : Nat} (hk : k + evs2.length ≤ evs.length) (m : Nat) :
    (flat (evs.take k ++ evs2 ++ evs.drop (k + evs2.length)))[m]? = if k * sz ≤ m ∧ m < (k + evs2.length) * sz then (flat evs2)[m - k * sz]? else (flat evs)[m]? := by
  have e2 : evs = evs.take k ++ ((evs.drop k).take evs2.length ++ evs.drop (k + evs2.length)) := by
    rw [← List.drop_drop, List.take_append_drop, List.take_append_drop]
  have lt : (flat (evs.take k)).length = k * sz := by
    rw [flat_length (sz := sz) (fun e he => h e (List.mem_of_mem_take he))]; simp; rw [Nat.min_eq_left (by omega)]
  have lm : (flat ((evs.drop k).take evs2.length)).length = evs2.length * sz := by
    rw [flat_length (sz := sz) (fun e he => h e (List.mem_of_mem_drop (List.mem_of_mem_take he)))]; simp; rw [Nat.min_eq_left (by omega)]
  have l2 : (flat evs2).length = evs2.length * sz := flat_length h2
  conv => rhs; rw [e2]
  rw [flat_append, flat_append, flat_append, flat_append, List.append_assoc]
  have e3 : (k + evs2.length) * sz = k * sz + evs2.length * sz := Nat.add_mul _ _ _
  by_cases k1 : m < k * sz
  · rw [if_neg (by omega), List.getElem?_append_left (by omega), List.getElem?_append_left (by omega)]
  · rw [List.getElem?_append_right (by omega), lt]
    by_cases k2 : m < (k + evs2.length) * sz
    · rw [if_pos ⟨by omega, k2⟩, List.getElem?_append_left (by omega)]
    · rw [if_neg (by omega), List.getElem?_append_right (by omega), List.getElem?_append_right (by omega), List.getElem?_append_right (by omega), lt, l2, lm]

theorem SRel.fill {C ρ w a} (hs : SRel C n n0 env hp nx ρ w a) {id sz els k l2 evs2 b base} (hb : getB hp id = some (.arr sz els)) (g1 : ρ id = some (some (b, base))) (hv : VRs w (XX C.ex hp ρ) ρ l2 evs2) (h2z : ∀ ev ∈ evs2, ev.cells.size = sz)
    (h2o : ∀ x ∈ flat evs2, x.oneCell' = true) (hk : k + l2.length ≤ els.length) :
    SRel C n n0 env ((id, .arr sz (fillE els k l2)) :: hp) nx ρ (w.setCells b (base + k * sz) (flat evs2)) a ∧
      (∀ x u, VR w (XX C.ex hp ρ) ρ x u → VR (w.setCells b (base + k * sz) (flat evs2)) (XX C.ex ((id, .arr sz (fillE els k l2)) :: hp) ρ) ρ x u) ∧
      (storeCells ⟨b, base + k * sz, none⟩ (flat evs2)).run P w = .ok () (w.setCells b (base + k * sz) (flat evs2)) := by
  obtain ⟨p, hp1, hbr⟩ := hs.blk id _ hb
  rw [g1] at hp1; cases hp1
  obtain ⟨c, T, fz, evs, h1, h2, h3, h4, h5, h6⟩ := hbr
  have hl := h3.length
  have hl2 := hv.length
  have hfl : (flat evs).length = evs.length * sz := flat_length h4
  have hfl2 : (flat evs2).length = l2.length * sz := by rw [flat_length h2z, hl2]
  have hm2 : (k + l2.length) * sz ≤ evs.length * sz := Nat.mul_le_mul_right _ (by omega)
  rw [Nat.add_mul] at hm2
  have hsz : base + evs.length * sz ≤ c.size ∨ evs.length * sz = 0 := by
    rcases Nat.eq_zero_or_pos (evs.length * sz) with h0 | h0
    · exact .inr h0
    · have hlast := h5 (evs.length * sz - 1) _ (List.getElem?_eq_getElem (by omega))
      have := (Array.getElem?_eq_some_iff.1 hlast).1
      exact .inl (by omega)
  have hb0 : b < w.heap.size := (Array.getElem?_eq_some_iff.1 h1).1
  have hown : Owned hp ρ b := ⟨id, _, base, hb, g1⟩
  have hxx : ∀ (r : Nat), XX C.ex ((id, .arr sz (fillE els k l2)) :: hp) ρ r → XX C.ex hp ρ r := by
    rintro r (h | ⟨id', b', base', g2, g3⟩)
    · exact .inl h
    · by_cases ee : id = id'
      · subst ee; exact .inr ⟨id, _, base', hb, g3⟩
      · rw [getB_cons, if_neg ee] at g2; exact .inr ⟨id', b', base', g2, g3⟩
  -- what is in the cells afterwards
  have hcells : ∃ c', (w.setCells b (base + k * sz) (flat evs2)).heap[b]? = some (.cells c' T fz) ∧ c'.size = c.size ∧ (∀ j, c'[j]? = if base + k * sz ≤ j ∧ j < base + k * sz + (flat evs2).length then (flat evs2)[j - (base + k * sz)]? else c[j]?) ∧
      (w.setCells b (base + k * sz) (flat evs2)).heap.size = w.heap.size ∧ Pres (fun r => r = b) w (w.setCells b (base + k * sz) (flat evs2)) := by
    rcases hsz with hsz | hsz
    · have hbound : base + k * sz + (flat evs2).length ≤ c.size := by rw [hfl2]; omega
      obtain ⟨c', s1, s2, s3, s4, s5, s6, s7, s8⟩ := setCells_spec b (flat evs2) (base + k * sz) w c T fz h1 hbound
      exact ⟨c', s1, s2, s3, s5, setCells_pres h1 hbound⟩
    · have : flat evs2 = [] := List.eq_nil_of_length_eq_zero (by rw [hfl2]; omega)
      rw [this]
      exact ⟨c, h1, rfl, fun j => by rw [if_neg (by simp only [List.length_nil]; omega)], rfl, Pres.refl _ _⟩
  obtain ⟨c', s1, s2, s3, s5, hP⟩ := hcells
  have hch := hs.change (fun r => r = b) hP (fun r _ hr => hr ▸ hown) (fun _ _ h => h) (fun _ _ => rfl) (Nat.le_refl _) hs.fresh (hp' := (id, .arr sz (fillE els k l2)) :: hp)
    (fun id' b' hb' => by
      by_cases ee : id = id'
      · subst ee
        rw [getB_cons, if_pos rfl] at hb'
        simp only [live, Option.some.injEq] at hb'
        subst hb'
        refine .inr ⟨_, g1, ⟨c', T, fz, evs.take k ++ evs2 ++ evs.drop (k + evs2.length), s1, fun o ho' => h2 o (by omega), ?_, ?_, ?_, ?_⟩, fun r base' he => by cases he; exact ⟨.inl hown, by rw [s5]; exact hb0⟩⟩
        · have q : ∀ (l : List AV) (vs : List Value), VRs w (XX C.ex hp ρ) ρ l vs → VRs (w.setCells b (base + k * sz) (flat evs2)) (XX C.ex ((id, .arr sz (fillE els k l2)) :: hp) ρ) ρ l vs :=
            VRs.mono hP (fun r _ hr => .inr (by subst hr; exact hown)) (fun r _ h => hxx r h) (fun _ _ h => h)
          refine q _ _ ?_
          unfold fillE
          rw [← hl2]
          exact ((h3.take k).append hv).append (h3.drop _)
        · intro e he
          simp only [List.mem_append] at he
          rcases he with (h | h) | h
          · exact h4 e (List.mem_of_mem_take h)
          · exact h2z e h
          · exact h4 e (List.mem_of_mem_drop h)
        · intro m v hmv
          rw [flat_fill h4 h2z (by omega) m] at hmv
          rw [s3, hfl2]
          rw [hl2, Nat.add_mul] at hmv
          split at hmv
          · rw [if_pos (by omega), show base + m - (base + k * sz) = m - k * sz from by omega]; exact hmv
          · rw [if_neg (by omega)]; exact h5 m v hmv
        · intro v hv'
          rw [flat_append, flat_append] at hv'
          simp only [List.mem_append] at hv'
          rcases hv' with (h | h) | h
          · simp only [flat, List.mem_flatMap] at h; obtain ⟨e, he, hx⟩ := h; exact h6 v (mem_flat (List.mem_of_mem_take he) hx)
          · exact h2o v h
          · simp only [flat, List.mem_flatMap] at h; obtain ⟨e, he, hx⟩ := h; exact h6 v (mem_flat (List.mem_of_mem_drop he) hx)
      · rw [getB_cons, if_neg ee] at hb'
        exact .inl ⟨hb', fun r base' hr he => ee (by subst he; exact hs.inj id id' _ b' r base base' hb hb' g1 hr)⟩)
    (fun id1 id2 b1 b2 r base1 base2 q1 q2 q3 q4 => by
      have hin : ∀ i bb, getB ((id, .arr sz (fillE els k l2)) :: hp) i = some bb → ∃ bb', getB hp i = some bb' := fun i bb hi => by
        by_cases ee : id = i
        · subst ee; exact ⟨_, hb⟩
        · rw [getB_cons, if_neg ee] at hi; exact ⟨bb, hi⟩
      obtain ⟨_, q1⟩ := hin _ _ q1
      obtain ⟨_, q2⟩ := hin _ _ q2
      exact hs.inj id1 id2 _ _ r base1 base2 q1 q2 q3 q4)
  refine ⟨hch.1, hch.2.2, ?_⟩
  rw [run_storeCells_cells b (base + k * sz) (flat evs2) 0 w (fun j hj => by
      rw [Nat.add_zero, cell_eq h1]
      rw [Array.getElem?_eq_getElem (by omega)]; rfl)
    (fun j hj => by
      rw [Nat.add_zero, frozen_eq h1]
      have := h2 (base + k * sz + j) (by omega)
      simp only [Bool.and_eq_false_iff, decide_eq_false_iff_not]
      omega) h2o]
  simp

theorem op_copy {o : Oper} {x y t t2 c e sz id off len els l2 av} {i j : TI} (ho : o.op = .call c) (hc : c.callee = .builtin .copy) (ha : c.args.toList = [x, y]) (hat : c.argTypes.toList = [t, t2])
    (hT : TOk P t i) (hd : i.desc = .slice e) (hj : TOk P e j) (hz : Nat.beq j.size sz = true)
    (hx : evO env x = some (.ref sz id off len)) (hb : getB hp id = some (.arr sz els)) (hend : off + len ≤ els.length) (hy : evO env y = some av) (hr : rdA hp sz av = some l2) (hpos : 0 < len) {k : Nat} (hk : min l2.length len = k) :
    OpS P n n0 o env hp nx (.int .i64 k) ((id, .arr sz (fillE els off (l2.take k))) :: hp) nx := by
  intro C ρ w a hs
  have hz := Nat.eq_of_beq_eq_true hz
  have e1 := evO_sound hs hx
  have e2 := evO_sound hs hy
  obtain ⟨evs2, r1, r2, r3, r4, r5⟩ := run_firstCells (P := P) hs.toHRel hr e2
  simp only [VR] at e1
  obtain ⟨p, ad, cap, g1, e1, g2, gsp, g3⟩ := e1
  obtain ⟨b, base, rfl, rfl, T, nn, g4, g5⟩ := g3 (by omega)
  have hkl : k ≤ l2.length := by omega
  have hl2 := r1.length
  have hf := hs.fill (P := P) (k := off) hb g1 (r1.take k) (fun ev he => r2 ev (List.mem_of_mem_take he)) (fun x hx => by
    simp only [flat, List.mem_flatMap] at hx
    obtain ⟨ev, he, hx⟩ := hx
    exact r3 x (mem_flat (List.mem_of_mem_take he) hx)) (by simp; omega)
  have ha' : c.args = #[x, y] := by rw [← ha]
  have hat' : c.argTypes = #[t, t2] := by rw [← hat]
  refine ⟨.int .i64 k, _, ρ, .inl ?_, hf.1, by simp only [VR], fun h => absurd h (by simp), hf.2.1⟩
  simp only [execOp, ho, resolve, hc, ha', hat', Sem.run_bind, Sem.run_pure, Result.andThen_ok, invoke, builtin]
  simp only [List.map_toArray, List.map_cons, List.map_nil, e1]
  unfold Builtin.copy_
  have h5 := r5 k w hkl (fun _ => rfl)
  have hmin : l2.length.min len = k := hk
  simp only [List.getElem?_toArray, List.getElem?_cons_zero, List.getElem?_cons_succ, Sem.run_bind, hT.run_und, hd, Result.andThen_ok, hj.run_size, hz, r4, hmin, h5, hf.2.2, Sem.run_pure]
  simp [goInt]

theorem flat_replicate (z : Value) : ∀ k, flat (List.replicate k z) = (List.replicate k z.cells.toList).flatten
  | 0 => rfl
  | k + 1 => by rw [List.replicate_succ, flat_cons, flat_replicate z k]; rfl

theorem zeroCells_flat (z : Value) (k : Nat) : (Builtin.zeroCells z.cells k).toList = flat (List.replicate k z) := by
  apply List.ext_getElem?
  intro m
  have hsz : ∀ ev ∈ List.replicate k z, ev.cells.size = z.cells.size := fun ev he => by rw [(List.mem_replicate.1 he).2]
  have hl : (flat (List.replicate k z)).length = k * z.cells.size := by rw [flat_length hsz]; simp
  by_cases h : m < k * z.cells.size
  · have hpos : 0 < z.cells.size := by
      rcases Nat.eq_zero_or_pos z.cells.size with h0 | h0
      · rw [h0] at h; simp at h
      · exact h0
    have hq : m / z.cells.size < k := Nat.div_lt_of_lt_mul (by rw [Nat.mul_comm]; exact h)
    have := flat_get hsz (i := m / z.cells.size) (ev := z) (by simp [hq]) (k := m % z.cells.size) (Nat.mod_lt _ hpos)
    rw [Nat.mul_comm, Nat.div_add_mod] at this
    rw [this]
    have hlt : m % z.cells.size < z.cells.size := Nat.mod_lt _ hpos
    simp [Builtin.zeroCells, h]
    rw [Array.getElem?_eq_getElem hlt, getElem!_pos z.cells _ hlt]
  · rw [List.getElem?_eq_none (by simp [Builtin.zeroCells]; omega), List.getElem?_eq_none (by rw [hl]; omega)]

theorem VRs_replicate {w X ρ} {a : AV} {v : Value} (h : VR w X ρ a v) : ∀ k, VRs w X ρ (List.replicate k a) (List.replicate k v)
  | 0 => by simp [VRs]
  | k + 1 => by simp only [List.replicate_succ, VRs]; exact ⟨v, _, rfl, h, VRs_replicate h k⟩

theorem op_clear {o : Oper} {x t c e sz id off len els} {i j : TI} (ho : o.op = .call c) (hc : c.callee = .builtin .clear) (ha : c.args.toList = [x]) (hat : c.argTypes.toList = [t])
    (hT : TOk P t i) (hd : i.desc = .slice e) (hj : TOk P e j) (hz : Nat.beq j.size sz = true)
    (hx : evO env x = some (.ref sz id off len)) (hb : getB hp id = some (.arr sz els)) (hend : off + len ≤ els.length) (hpos : 0 < len) :
    OpS P n n0 o env hp nx (.tuple []) ((id, .arr sz (fillE els off (List.replicate len j.zero))) :: hp) nx := by
  intro C ρ w a hs
  have hz := Nat.eq_of_beq_eq_true hz
  have e1 := evO_sound hs hx
  simp only [VR] at e1
  obtain ⟨p, ad, cap, g1, e1, g2, gsp, g3⟩ := e1
  obtain ⟨b, base, rfl, rfl, T, nn, g4, g5⟩ := g3 (by omega)
  obtain ⟨z, z1, z2, z3, z4⟩ := hj.run_zero w
  have hf := hs.fill (P := P) (k := off) hb g1 (VRs_replicate (VR_none (z4 w _)) len) (fun ev he => by rw [(List.mem_replicate.1 he).2, z2, hz]) (fun x hx => by
    simp only [flat, List.mem_flatMap] at hx
    obtain ⟨ev, he, hx⟩ := hx
    rw [(List.mem_replicate.1 he).2] at hx
    exact z3 x hx) (by simp; omega)
  have ha' : c.args = #[x] := by rw [← ha]
  have hat' : c.argTypes = #[t] := by rw [← hat]
  refine ⟨.tuple #[], _, ρ, .inl ?_, hf.1, by simp only [VR]; exact ⟨#[], rfl, by simp [VRs]⟩, fun h => absurd h (by simp), hf.2.1⟩
  simp only [execOp, ho, resolve, hc, ha', hat', Sem.run_bind, Sem.run_pure, Result.andThen_ok, invoke, builtin]
  simp only [List.map_toArray, List.map_cons, List.map_nil, e1]
  unfold Builtin.clear_
  obtain ⟨len', rfl⟩ : ∃ l, len = l + 1 := ⟨len - 1, by omega⟩
  simp only [List.getElem?_toArray, List.getElem?_cons_zero, Sem.run_bind, hT.run_und, hd, Result.andThen_ok, z1, zeroCells_flat, hf.2.2, Sem.run_pure]

theorem op_cap {o : Oper} {x t c e sz id off len cap} {i : TI} (ho : o.op = .call c) (hc : c.callee = .builtin .cap) (ha : c.args.toList = [x]) (hat : c.argTypes.toList = [t]) (hT : TOk P t i) (hd : i.desc = .slice e)
    (hx : evO env x = some (.refc sz id off len cap)) : OpS P n n0 o env hp nx (.int .i64 cap) hp nx :=
  .pure fun C ρ w st hs => by
    have e1 := evO_sound hs hx
    simp only [VR] at e1
    obtain ⟨p, ad, g1, e1, g2, gsp, g3⟩ := e1
    have h1 : c.args = #[x] := by rw [← ha]
    have h2 : c.argTypes = #[t] := by rw [← hat]
    refine ⟨_, ?_, by simp only [VR]; rfl⟩
    simp only [execOp, ho, resolve, hc, h1, h2, Sem.run_bind, Sem.run_pure, Result.andThen_ok, invoke, builtin]
    simp [Builtin.cap_, hT.run_und, hd, e1, goInt]

theorem run_boundsC {C ρ w a} (hs : SRel C n n0 env hp nx ρ w a) {lo hi : Option Operand} {l h : Option Int} (hl : evB env lo = some l) (hh : evB env hi = some h) {isS : Bool} {len cap : Nat}
    (hlc : len ≤ cap) (h1 : 0 ≤ l.getD 0) (h2 : l.getD 0 ≤ h.getD len) (h3 : h.getD len ≤ cap) :
    (Instr.sliceBounds isS len cap (lo.map a.eval) (hi.map a.eval) none).run P w = .ok ((l.getD 0).toNat, (h.getD len).toNat, cap) w := by
  have key : ∀ (o : Option Operand) (x : Option Int), evB env o = some x → (o = none ∧ x = none) ∨ ∃ y k i, o = some y ∧ x = some i ∧ a.eval y = .int k i := by
    intro o x hx
    cases o with
    | none => simp [evB] at hx; exact .inl ⟨rfl, hx.symm⟩
    | some y =>
      simp only [evB] at hx
      cases hy : evO env y with
      | none => rw [hy] at hx; cases hx
      | some v =>
        rw [hy] at hx
        cases v <;> simp at hx
        case int k i =>
          have := evO_sound hs hy
          simp only [VR] at this
          exact .inr ⟨y, k, i, rfl, hx.symm, this⟩
  unfold Instr.sliceBounds
  rcases key lo l hl with ⟨rfl, rfl⟩ | ⟨y, k, i, rfl, rfl, hy⟩ <;> rcases key hi h hh with ⟨rfl, rfl⟩ | ⟨y', k', i', rfl, rfl, hy'⟩ <;>
    simp only [Option.getD_none, Option.getD_some, Option.map_none, Option.map_some] at * <;>
    simp [Instr.sliceBound, asIntOf, *]
  all_goals (rw [if_pos (by omega)])
  all_goals (first | rfl | (simp only [Sem.run_pure, Result.andThen_ok]; rw [if_pos (by omega)]; done) | (rw [if_pos (by omega)]))

theorem op_slice_refc {o : Oper} {t x lo hi e sz id off len cap l h} {i j : TI} (ho : o.op = .slice t x lo hi none) (hT : TOk P t i) (hd : i.desc = .slice e) (hj : TOk P e j) (hz : Nat.beq j.size sz = true)
    (hx : evO env x = some (.refc sz id off len cap)) (hl : evB env lo = some l) (hh : evB env hi = some h) {L H : Nat} (h1 : l.getD 0 = L) (h3 : h.getD len = H) (h2 : L ≤ H) (h4 : H ≤ cap) :
    OpS P n n0 o env hp nx (.refc sz id (off + L) (H - L) (cap - L)) hp nx :=
  .pure fun C ρ w st hs => by
    have hz := Nat.eq_of_beq_eq_true hz
    have e1 := evO_sound hs hx
    simp only [VR] at e1
    obtain ⟨p, ad, g1, e1, g2, gsp, g3⟩ := e1
    have hb := run_boundsC (P := P) hs hl hh (isS := true) (len := len) (cap := cap) g2 (by omega) (by omega) (by omega)
    rw [h1, h3] at hb
    simp only [Int.toNat_natCast] at hb
    refine ⟨.slice (if cap = L then ad else ad.map (·.add (L * sz))) (H - L) (cap - L), ?_, ?_⟩
    · simp only [execOp, ho, Instr.sliceAt, Sem.run_bind, hT.run_und, hd, Result.andThen_ok, Instr.slice, e1, Option.map_none, hb, hj.run_size, Sem.run_pure, hz]
    · simp only [VR]
      refine ⟨p, _, g1, rfl, by omega, fun x hx => ?_, fun hc => ?_⟩
      · split at hx
        · exact gsp x hx
        · simp only [Option.map_eq_some_iff] at hx
          obtain ⟨y, hy, rfl⟩ := hx
          unfold Addr.add
          split
          · exact gsp y hy
          · rfl
      obtain ⟨b, base, rfl, rfl, T, nn, g4, g5⟩ := g3 (by omega)
      rw [if_neg (by omega)]
      refine ⟨b, base, rfl, by simp [Addr_add, Nat.add_mul, Nat.add_assoc], T, nn, g4, ?_⟩
      rw [show off + L + (cap - L) = off + cap from by omega]; exact g5

/-- Of a slice with three bounds nothing is said but that it is. -/
theorem op_slice3 {o : Oper} {t x lo hi mx e sz id off len cap} {i j : TI} (ho : o.op = .slice t x (some lo) (some hi) (some mx)) (hT : TOk P t i) (hd : i.desc = .slice e) (hj : TOk P e j)
    (hx : evO env x = some (.refc sz id off len cap)) {k1 k2 k3 : IntKind} {L H M : Nat} (hl : evO env lo = some (.int k1 L)) (hh : evO env hi = some (.int k2 H)) (hm : evO env mx = some (.int k3 M)) (h2 : L ≤ H) (h4 : H ≤ M) (h5 : M ≤ cap) :
    OpS P n n0 o env hp nx .junk hp nx :=
  .pure fun C ρ w st hs => by
    have e1 := evO_sound hs hx
    have e2 := evO_sound hs hl
    have e3 := evO_sound hs hh
    have e4 := evO_sound hs hm
    simp only [VR] at e1 e2 e3 e4
    obtain ⟨p, ad, g1, e1, g2, gsp, g3⟩ := e1
    refine ⟨.slice (if M = L then ad else ad.map (·.add (L * j.size))) (H - L) (M - L), ?_, by simp only [VR, Value.cells]⟩
    simp only [execOp, ho, Instr.sliceAt, Sem.run_bind, hT.run_und, hd, Result.andThen_ok, Instr.slice, e1, Option.map_some, Instr.sliceBounds, Instr.sliceBound, asIntOf, e2, e3, e4, hj.run_size, Sem.run_pure]
    have q1 : (0 : Int) ≤ L ∧ (L : Int) ≤ H := by omega
    have q2 : (0 : Int) ≤ H ∧ (H : Int) ≤ M := by omega
    have q3 : (0 : Int) ≤ M ∧ (M : Int) ≤ cap := by omega
    simp only [Int.toNat_natCast, if_pos q1, if_pos q2, if_pos q3, Sem.run_pure, Result.andThen_ok, Option.isSome_some, if_true]

end
end Go.Av
