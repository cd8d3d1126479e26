/- Part 2 of the proof: what the operations of the model do to values as Lean sees them, and plain laws. -/
import Derived.Test.YtikkobmghmphaaaDoorP01
namespace Go.Av
open Go

theorem fill_cells (off : Nat) : ∀ (l : List Value) (k : Nat) (cs : Array Value), off + k + l.length ≤ cs.size →
    ((l.zipIdx k).foldl (fun (cs : Array Value) (p : Value × Nat) => cs.setIfInBounds (off + p.2) p.1) cs).toList = cs.toList.take (off + k) ++ l ++ cs.toList.drop (off + k + l.length)
  | [], k, cs, h => by simp
  | v :: l, k, cs, h => by
    simp only [List.length_cons] at h
    rw [List.zipIdx_cons, List.foldl_cons, fill_cells off l (k + 1) _ (by simp; omega)]
    simp only [Array.toList_setIfInBounds]
    have hlt : off + k < cs.toList.length := by simp; omega
    rw [List.take_set, List.drop_set_of_lt (by omega)]
    have e1 : (List.take (off + (k + 1)) cs.toList).set (off + k) v = List.take (off + k) cs.toList ++ [v] := by
      rw [show off + (k + 1) = off + k + 1 from by omega, List.take_succ_eq_append_getElem hlt, List.set_append_right _ _ (by simp; omega)]
      simp
      rw [Nat.min_eq_left (by simp at hlt; omega)]
      simp
    rw [e1]
    simp only [List.append_assoc, List.cons_append]
    rw [show off + (k + 1) + l.length = off + k + (l.length + 1) from by omega]
    rfl

/-- Parts put into a row of cells. -/
def fillA (place : Nat → Option (Nat × Nat)) (cs : List AV) : List (Nat × AV) → Option (List AV)
  | [] => some cs
  | (i, v) :: rest => match place i with
    | none => none
    | some (off, size) => match Nat.beq v.cells.length size, Nat.ble (off + size) cs.length, v.flatOk with
      | true, true, true => fillA place (cs.take off ++ (v.cells ++ cs.drop (off + size))) rest
      | _, _, _ => none

theorem fill_sound {w : World} {X ρ} {place : Nat → Option (Nat × Nat)} : ∀ (parts : List (Nat × AV)) (ps : List (Nat × Value)) (cs r : List AV) (vs : Array Value),
    ps.map (·.1) = parts.map (·.1) → VRs w X ρ (parts.map (·.2)) (ps.map (·.2)) → VRs w X ρ cs vs.toList → (∀ c ∈ vs.toList, c.oneCell' = true) → fillA place cs parts = some r →
    ∃ us, Instr.fill place vs ps = some us ∧ VRs w X ρ r us.toList ∧ (∀ c ∈ us.toList, c.oneCell' = true)
  | [], ps, cs, r, vs, h1, h2, h3, h4, h => by
    simp at h1; subst h1
    simp only [fillA] at h; cases h
    exact ⟨vs, rfl, h3, h4⟩
  | (i, v) :: rest, [], cs, r, vs, h1, h2, h3, h4, h => by simp at h1
  | (i, v) :: rest, (i', u) :: ps, cs, r, vs, h1, h2, h3, h4, h => by
    simp only [List.map_cons, List.cons.injEq] at h1
    obtain ⟨rfl, h1⟩ := h1
    simp only [List.map_cons, VRs, List.cons.injEq] at h2
    obtain ⟨u', r', ⟨rfl, rfl⟩, hu, h2⟩ := h2
    simp only [fillA] at h
    cases hp : place i' with
    | none => rw [hp] at h; cases h
    | some p =>
      obtain ⟨off, size⟩ := p
      rw [hp] at h
      simp only at h
      split at h <;> try (cases h; done)
      rename_i b1 b2 b3
      have b1 : v.cells.length = size := by simpa using b1
      have b2 : off + size ≤ cs.length := by simpa using b2
      have hsz := hu.size
      have hlen := h3.length
      simp at hlen
      have hcells := fill_cells off u.cells.toList 0 vs (by simp; omega)
      simp only [Nat.add_zero] at hcells
      have key : VRs w X ρ (cs.take off ++ (v.cells ++ cs.drop (off + size))) (vs.toList.take off ++ (u.cells.toList ++ vs.toList.drop (off + u.cells.toList.length))) := by
        refine (h3.take off).append (hu.cells.append ?_)
        have : off + u.cells.toList.length = off + size := by simp; omega
        rw [this]
        exact h3.drop _
      obtain ⟨us, g1, g2, g3⟩ := fill_sound rest ps _ r (u.cells.zipIdx.foldl (fun cs (x : Value × Nat) => cs.setIfInBounds (off + x.2) x.1) vs) h1 h2
        (by rw [← Array.foldl_toList, Array.toList_zipIdx, hcells]; simpa using key)
        (by
          rw [← Array.foldl_toList, Array.toList_zipIdx, hcells]
          intro c hc
          simp only [List.mem_append] at hc
          rcases hc with (hc | hc) | hc
          · exact h4 c (List.mem_of_mem_take hc)
          · exact hu.ones b3 c hc
          · exact h4 c (List.mem_of_mem_drop hc)) h
      refine ⟨us, ?_, g2, g3⟩
      simp only [Instr.fill, hp]
      rw [if_neg]
      · exact g1
      · simp; omega

section
variable {P : Program} {n n0 : Nat} {env : Env} {hp : Hp} {nx : Nat}

def updR (ρ : Rho) (id : Nat) (p : Option (Nat × Nat)) : Rho := fun i => if i = id then some p else ρ i

/-- One block more, under the name A. -/
theorem SRel.allocAt {C ρ w a} (hs : SRel C n n0 env hp nx ρ w a) (A nx' : Nat) (hA : ρ A = none) (hA0 : n0 ≤ A) (hnx : nx ≤ nx') (hAn : A < nx') (o : Obj) (blk : Blk)
    (hbr : ∀ ρ' X', (∀ i p, ρ i = some p → ρ' i = some p) → ρ' A = some (some (w.heap.size, 0)) → (∀ r, r < w.heap.size → X' r → XX C.ex hp ρ r) → BR (w.alloc o) X' ρ' blk (some (w.heap.size, 0))) :
    SRel C n n0 env ((A, blk) :: hp) nx' (updR ρ A (some (w.heap.size, 0))) (w.alloc o) a ∧ (∀ b, b < w.heap.size → XX C.ex ((A, blk) :: hp) (updR ρ A (some (w.heap.size, 0))) b → XX C.ex hp ρ b) ∧
      (∀ x u, VR w (XX C.ex hp ρ) ρ x u → VR (w.alloc o) (XX C.ex ((A, blk) :: hp) (updR ρ A (some (w.heap.size, 0)))) (updR ρ A (some (w.heap.size, 0))) x u) := by
  have hold : ∀ id b, id ≠ A → getB ((A, blk) :: hp) id = some b → getB hp id = some b := fun id b h hb => by
    rw [getB_cons, if_neg (Ne.symm h)] at hb; exact hb
  have hlt : w.heap.size < (w.alloc o).heap.size := by simp
  have hOw : ∀ id b r base, id ≠ A → getB ((A, blk) :: hp) id = some b → updR ρ A (some (w.heap.size, 0)) id = some (some (r, base)) → r < w.heap.size := fun id b r base hne hb hr => by
    simp only [updR, if_neg hne] at hr
    exact (hs.own id b r base (hold id b hne hb) hr).2.2
  have hrr : ∀ i p, ρ i = some p → updR ρ A (some (w.heap.size, 0)) i = some p := fun i p hi => by
    by_cases e : i = A
    · subst e; rw [hA] at hi; cases hi
    · simp [updR, e, hi]
  have hxx : ∀ b, b < w.heap.size → XX C.ex ((A, blk) :: hp) (updR ρ A (some (w.heap.size, 0))) b → XX C.ex hp ρ b := by
    rintro r hlt (h | ⟨id, b, base, g1, g2⟩)
    · exact .inl h
    · by_cases e : id = A
      · subst e; simp [updR] at g2; omega
      · have g3 := hold id b e g1
        simp only [updR, if_neg e] at g2
        exact .inr ⟨id, b, base, g3, g2⟩
  refine SRel.change hs (fun _ => False) (alloc_pres (fun _ => False) w o) (fun _ _ h => h.elim) hrr (fun i hi => ?_) hnx (fun id hid => ?_) (fun id b hb => ?_) ?_
  · simp only [updR]; rw [if_neg (by omega)]
  · simp only [updR]; rw [if_neg (by omega)]; exact hs.fresh id (by omega)
  · by_cases e : id = A
    · subst e
      rw [getB_cons, if_pos rfl] at hb
      have hbl : b = blk := by
        cases blk <;> simp [live] at hb <;> exact hb.symm
      subst hbl
      exact .inr ⟨_, by simp [updR], hbr _ _ hrr (by simp [updR]) hxx, fun r base he => by cases he; exact ⟨.inr (Nat.le_refl _), hlt⟩⟩
    · exact .inl ⟨hold id b e hb, fun _ _ _ h => h⟩
  · intro id id' b b' r base base' h1 h2 h3 h4
    by_cases e : id = A <;> by_cases e' : id' = A
    · omega
    · subst e
      have h5 := hOw id' b' r base' e' h2 h4
      simp [updR] at h3; omega
    · subst e'
      have h5 := hOw id b r base e h1 h3
      simp [updR] at h4; omega
    · simp only [updR, if_neg e] at h3
      simp only [updR, if_neg e'] at h4
      exact hs.inj id id' b b' r base base' (hold id b e h1) (hold id' b' e' h2) h3 h4

/-- An operation that makes a block: 'mk A' where the block is to be called A. -/
def OpAl (P : Program) (n n0 : Nat) (o : Oper) (env : Env) (hp : Hp) (nx : Nat) (mk : Nat → AV) (blk : Blk) : Prop :=
  ∀ C ρ w a, SRel C n n0 env hp nx ρ w a → ∃ obj v, (execOp a.eval o).run P w = .ok (.value v) (w.alloc obj) ∧
    ∀ A ρ' X', (∀ i p, ρ i = some p → ρ' i = some p) → ρ' A = some (some (w.heap.size, 0)) → (∀ r, r < w.heap.size → X' r → XX C.ex hp ρ r) →
      BR (w.alloc obj) X' ρ' blk (some (w.heap.size, 0)) ∧ VR (w.alloc obj) X' ρ' (mk A) v

theorem OpAl.opS {o : Oper} {mk blk} (h : OpAl P n n0 o env hp nx mk blk) : OpS P n n0 o env hp nx (mk nx) ((nx, blk) :: hp) (Nat.succ nx) := by
  intro C ρ w a hs
  obtain ⟨obj, v, h1, h2⟩ := h C ρ w a hs
  have hal := hs.allocAt nx (nx + 1) (hs.fresh nx (Nat.le_refl _)) hs.le (Nat.le_succ _) (Nat.lt_succ_self _) obj blk (fun ρ' X' a1 a2 a3 => (h2 nx ρ' X' a1 a2 a3).1)
  refine ⟨v, w.alloc obj, _, .inl h1, hal.1, (h2 nx _ _ (fun i p hi => ?_) (by simp [updR]) hal.2.1).2, fun h => absurd h (by simp), hal.2.2⟩
  by_cases e : i = nx
  · subst e; rw [hs.fresh i (Nat.le_refl _)] at hi; cases hi
  · simp [updR, e, hi]

theorem al_alloc {o : Oper} {t} {i : TI} (ho : o.op = .alloc t) (hT : TOk P t i) : OpAl P n n0 o env hp nx (fun A => .ptr A i.size 0 0) (.arr i.size [i.zero]) := by
  intro C ρ w a hs
  obtain ⟨f, hf, h1, h2, z, hz1, hz2, hz3, hz4⟩ := hT.info
  refine ⟨.cells z.cells t, .pointer (some ⟨w.heap.size, 0, none⟩), ?_, fun A ρ' X' a1 a2 a3 => ⟨⟨z.cells, t, (0, 0), [z], alloc_new _ _, fun o _ h => by omega, by
      simp only [VRs]; exact ⟨z, [], rfl, VR_none (hz4 _ _), rfl⟩, fun ev he => by simp at he; subst he; exact hz2, fun j v hv => by simpa [flat] using hv, fun v hv => hz3 v (by simpa [flat] using hv)⟩, ?_⟩⟩
  · simp only [execOp, ho, Instr.alloc, Sem.run_bind, zeroValue, typeInfo, run_program, Result.andThen_ok, hf, hz1, newVar, newRow, Sem.run_pure]
    rfl
  · simp only [VR]; exact ⟨w.heap.size, 0, a2, by simp⟩
theorem op_alloc {o : Oper} {t} {i : TI} (ho : o.op = .alloc t) (hT : TOk P t i) : OpS P n n0 o env hp nx (.ptr nx i.size 0 0) ((nx, .arr i.size [i.zero]) :: hp) (Nat.succ nx) := (al_alloc ho hT).opS

theorem al_box {o : Oper} {t x av} (ho : o.op = .box t x) (hx : evO env x = some av) (hfl : av.flatOk = true) :
    OpAl P n n0 o env hp nx (fun A => .ptr A av.cells.length 0 0) (.arr av.cells.length [av]) := by
  intro C ρ w a hs
  have hv := evO_sound hs hx
  have hsz := hv.size
  refine ⟨.cells (a.eval x).cells t, .pointer (some ⟨w.heap.size, 0, none⟩), ?_, fun A ρ' X' a1 a2 a3 => ⟨⟨(a.eval x).cells, t, (0, 0), [a.eval x], alloc_new _ _, fun o _ h => by omega, ?_, fun ev he => by simp at he; subst he; exact hsz, fun j v hv => by simpa [flat] using hv, fun v h => hv.ones hfl v (by simpa [flat] using h)⟩, ?_⟩⟩
  · simp only [execOp, ho, Instr.box, Sem.run_bind, newVar, newRow, Sem.run_pure, run_newObj_alloc, Result.andThen_ok]
  · simp only [VRs]
    exact ⟨_, [], rfl, VR.mono (alloc_pres (fun _ => False) w _) (fun _ _ h => h.elim) a3 a1 av _ hv, rfl⟩
  · simp only [VR]; exact ⟨w.heap.size, 0, a2, by simp⟩
theorem op_box {o : Oper} {t x av} (ho : o.op = .box t x) (hx : evO env x = some av) (hfl : av.flatOk = true) :
    OpS P n n0 o env hp nx (.ptr nx av.cells.length 0 0) ((nx, .arr av.cells.length [av]) :: hp) (Nat.succ nx) := (al_box ho hx hfl).opS

/-- A row's element changed in part. -/
def stA (e : AV) (sub : Nat) (v : AV) : Option AV :=
  match Nat.beq sub 0, Nat.beq v.cells.length e.cells.length, (v.isAgg == e.isAgg) with
  | true, true, true => some v
  | _, _, _ => match e.isAgg, Nat.ble (sub + v.cells.length) e.cells.length with
    | true, true => some (.agg (e.cells.take sub ++ (v.cells ++ e.cells.drop (sub + v.cells.length))))
    | _, _ => none

theorem cells_agg (xs : Array Value) : (Value.agg xs).cells = xs := rfl

theorem stA_sound {w : World} {X ρ} {e v e' : AV} {ev vv : Value} {sub : Nat} (he : VR w X ρ e ev) (ho : ∀ c ∈ ev.cells.toList, c.oneCell' = true) (hv : VR w X ρ v vv) (hf : v.flatOk = true) (h : stA e sub v = some e') :
    sub + vv.cells.size ≤ ev.cells.size ∧ ∃ ev', VR w X ρ e' ev' ∧ ev'.cells.size = ev.cells.size ∧ (∀ c ∈ ev'.cells.toList, c.oneCell' = true) ∧
      ∀ j, ev'.cells.toList[j]? = if sub ≤ j ∧ j < sub + vv.cells.size then vv.cells.toList[j - sub]? else ev.cells.toList[j]? := by
  have h1 := he.size
  have h2 := hv.size
  unfold stA at h
  split at h
  · rename_i a1 a2 _
    have a1 : sub = 0 := by simpa using a1
    have a2 : v.cells.length = e.cells.length := by simpa using a2
    cases h
    subst a1
    refine ⟨by omega, vv, hv, by omega, hv.ones hf, fun j => ?_⟩
    by_cases hj : j < vv.cells.size
    · rw [if_pos ⟨Nat.zero_le _, by omega⟩]; simp
    · rw [if_neg (by omega), List.getElem?_eq_none (by simp; omega), List.getElem?_eq_none (by simp; omega)]
  · split at h
    · rename_i a1 a2
      have a2 : sub + v.cells.length ≤ e.cells.length := by simpa using a2
      cases h
      have l1 : ev.cells.toList.length = e.cells.length := by simpa using h1
      have l2 : vv.cells.toList.length = v.cells.length := by simpa using h2
      have q0 := he.cells
      have q1 := hv.cells
      have q2 := hv.ones hf
      have s1 : ev.cells.size = ev.cells.toList.length := by simp
      have s2 : vv.cells.size = vv.cells.toList.length := by simp
      rw [s1, s2]
      generalize ev.cells.toList = L at *
      generalize vv.cells.toList = M at *
      refine ⟨by omega, .agg (L.take sub ++ (M ++ L.drop (sub + v.cells.length))).toArray, ?_, ?_, ?_, fun j => ?_⟩
      · simp only [VR]
        refine ⟨_, rfl, by simpa using (q0.take sub).append (q1.append (q0.drop _)), ?_⟩
        intro c hc
        simp only [List.mem_append] at hc
        rcases hc with hc | hc | hc
        · exact ho c (List.mem_of_mem_take hc)
        · exact q2 c hc
        · exact ho c (List.mem_of_mem_drop hc)
      · rw [cells_agg]; simp only [List.size_toArray, List.length_append, List.length_take, List.length_drop]; omega
      · rw [cells_agg]
        intro c hc
        simp only [List.mem_append] at hc
        rcases hc with hc | hc | hc
        · exact ho c (List.mem_of_mem_take hc)
        · exact q2 c hc
        · exact ho c (List.mem_of_mem_drop hc)
      · rw [cells_agg]
        show (L.take sub ++ (M ++ L.drop (sub + v.cells.length)))[j]? = _
        by_cases k1 : j < sub
        · rw [if_neg (by omega), List.getElem?_append_left (by simp; omega), List.getElem?_take, if_pos k1]
        · rw [List.getElem?_append_right (by simp; omega)]
          have : (List.take sub L).length = sub := by simp; omega
          rw [this]
          by_cases k2 : j < sub + M.length
          · rw [if_pos ⟨by omega, k2⟩, List.getElem?_append_left (by omega)]
          · rw [if_neg (by omega), List.getElem?_append_right (by omega), List.getElem?_drop]
            congr 1
            omega
    · cases h

theorem getElem?_flat_set {sz : Nat} {evs : List Value} (h : ∀ ev ∈ evs, ev.cells.size = sz) {idx : Nat} {ev ev' : Value} (hev : evs[idx]? = some ev) (hz : ev'.cells.size = sz) (m : Nat) :
    (flat (evs.set idx ev'))[m]? = if idx * sz ≤ m ∧ m < idx * sz + sz then ev'.cells.toList[m - idx * sz]? else (flat evs)[m]? := by
  have hidx : idx < evs.length := (List.getElem?_eq_some_iff.1 hev).1
  have hset : ∀ e ∈ evs.set idx ev', e.cells.size = sz := fun e he => by
    rcases List.mem_or_eq_of_mem_set he with h1 | h1
    · exact h e h1
    · subst h1; exact hz
  have e1 : evs.set idx ev' = evs.take idx ++ ev' :: evs.drop (idx + 1) := List.set_eq_take_append_cons_drop ▸ by rw [if_pos hidx]
  have e2 : evs = evs.take idx ++ ev :: evs.drop (idx + 1) := by
    rw [← List.getElem?_eq_some_iff.1 hev |>.2]
    simp
  have lt : (flat (evs.take idx)).length = idx * sz := by
    rw [flat_length (sz := sz) (fun e he => h e (List.mem_of_mem_take he))]; simp; rw [Nat.min_eq_left (by omega)]
  rw [e1]
  conv => rhs; rw [e2]
  rw [flat_append, flat_append, flat_cons, flat_cons]
  have z1 : ev'.cells.toList.length = sz := by simpa using hz
  have z2 : ev.cells.toList.length = sz := by simpa using h ev (List.mem_of_getElem? hev)
  by_cases k1 : m < idx * sz
  · rw [if_neg (by omega), List.getElem?_append_left (by omega), List.getElem?_append_left (by omega)]
  · rw [List.getElem?_append_right (by omega), lt]
    by_cases k2 : m < idx * sz + sz
    · rw [if_pos ⟨by omega, k2⟩, List.getElem?_append_left (by omega)]
    · rw [if_neg (by omega), List.getElem?_append_right (by omega), List.getElem?_append_right (by omega), List.getElem?_append_right (by omega), lt, z1, z2]

theorem op_store {o : Oper} {t x y id sz idx sub els e e' av} {i : TI} (ho : o.op = .store t x y) (hT : TOk P t i) (hx : evO env x = some (.ptr id sz idx sub)) (hy : evO env y = some av)
    (hb : getB hp id = some (.arr sz els)) (he : els[idx]? = some e) (hs : Nat.beq av.cells.length i.size = true) (hz : Nat.blt 0 i.size = true) (hf : av.flatOk = true) (h : stA e sub av = some e') :
    OpS P n n0 o env hp nx .junk ((id, .arr sz (els.set idx e')) :: hp) nx := by
  intro C ρ w a hs'
  have hs := Nat.eq_of_beq_eq_true hs
  have e1 := evO_sound hs' hx
  have e2 := evO_sound hs' hy
  simp only [VR] at e1
  obtain ⟨b, base, g1, e1⟩ := e1
  obtain ⟨p, hp1, hbr⟩ := hs'.blk id _ hb
  rw [g1] at hp1; cases hp1
  obtain ⟨c, T, fz, evs, h1, h2, h3, h4, h5, h6⟩ := hbr
  obtain ⟨ev, hev, hvr⟩ := h3.get he
  have hm : ev ∈ evs := List.mem_of_getElem? hev
  obtain ⟨k1, ev', k2, k3, k4, k5⟩ := stA_sound hvr (fun c hc => h6 c (mem_flat hm hc)) e2 hf h
  have hidx : idx < evs.length := (List.getElem?_eq_some_iff.1 hev).1
  have hesz := h4 ev hm
  have hsub : sub + (a.eval y).cells.size ≤ sz := by omega
  have hz : 0 < i.size := by have := hz; simp [Nat.blt] at this; omega
  have hsz : (a.eval y).cells.size = i.size := by rw [e2.size]; exact hs
  have hfl : (flat evs).length = evs.length * sz := flat_length h4
  have hm2 : (idx + 1) * sz ≤ evs.length * sz := Nat.mul_le_mul_right _ hidx
  rw [Nat.add_mul] at hm2
  have hbound : base + (idx * sz + sub) + (a.eval y).cells.toList.length ≤ c.size := by
    have hlast := h5 (idx * sz + (sub + (a.eval y).cells.size - 1)) _ (List.getElem?_eq_getElem (by omega))
    have := (Array.getElem?_eq_some_iff.1 hlast).1
    simp
    omega
  have hb0 : b < w.heap.size := (Array.getElem?_eq_some_iff.1 h1).1
  obtain ⟨c', s1, s2, s3, s4, s5, s6, s7, s8⟩ := setCells_spec b (a.eval y).cells.toList (base + (idx * sz + sub)) w c T fz h1 hbound
  have hP := setCells_pres (o := base + (idx * sz + sub)) (vs := (a.eval y).cells.toList) h1 hbound
  have hxx : ∀ (r : Nat), XX C.ex ((id, .arr sz (els.set idx e')) :: hp) ρ r → XX C.ex hp ρ r := by
    rintro r (h | ⟨id', b', base', g2, g3⟩)
    · exact .inl h
    · by_cases ee : id = id'
      · subst ee; exact .inr ⟨id, _, base', hb, g3⟩
      · rw [getB_cons, if_neg ee] at g2; exact .inr ⟨id', b', base', g2, g3⟩
  have hown : Owned hp ρ b := ⟨id, _, base, hb, g1⟩
  have hch := hs'.change (fun r => r = b) hP (fun r _ hr => hr ▸ hown) (fun _ _ h => h) (fun _ _ => rfl) (Nat.le_refl _) hs'.fresh (hp' := (id, .arr sz (els.set idx e')) :: hp)
    (fun id' b' hb' => by
      by_cases ee : id = id'
      · subst ee
        rw [getB_cons, if_pos rfl] at hb'
        simp only [live, Option.some.injEq] at hb'
        subst hb'
        refine .inr ⟨_, g1, ⟨c', T, fz, evs.set idx ev', s1, fun o ho' => h2 o (by omega), ?_, ?_, ?_, ?_⟩, fun r base' he => by cases he; exact ⟨.inl hown, by rw [s5]; exact hb0⟩⟩
        · have q : ∀ (l : List AV) (vs : List Value), VRs w (XX C.ex hp ρ) ρ l vs → VRs (w.setCells b (base + (idx * sz + sub)) (a.eval y).cells.toList) (XX C.ex ((id, .arr sz (els.set idx e')) :: hp) ρ) ρ l vs :=
            VRs.mono hP (fun r _ hr => .inr (by subst hr; exact hown)) (fun r _ h => hxx r h) (fun _ _ h => h)
          exact q _ _ (h3.set idx k2)
        · intro e he
          rcases List.mem_or_eq_of_mem_set he with h | h
          · exact h4 e h
          · subst h; omega
        · intro m v hmv
          rw [getElem?_flat_set h4 hev (by omega) m] at hmv
          rw [s3]
          simp only [Array.length_toList]
          split at hmv
          · rename_i hin
            rw [k5] at hmv
            split at hmv
            · rename_i hin2
              rw [if_pos (by omega)]
              rw [show base + m - (base + (idx * sz + sub)) = m - idx * sz - sub from by omega]
              exact hmv
            · rename_i hin2
              rw [if_neg (by omega)]
              refine h5 m v ?_
              have := flat_get h4 hev (k := m - idx * sz) (by omega)
              rw [show idx * sz + (m - idx * sz) = m from by omega] at this
              rw [this]; exact hmv
          · rename_i hin
            rw [if_neg (by omega)]
            exact h5 m v hmv
        · intro v hv
          simp only [flat, List.mem_flatMap] at hv
          obtain ⟨e, he, hv⟩ := hv
          rcases List.mem_or_eq_of_mem_set he with h | h
          · exact h6 v (mem_flat h hv)
          · subst h; exact k4 v hv
      · rw [getB_cons, if_neg ee] at hb'
        exact .inl ⟨hb', fun r base' hr he => ee (by subst he; exact hs'.inj id id' _ b' r base base' hb hb' g1 hr)⟩)
    (fun id1 id2 b1 b2 r base1 base2 q1 q2 q3 q4 => by
      have hin : ∀ i bb, getB ((id, .arr sz (els.set idx e')) :: hp) i = some bb → ∃ bb', getB hp i = some bb' := fun i bb hi => by
        by_cases ee : id = i
        · subst ee; exact ⟨_, hb⟩
        · rw [getB_cons, if_neg ee] at hi; exact ⟨bb, hi⟩
      obtain ⟨_, q1⟩ := hin _ _ q1
      obtain ⟨_, q2⟩ := hin _ _ q2
      exact hs'.inj id1 id2 _ _ r base1 base2 q1 q2 q3 q4)
  refine ⟨undef, w.setCells b (base + (idx * sz + sub)) (a.eval y).cells.toList, ρ, .inr ⟨?_, rfl⟩, hch.1, by simp [VR, undef, Value.cells], fun h => absurd h (by simp), hch.2.2⟩
  have hcell : ∀ j, j < (a.eval y).cells.toList.length → ∃ v, c[base + (idx * sz + sub) + j]? = some v := fun j hj => by
    exact ⟨_, Array.getElem?_eq_getElem (by omega)⟩
  simp only [execOp, ho, Instr.storeAt, Instr.sureAddr, e1, Sem.run_bind, Sem.run_pure, Result.andThen_ok, storeVar, hT.run_size, ne_eq]
  rw [if_neg (by omega)]
  rw [run_storeCells_cells b (base + (idx * sz + sub)) (a.eval y).cells.toList 0 w (fun j hj => by
      obtain ⟨v, hv⟩ := hcell j hj
      rw [Nat.add_zero, cell_eq h1, hv]; rfl)
    (fun j hj => by
      rw [Nat.add_zero, frozen_eq h1]
      have := h2 (base + (idx * sz + sub) + j) (by omega)
      simp only [Bool.and_eq_false_iff, decide_eq_false_iff_not]
      omega) (e2.ones hf)]
  simp
end
end Go.Av
namespace Go.Av
open Go

def forceL {β : Type} : List AV → (List AV → Option β) → Option β
  | [], k => k []
  | a :: l, k => forceL l fun l' => k (a :: l')
theorem forceL_eq {β : Type} : ∀ (l : List AV) (k : List AV → Option β), forceL l k = k l
  | [], _ => rfl
  | a :: l, k => by rw [forceL, forceL_eq l]

abbrev Tab := TypeId → Option TI
def TabOk (P : Program) (T : Tab) : Prop := ∀ t i, T t = some i → TOk P t i

def placesOf (T : Tab) (fs : Array Field) : Option (List (Nat × Nat)) := fs.toList.mapM fun f => (T f.type).map fun j => (f.offset, j.size)

theorem run_places {P : Program} {T : Tab} (hT : TabOk P T) (w : World) : ∀ (l : List Field) (r : List (Nat × Nat)), (l.mapM fun f => (T f.type).map fun j => (f.offset, j.size)) = some r →
    (l.mapM fun f => (do pure (f.offset, ← sizeOf f.type) : Sem (Nat × Nat))).run P w = .ok r w
  | [], r, h => by simp at h; subst h; simp
  | f :: l, r, h => by
    simp only [List.mapM_cons, Option.pure_def, Option.bind_eq_bind, Option.bind_eq_some_iff, Option.map_eq_some_iff] at h
    obtain ⟨p, ⟨j, hj, rfl⟩, r', hr', e⟩ := h
    simp at e; subst e
    simp only [List.mapM_cons, Sem.run_bind, (hT _ _ hj).run_size, Result.andThen_ok, Sem.run_pure, run_places hT w l r' hr']

section
variable {P : Program} {n n0 : Nat} {env : Env} {hp : Hp} {nx : Nat}

def evParts (env : Env) (l : List (Nat × Operand)) : Option (List (Nat × AV)) := l.mapM fun p => (evO env p.2).map fun v => (p.1, v)

theorem evParts_sound {C ρ w a} (hs : SRel C n n0 env hp nx ρ w a) : ∀ (l : List (Nat × Operand)) (r : List (Nat × AV)), evParts env l = some r →
    (l.map fun p => (p.1, a.eval p.2)).map (·.1) = r.map (·.1) ∧ VRs w (XX C.ex hp ρ) ρ (r.map (·.2)) ((l.map fun p => (p.1, a.eval p.2)).map (·.2))
  | [], r, h => by simp [evParts] at h; subst h; simp [VRs]
  | x :: l, r, h => by
    simp only [evParts, List.mapM_cons, Option.pure_def, Option.bind_eq_bind, Option.bind_eq_some_iff, Option.map_eq_some_iff] at h
    obtain ⟨p, ⟨v, hv, rfl⟩, r', hr', e⟩ := h
    simp at e; subst e
    have ih := evParts_sound hs l r' hr'
    refine ⟨by simpa using ih.1, ?_⟩
    simp only [List.map_cons, VRs]
    exact ⟨_, _, rfl, evO_sound hs hv, ih.2⟩

theorem op_build {T : Tab} (hT : TabOk P T) {o : Oper} {t parts fs ps pl r} {i : TI} (ho : o.op = .build t parts) (ht : T t = some i) (hd : i.desc = .struct fs)
    (hpl : placesOf T fs = some pl) (hp' : evParts env parts.toList = some ps) (h : fillA (fun k => pl[k]?) i.zero.cells ps = some r) :
    OpS P n n0 o env hp nx (.agg r) hp nx :=
  .pure fun C ρ w st hs => by
    have hTt := hT t i ht
    obtain ⟨f, hf, _, _, z, hz1, hz2, hz3, hz4⟩ := hTt.info
    obtain ⟨q1, q2⟩ := evParts_sound hs _ _ hp'
    have hz5 : VR w (XX C.ex hp ρ) ρ i.zero z := VR_none (hz4 _ _)
    obtain ⟨us, g1, g2, g3⟩ := fill_sound (place := fun k => pl[k]?) ps _ i.zero.cells r z.cells q1 q2 hz5.cells hz3 h
    refine ⟨.agg us, ?_, by simp only [VR]; exact ⟨us, rfl, g2, g3⟩⟩
    have hpl' : (fs.mapM fun f => (do pure (f.offset, ← sizeOf f.type) : Sem (Nat × Nat))).run P w = .ok pl.toArray w := by
      rw [Array.mapM_eq_mapM_toList]
      simp only [Sem.run_map, run_places hT w _ _ hpl, Result.andThen_ok]
    simp only [execOp, ho, Instr.build, Sem.run_bind, zeroValue, typeInfo, run_program, Result.andThen_ok, hf, hz1, hTt.run_und, hd, hpl', Sem.run_pure]
    have : (parts.map fun (x : Nat × Operand) => (x.1, st.eval x.2)).toList = parts.toList.map fun p => (p.1, st.eval p.2) := by simp
    have e : (Array.map (fun (x : Nat × Operand) => match x with | (i, x) => (i, st.eval x)) parts).toList = parts.toList.map fun p => (p.1, st.eval p.2) := by simp
    rw [e]
    have e2 : (fun (x : Nat) => pl.toArray[x]?) = fun k => pl[k]? := by funext k; simp
    rw [e2, g1]
    simp

theorem op_build_arr {T : Tab} (hT : TabOk P T) {o : Oper} {t parts len e ps r} {i j : TI} (ho : o.op = .build t parts) (ht : T t = some i) (hd : i.desc = .array len e)
    (hj : T e = some j) (hp' : evParts env parts.toList = some ps) (h : fillA (fun k => some (k * j.size, j.size)) i.zero.cells ps = some r) :
    OpS P n n0 o env hp nx (.agg r) hp nx :=
  .pure fun C ρ w st hs => by
    have hTt := hT t i ht
    obtain ⟨f, hf, _, _, z, hz1, hz2, hz3, hz4⟩ := hTt.info
    obtain ⟨q1, q2⟩ := evParts_sound hs _ _ hp'
    have hz5 : VR w (XX C.ex hp ρ) ρ i.zero z := VR_none (hz4 _ _)
    obtain ⟨us, g1, g2, g3⟩ := fill_sound (place := fun k => some (k * j.size, j.size)) ps _ i.zero.cells r z.cells q1 q2 hz5.cells hz3 h
    refine ⟨.agg us, ?_, by simp only [VR]; exact ⟨us, rfl, g2, g3⟩⟩
    simp only [execOp, ho, Instr.build, Sem.run_bind, zeroValue, typeInfo, run_program, Result.andThen_ok, hf, hz1, hTt.run_und, hd, (hT e j hj).run_size, Sem.run_pure]
    have e : (Array.map (fun (x : Nat × Operand) => match x with | (i, x) => (i, st.eval x)) parts).toList = parts.toList.map fun p => (p.1, st.eval p.2) := by simp
    rw [e, g1]
    simp

theorem fill_order {sz : Nat} : ∀ (vals : List Value) (k : Nat) (cells : Array Value), (k + vals.length) * sz ≤ cells.size → (∀ v ∈ vals, v.cells.size = sz) →
    ∃ cells', Instr.fill (fun i => some (i * sz, sz)) cells ((List.range' k vals.length).zip vals) = some cells' ∧ cells'.toList = cells.toList.take (k * sz) ++ flat vals ++ cells.toList.drop ((k + vals.length) * sz)
  | [], k, cells, h, _ => ⟨cells, rfl, by simp [flat]⟩
  | v :: vals, k, cells, h, hv => by
    have hvs := hv v List.mem_cons_self
    simp only [List.length_cons] at h
    have hk : k * sz + sz ≤ cells.size := by
      have : (k + 1) * sz ≤ (k + (vals.length + 1)) * sz := Nat.mul_le_mul_right _ (by omega)
      rw [Nat.add_mul] at this; omega
    have hcells := fill_cells (k * sz) v.cells.toList 0 cells (by simp; omega)
    simp only [Nat.add_zero] at hcells
    have hl : v.cells.toList.length = sz := by simpa using hvs
    have hsz2 : ((v.cells.toList.zipIdx 0).foldl (fun (cs : Array Value) (p : Value × Nat) => cs.setIfInBounds (k * sz + p.2) p.1) cells).size = cells.size := by
      have := congrArg List.length hcells
      rw [Array.length_toList] at this
      rw [this]; simp; omega
    obtain ⟨c', g1, g2⟩ := fill_order vals (k + 1) ((v.cells.toList.zipIdx 0).foldl (fun (cs : Array Value) (p : Value × Nat) => cs.setIfInBounds (k * sz + p.2) p.1) cells) (by rw [hsz2, show k + 1 + vals.length = k + (vals.length + 1) from by omega]; exact h) (fun x hx => hv x (List.mem_cons_of_mem _ hx))
    refine ⟨c', ?_, ?_⟩
    · simp only [List.length_cons, List.range'_succ, List.zip_cons_cons, Instr.fill]
      rw [if_neg (by simp; omega), ← Array.foldl_toList, Array.toList_zipIdx]
      exact g1
    · rw [g2, hcells, flat_cons, hl]
      have e1 : (List.take (k * sz) cells.toList ++ v.cells.toList ++ List.drop (k * sz + sz) cells.toList).take ((k + 1) * sz) = List.take (k * sz) cells.toList ++ v.cells.toList := by
        rw [List.take_left']; simp; rw [Nat.add_mul]; omega
      have e2 : (List.take (k * sz) cells.toList ++ v.cells.toList ++ List.drop (k * sz + sz) cells.toList).drop ((k + 1 + vals.length) * sz) = cells.toList.drop ((k + (vals.length + 1)) * sz) := by
        have q1 : (k + (vals.length + 1)) * sz = k * sz + (vals.length + 1) * sz := Nat.add_mul _ _ _
        have q2 : sz ≤ (vals.length + 1) * sz := Nat.le_mul_of_pos_left _ (by omega)
        have q3 : (List.take (k * sz) cells.toList ++ v.cells.toList).length = k * sz + sz := by simp; omega
        rw [show k + 1 + vals.length = k + (vals.length + 1) from by omega, List.drop_append, List.drop_of_length_le (by omega), List.nil_append, List.drop_drop, q3]
        congr 1
        omega
      rw [e1, e2]
      simp

theorem al_buildSliceC {T : Tab} (hT : TabOk P T) {o : Oper} {t len parts e vals} {i j : TI} (ho : o.op = .buildSlice t len parts) (ht : T t = some i) (hd : i.desc = .slice e) (hj : T e = some j)
    (hp' : parts.toList.mapM (fun p => evO env p.2) = some vals) (hi : parts.toList.map (·.1) = List.range' 0 len) (hlen : vals.length = len)
    (hsz : vals.all (fun v => v.flatOk && Nat.beq v.cells.length j.size) = true) (hbig : Nat.ble (len * j.size) 16777216 = true) :
    OpAl P n n0 o env hp nx (fun A => .refc j.size A 0 len len) (.arr j.size vals) := by
  intro C ρ w a hs
  have hjt := hT e j hj
  obtain ⟨f, hf, hf1, _, z, hz1, hz2, hz3, hz4⟩ := hjt.info
  have hev := evMap hs (parts.toList.map (·.2)) vals (by rw [List.mapM_map]; exact hp')
  have hall : ∀ v ∈ vals, v.flatOk = true ∧ v.cells.length = j.size := fun v hv => by
    have := List.all_eq_true.1 hsz v hv
    simp only [Bool.and_eq_true] at this
    exact ⟨this.1, Nat.eq_of_beq_eq_true this.2⟩
  generalize hvs : (parts.toList.map (·.2)).map a.eval = vs at hev
  have hvl := hev.length
  have hvsz : ∀ v ∈ vs, v.cells.size = j.size := fun v hv => by
    obtain ⟨k, hk⟩ := List.getElem?_of_mem hv
    obtain ⟨x, hx, r⟩ := hev.get' hk
    rw [r.size]; exact (hall x (List.mem_of_getElem? hx)).2
  have hvone : ∀ c ∈ flat vs, c.oneCell' = true := fun c hc => by
    simp only [flat, List.mem_flatMap] at hc
    obtain ⟨v, hv, hc⟩ := hc
    obtain ⟨k, hk⟩ := List.getElem?_of_mem hv
    obtain ⟨x, hx, r⟩ := hev.get' hk
    exact r.ones (hall x (List.mem_of_getElem? hx)).1 c hc
  have hps : (Array.map (fun (x : Nat × Operand) => match x with | (i, x) => (i, a.eval x)) parts).toList = (List.range' 0 vs.length).zip vs := by
    have e1 : (Array.map (fun (x : Nat × Operand) => match x with | (i, x) => (i, a.eval x)) parts).toList = (parts.toList.map (·.1)).zip vs := by
      rw [← hvs]
      simp only [Array.toList_map]
      generalize parts.toList = l
      induction l with
      | nil => rfl
      | cons p l ih => simp [ih]
    rw [e1, hi, hvl, hlen]
  obtain ⟨c', g1, g2⟩ := fill_order (sz := j.size) vs 0 ((Array.range (len * j.size)).map fun k => (if len * j.size = 0 then #[] else z.cells)[k % (if len * j.size = 0 then (#[] : Array Value) else z.cells).size]!) (by simp; rw [hvl, hlen]; exact Nat.le_refl _) hvsz
  have g2' : c'.toList = flat vs := by
    rw [g2]
    simp only [Nat.zero_mul, List.take_zero, List.nil_append, Nat.zero_add]
    rw [List.drop_of_length_le (by simp; rw [hvl, hlen]; exact Nat.le_refl _)]
    simp
  have hcs : c'.size = len * j.size := by
    have := congrArg List.length g2'
    rw [flat_length hvsz, hvl, hlen] at this
    simpa using this
  refine ⟨.cells c' e, .slice (some ⟨w.heap.size, 0, none⟩) len len, ?_, fun A ρ' X' a1 a2 a3 => ⟨⟨c', e, (0, 0), vs, alloc_new _ _, fun o _ h => by omega, ?_, hvsz, fun k v hv => by rw [← g2'] at hv; simpa using hv, hvone⟩, ?_⟩⟩
  · have hb : ¬ (len * j.size > 2 ^ 24) := by
      have h1 : len * j.size ≤ 16777216 := by simpa using hbig
      omega
    simp only [execOp, ho, Instr.buildSlice, Sem.run_bind, (hT t i ht).run_und, hd, Result.andThen_ok, hjt.run_size, if_neg hb, Sem.run_pure]
    by_cases h0 : len * j.size = 0
    · simp only [if_pos h0] at g1
      simp only [if_pos h0, pure_bind, hps]
      rw [g1]
      simp only [Sem.run_bind, newRow, run_newObj_alloc, Sem.run_pure, Result.andThen_ok]
    · simp only [if_neg h0] at g1
      simp only [if_neg h0, Sem.run_bind, zeroValue, typeInfo, run_program, Result.andThen_ok, hf, hz1, Sem.run_pure, hps]
      rw [g1]
      simp only [Sem.run_bind, newRow, run_newObj_alloc, Sem.run_pure, Result.andThen_ok]
  · exact VRs.mono (alloc_pres (fun _ => False) w _) (fun _ _ h => h.elim) a3 a1 _ _ hev
  · simp only [VR]
    exact ⟨some (w.heap.size, 0), _, a2, rfl, Nat.le_refl _, fun ad h => by cases h; rfl, fun _ => ⟨w.heap.size, 0, rfl, by simp, e, c'.size, shape_eq (alloc_new w (.cells c' e)), by rw [hcs]; simp⟩⟩
theorem al_buildSlice {T : Tab} (hT : TabOk P T) {o : Oper} {t len parts e vals} {i j : TI} (ho : o.op = .buildSlice t len parts) (ht : T t = some i) (hd : i.desc = .slice e) (hj : T e = some j)
    (hp' : parts.toList.mapM (fun p => evO env p.2) = some vals) (hi : parts.toList.map (·.1) = List.range' 0 len) (hlen : vals.length = len)
    (hsz : vals.all (fun v => v.flatOk && Nat.beq v.cells.length j.size) = true) (hbig : Nat.ble (len * j.size) 16777216 = true) :
    OpAl P n n0 o env hp nx (fun A => .ref j.size A 0 len) (.arr j.size vals) := by
  intro C ρ w a hs
  obtain ⟨obj, v, h1, h2⟩ := al_buildSliceC (n := n) (n0 := n0) (hp := hp) (nx := nx) hT ho ht hd hj hp' hi hlen hsz hbig C ρ w a hs
  exact ⟨obj, v, h1, fun A ρ' X' a1 a2 a3 => ⟨(h2 A ρ' X' a1 a2 a3).1, VR_refc (h2 A ρ' X' a1 a2 a3).2⟩⟩
theorem op_buildSlice {T : Tab} (hT : TabOk P T) {o : Oper} {t len parts e vals} {i j : TI} (ho : o.op = .buildSlice t len parts) (ht : T t = some i) (hd : i.desc = .slice e) (hj : T e = some j)
    (hp' : parts.toList.mapM (fun p => evO env p.2) = some vals) (hi : parts.toList.map (·.1) = List.range' 0 len) (hlen : vals.length = len)
    (hsz : vals.all (fun v => v.flatOk && Nat.beq v.cells.length j.size) = true) (hbig : Nat.ble (len * j.size) 16777216 = true) :
    OpS P n n0 o env hp nx (.ref j.size nx 0 len) ((nx, .arr j.size vals) :: hp) (Nat.succ nx) := (al_buildSlice hT ho ht hd hj hp' hi hlen hsz hbig).opS
end
end Go.Av
namespace Go.Av
open Go

section
variable {P : Program} {n n0 : Nat} {env : Env} {hp : Hp} {nx : Nat}

/-- A bound of a slice expression: none, or a number. -/
def evB (env : Env) : Option Operand → Option (Option Int)
  | none => some none
  | some x => match evO env x with
    | some (.int _ a) => some (some a)
    | _ => none

theorem run_bounds {P : Program} {C ρ w a} (hs : SRel C n n0 env hp nx ρ w a) {lo hi : Option Operand} {l h : Option Int} (hl : evB env lo = some l) (hh : evB env hi = some h) {isS : Bool} {len cap : Nat}
    (hlc : len ≤ cap) (h1 : 0 ≤ l.getD 0) (h2 : l.getD 0 ≤ h.getD len) (h3 : h.getD len ≤ len) :
    (Instr.sliceBounds isS len cap (lo.map a.eval) (hi.map a.eval) none).run P w = .ok ((l.getD 0).toNat, (h.getD len).toNat, cap) w := by
  have key : ∀ (o : Option Operand) (x : Option Int), evB env o = some x → (o = none ∧ x = none) ∨ ∃ y k i, o = some y ∧ x = some i ∧ a.eval y = .int k i := by
    intro o x hx
    cases o with
    | none => simp [evB] at hx; exact .inl ⟨rfl, hx.symm⟩
    | some y =>
      simp only [evB] at hx
      cases hy : evO env y with
      | none => rw [hy] at hx; cases hx
      | some v =>
        rw [hy] at hx
        cases v <;> simp at hx
        case int k i =>
          have := evO_sound hs hy
          simp only [VR] at this
          exact .inr ⟨y, k, i, rfl, hx.symm, this⟩
  unfold Instr.sliceBounds
  rcases key lo l hl with ⟨rfl, rfl⟩ | ⟨y, k, i, rfl, rfl, hy⟩ <;> rcases key hi h hh with ⟨rfl, rfl⟩ | ⟨y', k', i', rfl, rfl, hy'⟩ <;>
    simp only [Option.getD_none, Option.getD_some, Option.map_none, Option.map_some] at * <;>
    simp [Instr.sliceBound, asIntOf, *]
  · omega
  · rw [if_pos (by omega), if_pos (by omega)]

theorem op_slice_str {o : Oper} {t x lo hi s l h} {i : TI} (ho : o.op = .slice t x lo hi none) (hT : TOk P t i) (hd : i.desc = .string) (hx : evO env x = some (.str s))
    (hl : evB env lo = some l) (hh : evB env hi = some h) (h1 : 0 ≤ l.getD 0) (h2 : l.getD 0 ≤ h.getD s.length) (h3 : h.getD s.length ≤ s.length) :
    OpS P n n0 o env hp nx (.str ((s.take (h.getD s.length).toNat).drop (l.getD 0).toNat)) hp nx :=
  .pure fun C ρ w st hs => by
    have e1 := evO_sound hs hx
    simp only [VR] at e1
    have hsz : (ByteArray.mk s.toArray).size = s.length := by simp [ByteArray.size]
    refine ⟨.string (ByteArray.mk ((s.take (h.getD s.length).toNat).drop (l.getD 0).toNat).toArray), ?_, by simp only [VR]⟩
    simp only [execOp, ho, Instr.sliceAt, Sem.run_bind, hT.run_und, hd, Result.andThen_ok, Instr.slice, e1, Option.map_none, hsz]
    have := run_bounds (P := P) hs hl hh (isS := false) (len := s.length) (cap := s.length) (Nat.le_refl _) h1 h2 h3
    simp only [Option.isSome_none, Bool.false_eq_true, if_false, Sem.run_bind, this, Result.andThen_ok, Sem.run_pure]
    congr 3
    apply ByteArray.ext
    simp only [ByteArray.data_extract]
    apply Array.ext'
    simp [List.extract_eq_take_drop, List.drop_take]

theorem op_slice_sl {o : Oper} {t x lo hi e sz v l h} {i j : TI} (ho : o.op = .slice t x lo hi none) (hT : TOk P t i) (hd : i.desc = .slice e) (hj : TOk P e j) (hz : Nat.beq j.size sz = true)
    (hx : evO env x = some (.sl sz v)) (hl : evB env lo = some l) (hh : evB env hi = some h) (h1 : 0 ≤ l.getD 0) (h2 : l.getD 0 ≤ h.getD v.length) (h3 : h.getD v.length ≤ v.length) :
    OpS P n n0 o env hp nx (.sl sz ((v.take (h.getD v.length).toNat).drop (l.getD 0).toNat)) hp nx :=
  .pure fun C ρ w st hs => by
    have hz := Nat.eq_of_beq_eq_true hz
    have e1 := evO_sound hs hx
    simp only [VR] at e1
    obtain ⟨ad, len, c, evs, e1, g1, g2, g3, g4, g5⟩ := e1
    subst g1
    have hb := run_bounds (P := P) hs hl hh (isS := true) (len := v.length) (cap := c) g2 h1 h2 h3
    generalize hL : (l.getD 0).toNat = L at *
    generalize hH : (h.getD v.length).toNat = H at *
    have hLH : L ≤ H := by omega
    have hHl : H ≤ v.length := by omega
    refine ⟨.slice (if c = L then ad else ad.map (·.add (L * sz))) (H - L) (c - L), ?_, ?_⟩
    · simp only [execOp, ho, Instr.sliceAt, Sem.run_bind, hT.run_und, hd, Result.andThen_ok, Instr.slice, e1, Option.map_none, hb, hj.run_size, Sem.run_pure, hz]
    · simp only [VR]
      refine ⟨_, _, _, (evs.take H).drop L, rfl, by simp; omega, by omega, (g3.take H).drop L, fun ev he => g4 ev (List.mem_of_mem_take (List.mem_of_mem_drop he)), ?_⟩
      have hel := g3.length
      cases ad with
      | none =>
        obtain ⟨rfl, rfl⟩ := g5
        have : L = 0 := by simp at hHl; omega
        subst this
        simp
      | some ad =>
        by_cases hcL : c = L
        · rw [if_pos hcL]
          intro hne
          exact absurd (List.drop_of_length_le (by simp; omega)) hne
        · rw [if_neg hcL]
          obtain ⟨b, off, spot⟩ := ad
          simp only [Option.map_some]
          intro hne
          obtain ⟨k1, k2, k3, k4⟩ := g5 (fun e => hne (by rw [e]; simp))
          simp only at k1 k2 k3; subst k1
          have hfl : flat ((evs.take H).drop L) = ((flat evs).take (H * sz)).drop (L * sz) := by
            rw [flat_take g4, flat_drop (fun ev he => g4 ev (List.mem_of_mem_take he))]
          simp only [Addr_add]
          refine ⟨rfl, fun j u hu => ?_, fun hne => ?_, fun c hc => ?_⟩
          · rw [hfl, List.getElem?_drop, List.getElem?_take] at hu
            split at hu
            · have := k2 _ _ hu
              simpa [Nat.add_assoc] using this
            · cases hu
          · exact k3 fun h => hne (by rw [hfl, h]; simp)
          · rw [hfl] at hc
            exact k4 c (List.mem_of_mem_take (List.mem_of_mem_drop hc))

theorem op_slice_ref {o : Oper} {t x lo hi e sz id off len l h} {i j : TI} (ho : o.op = .slice t x lo hi none) (hT : TOk P t i) (hd : i.desc = .slice e) (hj : TOk P e j) (hz : Nat.beq j.size sz = true)
    (hx : evO env x = some (.ref sz id off len)) (hl : evB env lo = some l) (hh : evB env hi = some h) (h1 : 0 ≤ l.getD 0) (h2 : l.getD 0 ≤ h.getD len) (h3 : h.getD len ≤ len) :
    OpS P n n0 o env hp nx (.ref sz id (off + (l.getD 0).toNat) ((h.getD len).toNat - (l.getD 0).toNat)) hp nx :=
  .pure fun C ρ w st hs => by
    have hz := Nat.eq_of_beq_eq_true hz
    have e1 := evO_sound hs hx
    simp only [VR] at e1
    obtain ⟨p, ad, c, g1, e1, g2, gsp, g3⟩ := e1
    have hb := run_bounds (P := P) hs hl hh (isS := true) (len := len) (cap := c) g2 h1 h2 h3
    generalize hL : (l.getD 0).toNat = L at *
    generalize hH : (h.getD len).toNat = H at *
    have hLH : L ≤ H := by omega
    have hHl : H ≤ len := by omega
    refine ⟨.slice (if c = L then ad else ad.map (·.add (L * sz))) (H - L) (c - L), ?_, ?_⟩
    · simp only [execOp, ho, Instr.sliceAt, Sem.run_bind, hT.run_und, hd, Result.andThen_ok, Instr.slice, e1, Option.map_none, hb, hj.run_size, Sem.run_pure, hz]
    · simp only [VR]
      refine ⟨p, _, c - L, g1, rfl, by omega, fun x hx => ?_, fun hc => ?_⟩
      · split at hx
        · exact gsp x hx
        · simp only [Option.map_eq_some_iff] at hx
          obtain ⟨y, hy, rfl⟩ := hx
          unfold Addr.add
          split
          · exact gsp y hy
          · rfl
      obtain ⟨b, base, rfl, rfl, T, nn, g4, g5⟩ := g3 (by omega)
      rw [if_neg (by omega)]
      refine ⟨b, base, rfl, by simp [Addr_add, Nat.add_mul, Nat.add_assoc], T, nn, g4, ?_⟩
      rw [show off + L + (c - L) = off + c from by omega]; exact g5

/-- An array behind a frozen pointer, all of it, as a slice (elements of one cell). -/
theorem op_slice_farr {o : Oper} {t x e len cs} {i j : TI} (ho : o.op = .slice t x none none none) (hT : TOk P t i) (hd : i.desc = .array len e) (hj : TOk P e j) (hz : Nat.beq j.size 1 = true)
    (hx : evO env x = some (.fp cs)) (hlen : Nat.ble len cs.length = true) (hone : ∀ c ∈ cs, c.isAgg = false) :
    OpS P n n0 o env hp nx (.sl 1 (cs.take len)) hp nx :=
  .pure fun C ρ w st hs => by
    have hz := Nat.eq_of_beq_eq_true hz
    have hlen : len ≤ cs.length := by simpa using hlen
    have e1 := evO_sound hs hx
    simp only [VR] at e1
    obtain ⟨ad, vs, e1, g1, g2, g3, g4, g5⟩ := e1
    obtain ⟨ab, ao, as⟩ := ad
    simp only at g2 g3 g4; subst g2
    have hvl := g1.length
    refine ⟨.slice (some ⟨ab, ao, none⟩) len len, ?_, ?_⟩
    · simp only [execOp, ho, Instr.sliceAt, Sem.run_bind, hT.run_und, hd, Result.andThen_ok, Instr.sureAddr, e1, Sem.run_pure, Option.map_none, Instr.sliceBounds, hj.run_size]
      simp [Addr_add]
    · simp only [VR]
      have hfl : ∀ (l : List AV) (us : List Value), (∀ c ∈ l, c.isAgg = false) → VRs w (XX C.ex hp ρ) (fun _ => none) l us → flat us = us ∧ ∀ u ∈ us, u.cells.size = 1 := by
        intro l
        induction l with
        | nil => intro us _ h; simp only [VRs] at h; subst h; simp [flat]
        | cons c l ih =>
          intro us hc h
          simp only [VRs] at h
          obtain ⟨v, r, rfl, h1, h2⟩ := h
          have h3 := h1.notAgg (hc c List.mem_cons_self)
          obtain ⟨h4, h5⟩ := ih r (fun x hx => hc x (List.mem_cons_of_mem _ hx)) h2
          refine ⟨by rw [flat_cons, h3, h4]; rfl, fun u hu => ?_⟩
          rcases List.mem_cons.1 hu with rfl | hu
          · rw [h3]; rfl
          · exact h5 u hu
      have hq := hfl (cs.take len) (vs.take len) (fun c hc => hone c (List.mem_of_mem_take hc)) (g1.take len)
      refine ⟨_, len, len, vs.take len, rfl, by simp; omega, Nat.le_refl _, g1.take len, hq.2, ?_⟩
      simp only [hq.1]
      intro _
      refine ⟨rfl, fun j v hv => ?_, fun hne => g4 (fun h => hne (by simp [h])), fun c hc => g5 c (List.mem_of_mem_take hc)⟩
      rw [List.getElem?_take] at hv
      split at hv
      · exact g3 j v hv
      · cases hv

theorem op_len_str {o : Oper} {x t s c} {i : TI} (ho : o.op = .call c) (hc : c.callee = .builtin .len) (ha : c.args.toList = [x]) (hat : c.argTypes.toList = [t]) (hT : TOk P t i) (hd : i.desc = .string) (hx : evO env x = some (.str s)) :
    OpS P n n0 o env hp nx (.int .i64 s.length) hp nx :=
  .pure fun C ρ w st hs => by
    have e1 := evO_sound hs hx
    simp only [VR] at e1
    have h1 : c.args = #[x] := by rw [← ha]
    have h2 : c.argTypes = #[t] := by rw [← hat]
    refine ⟨_, ?_, by simp only [VR]; rfl⟩
    simp only [execOp, ho, resolve, hc, h1, h2, Sem.run_bind, Sem.run_pure, Result.andThen_ok, invoke, builtin]
    simp [Builtin.len_, hT.run_und, hd, e1]
    simp [goInt, ByteArray.size]

theorem op_len_sl {o : Oper} {x t sz l c e} {i : TI} (ho : o.op = .call c) (hc : c.callee = .builtin .len) (ha : c.args.toList = [x]) (hat : c.argTypes.toList = [t]) (hT : TOk P t i) (hd : i.desc = .slice e) (hx : evO env x = some (.sl sz l)) :
    OpS P n n0 o env hp nx (.int .i64 l.length) hp nx :=
  .pure fun C ρ w st hs => by
    have e1 := evO_sound hs hx
    simp only [VR] at e1
    obtain ⟨ad, len, cc, evs, e1, g1, g2, g3, g4, g5⟩ := e1
    have h1 : c.args = #[x] := by rw [← ha]
    have h2 : c.argTypes = #[t] := by rw [← hat]
    refine ⟨_, ?_, by simp only [VR]; rfl⟩
    simp only [execOp, ho, resolve, hc, h1, h2, Sem.run_bind, Sem.run_pure, Result.andThen_ok, invoke, builtin]
    simp [Builtin.len_, hT.run_und, hd, e1, goInt, g1]

theorem op_len_ref {o : Oper} {x t sz id off len c e} {i : TI} (ho : o.op = .call c) (hc : c.callee = .builtin .len) (ha : c.args.toList = [x]) (hat : c.argTypes.toList = [t]) (hT : TOk P t i) (hd : i.desc = .slice e) (hx : evO env x = some (.ref sz id off len)) :
    OpS P n n0 o env hp nx (.int .i64 len) hp nx :=
  .pure fun C ρ w st hs => by
    have e1 := evO_sound hs hx
    simp only [VR] at e1
    obtain ⟨p, ad, cc, g1, e1, g2, gsp, g3⟩ := e1
    have h1 : c.args = #[x] := by rw [← ha]
    have h2 : c.argTypes = #[t] := by rw [← hat]
    refine ⟨_, ?_, by simp only [VR]; rfl⟩
    simp only [execOp, ho, resolve, hc, h1, h2, Sem.run_bind, Sem.run_pure, Result.andThen_ok, invoke, builtin]
    simp [Builtin.len_, hT.run_und, hd, e1, goInt]

theorem op_len_nil {o : Oper} {x t c e} {i : TI} (ho : o.op = .call c) (hc : c.callee = .builtin .len) (ha : c.args.toList = [x]) (hat : c.argTypes.toList = [t]) (hT : TOk P t i) (hd : i.desc = .slice e) (hx : evO env x = some .nilsl) :
    OpS P n n0 o env hp nx (.int .i64 0) hp nx :=
  .pure fun C ρ w st hs => by
    have e1 := evO_sound hs hx
    simp only [VR] at e1
    have h1 : c.args = #[x] := by rw [← ha]
    have h2 : c.argTypes = #[t] := by rw [← hat]
    refine ⟨_, ?_, by simp only [VR]; rfl⟩
    simp only [execOp, ho, resolve, hc, h1, h2, Sem.run_bind, Sem.run_pure, Result.andThen_ok, invoke, builtin]
    simp [Builtin.len_, hT.run_und, hd, e1, goInt]
end
end Go.Av
namespace Go.Av
open Go

/-- The elements of a slice, wherever it lies. -/
def rdA (hp : Hp) (sz : Nat) : AV → Option (List AV)
  | .nilsl => some []
  | .sl s l => match Nat.beq s sz with | true => some l | false => none
  | .ref s id off len => match Nat.beq s sz, getB hp id with
    | true, some (.arr s' els) => match Nat.beq s' sz, Nat.ble (off + len) els.length with
      | true, true => some ((els.drop off).take len)
      | _, _ => none
    | _, _ => none
  | .refc s id off len _ => match Nat.beq s sz, getB hp id with
    | true, some (.arr s' els) => match Nat.beq s' sz, Nat.ble (off + len) els.length with
      | true, true => some ((els.drop off).take len)
      | _, _ => none
    | _, _ => none
  | _ => none

section
variable {P : Program} {n n0 : Nat} {env : Env} {hp : Hp} {nx : Nat}

theorem rd_sound {C ρ w} (hs : HRel C n0 hp nx ρ w) {sz : Nat} {av : AV} {l : List AV} {v : Value} (h : rdA hp sz av = some l) (hv : VR w (XX C.ex hp ρ) ρ av v) :
    ∃ a c evs, v = .slice a l.length c ∧ l.length ≤ c ∧ VRs w (XX C.ex hp ρ) ρ l evs ∧ (∀ ev ∈ evs, ev.cells.size = sz) ∧ (∀ x ∈ flat evs, x.oneCell' = true) ∧
      (match a with
       | some ad => (l ≠ [] → ad.spot = none) ∧ ∀ j x, (flat evs)[j]? = some x → w.cell? ⟨ad.block, ad.off + j, none⟩ = some x
       | none => l = []) := by
  cases av <;> simp only [rdA, reduceCtorEq] at h
  case nilsl =>
    cases h
    simp only [VR] at hv; subst hv
    exact ⟨none, 0, [], rfl, Nat.le_refl _, by simp [VRs], by simp, by simp [flat], rfl⟩
  case sl s l' =>
    split at h
    · rename_i hsz
      have hsz := Nat.eq_of_beq_eq_true hsz
      cases h; subst hsz
      simp only [VR] at hv
      obtain ⟨ad, len, c, evs, e1, g1, g2, g3, g4, g5⟩ := hv
      subst g1
      refine ⟨ad, c, evs, e1, g2, VRs_none g3, g4, ?_, ?_⟩
      · cases ad with
        | none => obtain ⟨rfl, _⟩ := g5; simp only [VRs] at g3; subst g3; simp [flat]
        | some ad =>
          by_cases hl : l = []
          · subst hl; simp only [VRs] at g3; subst g3; simp [flat]
          · exact (g5 hl).2.2.2
      · cases ad with
        | none => exact g5.1
        | some ad =>
          refine ⟨fun hl => (g5 hl).1, fun j x hx => ?_⟩
          by_cases hl : l = []
          · subst hl; simp only [VRs] at g3; subst g3; simp [flat] at hx
          · exact (g5 hl).2.1 j x hx
    · cases h
  case ref s id off len =>
    split at h
    · rename_i s' els hsz hb
      have hsz := Nat.eq_of_beq_eq_true hsz
      split at h
      · rename_i hs' hle
        have hs' := Nat.eq_of_beq_eq_true hs'
        have hle : off + len ≤ els.length := by simpa using hle
        cases h; subst hsz; subst hs'
        simp only [VR] at hv
        obtain ⟨p, ad, c, g1, e1, g2, gsp, g3⟩ := hv
        have hll : ((els.drop off).take len).length = len := by simp; omega
        obtain ⟨p', hp1, hbr⟩ := hs.blk id _ hb
        rw [g1] at hp1; cases hp1
        rcases Nat.eq_zero_or_pos c with hc | hc
        · have : len = 0 := by omega
          subst this
          refine ⟨ad, c, [], by rw [hll]; exact e1, by rw [hll]; exact g2, by simp [VRs], by simp, by simp [flat], ?_⟩
          cases ad with
          | none => simp
          | some ad => exact ⟨fun h => absurd (by simp) h, fun j x hx => by simp [flat] at hx⟩
        · obtain ⟨b, base, rfl, rfl, T, nn, g4, g5⟩ := g3 (by omega)
          obtain ⟨cc, T', fz, evs, h1, h2, h3, h4, h5, h6⟩ := hbr
          refine ⟨some ⟨b, base + off * s', none⟩, c, (evs.drop off).take len, by rw [hll]; exact e1, by rw [hll]; exact g2, (h3.drop off).take len, fun ev he => h4 ev (List.mem_of_mem_drop (List.mem_of_mem_take he)), ?_, fun _ => rfl, ?_⟩
          · intro x hx
            simp only [flat, List.mem_flatMap] at hx
            obtain ⟨ev, he, hx⟩ := hx
            exact h6 x (mem_flat (List.mem_of_mem_drop (List.mem_of_mem_take he)) hx)
          · intro j x hx
            rw [← flat_take (sz := s') (fun ev he => h4 ev (List.mem_of_mem_drop he)), ← flat_drop h4, List.getElem?_take] at hx
            split at hx
            · rw [List.getElem?_drop] at hx
              have := h5 _ _ hx
              rw [cell_eq h1]
              simpa [Nat.add_assoc] using this
            · cases hx
      · cases h
    · cases h
  case refc s id off len cap0 =>
    have hv := VR_refc hv
    split at h
    · rename_i s' els hsz hb
      have hsz := Nat.eq_of_beq_eq_true hsz
      split at h
      · rename_i hs' hle
        have hs' := Nat.eq_of_beq_eq_true hs'
        have hle : off + len ≤ els.length := by simpa using hle
        cases h; subst hsz; subst hs'
        simp only [VR] at hv
        obtain ⟨p, ad, c, g1, e1, g2, gsp, g3⟩ := hv
        have hll : ((els.drop off).take len).length = len := by simp; omega
        obtain ⟨p', hp1, hbr⟩ := hs.blk id _ hb
        rw [g1] at hp1; cases hp1
        rcases Nat.eq_zero_or_pos c with hc | hc
        · have : len = 0 := by omega
          subst this
          refine ⟨ad, c, [], by rw [hll]; exact e1, by rw [hll]; exact g2, by simp [VRs], by simp, by simp [flat], ?_⟩
          cases ad with
          | none => simp
          | some ad => exact ⟨fun h => absurd (by simp) h, fun j x hx => by simp [flat] at hx⟩
        · obtain ⟨b, base, rfl, rfl, T, nn, g4, g5⟩ := g3 (by omega)
          obtain ⟨cc, T', fz, evs, h1, h2, h3, h4, h5, h6⟩ := hbr
          refine ⟨some ⟨b, base + off * s', none⟩, c, (evs.drop off).take len, by rw [hll]; exact e1, by rw [hll]; exact g2, (h3.drop off).take len, fun ev he => h4 ev (List.mem_of_mem_drop (List.mem_of_mem_take he)), ?_, fun _ => rfl, ?_⟩
          · intro x hx
            simp only [flat, List.mem_flatMap] at hx
            obtain ⟨ev, he, hx⟩ := hx
            exact h6 x (mem_flat (List.mem_of_mem_drop (List.mem_of_mem_take he)) hx)
          · intro j x hx
            rw [← flat_take (sz := s') (fun ev he => h4 ev (List.mem_of_mem_drop he)), ← flat_drop h4, List.getElem?_take] at hx
            split at hx
            · rw [List.getElem?_drop] at hx
              have := h5 _ _ hx
              rw [cell_eq h1]
              simpa [Nat.add_assoc] using this
            · cases hx
      · cases h
    · cases h

theorem run_firstCells {C ρ w} (hs : HRel C n0 hp nx ρ w) {sz : Nat} {av : AV} {l : List AV} {v : Value} (h : rdA hp sz av = some l) (hv : VR w (XX C.ex hp ρ) ρ av v) :
    ∃ evs, VRs w (XX C.ex hp ρ) ρ l evs ∧ (∀ ev ∈ evs, ev.cells.size = sz) ∧ (∀ x ∈ flat evs, x.oneCell' = true) ∧ (Builtin.lenOf v).run P w = .ok l.length w ∧
      ∀ k (w1 : World), k ≤ l.length → (∀ p, w1.cell? p = w.cell? p) → (Builtin.firstCells sz k v).run P w1 = .ok (flat (evs.take k)).toArray w1 := by
  obtain ⟨a, c, evs, rfl, g2, g3, g4, g5, g6⟩ := rd_sound hs h hv
  refine ⟨evs, g3, g4, g5, by simp [Builtin.lenOf], fun k w1 hk hw1 => ?_⟩
  have hel := g3.length
  cases a with
  | none => subst g6; simp at hk; subst hk; simp [Builtin.firstCells, flat]
  | some ad =>
    obtain ⟨b, off, spot⟩ := ad
    simp only [Builtin.firstCells]
    have hlen : (flat (evs.take k)).length = k * sz := by
      rw [flat_length (sz := sz) (fun ev he => g4 ev (List.mem_of_mem_take he))]; simp; rw [Nat.min_eq_left (by omega)]
    rw [← hlen]
    rcases Nat.eq_zero_or_pos (flat (evs.take k)).length with h0 | h0
    · rw [h0]
      have : flat (evs.take k) = [] := List.eq_nil_of_length_eq_zero h0
      rw [this]
      simp [loadCells, loadCellsFrom]
    · have hc : l ≠ [] := by
        intro hc
        subst hc
        have : k = 0 := by simpa using hk
        subst this
        simp [flat] at h0
      have hsp := g6.1 hc
      simp only at hsp; subst hsp
      refine run_loadCells_list w1 ⟨b, off, none⟩ _ fun j x hx => ?_
      rw [Addr_add, hw1]
      refine g6.2 j x ?_
      rw [← flat_take g4, List.getElem?_take] at hx
      split at hx
      · exact hx
      · cases hx

theorem growBy_le (need : Nat) (hn : 256 ≤ need) : ∀ (k c : Nat), c ≤ 2 * need → 256 ≤ c → Builtin.growBy need k c ≤ 2 * need
  | 0, c, h, _ => h
  | k + 1, c, h, h2 => by
    simp only [Builtin.growBy]
    split
    · exact h
    · exact growBy_le need hn k _ (by omega) (by omega)
theorem nextslicecap_le {need old : Nat} (h : old < need) : Builtin.nextslicecap need old ≤ 2 * need := by
  unfold Builtin.nextslicecap
  split
  · omega
  · split
    · omega
    · exact growBy_le need (by omega) 4 old (by omega) (by omega)

theorem World.alloc_heap_size (w : World) (o : Obj) : (w.alloc o).heap.size = w.heap.size + 1 := by simp

theorem zeroCells_size (z : Array Value) (k : Nat) : (Builtin.zeroCells z k).size = k * z.size := by simp [Builtin.zeroCells]

theorem op_append {o : Oper} {x y t t2 c e sz id off len els l2 av} {i j i2 : TI} (ho : o.op = .call c) (hc : c.callee = .builtin .append) (ha : c.args.toList = [x, y]) (hat : c.argTypes.toList = [t, t2])
    (hT : TOk P t i) (hd : i.desc = .slice e) (hj : TOk P e j) (hT2 : TOk P t2 i2) (hd2 : (match i2.desc with | .slice _ => true | _ => false) = true) (hz : Nat.beq j.size sz = true)
    (hx : evO env x = some (.ref sz id off len)) (hb : getB hp id = some (.arr sz els)) (hend : els.length = off + len) (hy : evO env y = some av) (hr : rdA hp sz av = some l2)
    (hby : 0 < j.bytes) (hbig : (len + l2.length) * j.bytes ≤ 140737488355328) :
    OpS P n n0 o env hp nx (.ref sz nx 0 (len + l2.length)) ((nx, .arr sz (els.drop off ++ l2)) :: (id, .dead) :: hp) (nx + 1) := by
  intro C ρ w a hs
  have hz := Nat.eq_of_beq_eq_true hz
  have e1 := evO_sound hs hx
  have e2 := evO_sound hs hy
  have e1' := e1
  obtain ⟨evs2, r1, r2, r3, r4, r5⟩ := run_firstCells (P := P) hs.toHRel hr e2
  have hrx : rdA hp sz (.ref sz id off len) = some (els.drop off) := by
    simp only [rdA, hb, Nat.beq_refl]
    rw [show Nat.ble (off + len) els.length = true from by rw [Nat.ble_eq]; omega]
    simp only [Option.some.injEq]
    exact List.take_of_length_le (by simp; omega)
  obtain ⟨evs1, q1, q2, q3, q4, q5⟩ := run_firstCells (P := P) hs.toHRel hrx e1
  simp only [VR] at e1
  obtain ⟨p, ad, cap, g1, e1, g2, gsp, g3⟩ := e1
  have hl1 := q1.length
  have hl2 := r1.length
  simp only [List.length_drop] at hl1 q5
  have hdl : els.length - off = len := by omega
  rw [hdl] at hl1 q5
  have ha' : c.args = #[x, y] := by rw [← ha]
  have hat' : c.argTypes = #[t, t2] := by rw [← hat]
  have hn := hs.fresh nx (Nat.le_refl _)
  have hidnx : id ≠ nx := fun h => by subst h; rw [hn] at g1; cases g1
  obtain ⟨f, hf, hf1, hf2, z, hz1, hz2, hz3, hz4⟩ := hj.info
  have hzeros : ∀ w : World, (do pure ((← underlying t2) matches .int _) : Sem Bool).run P w = .ok false w := fun w => by
    simp only [Sem.run_bind, hT2.run_und, Result.andThen_ok, Sem.run_pure]
    cases hdd : i2.desc <;> simp_all
  have hold : ∀ i b, getB ((nx, .arr sz (els.drop off ++ l2)) :: (id, .dead) :: hp) i = some b → i = nx ∧ b = .arr sz (els.drop off ++ l2) ∨ i ≠ nx ∧ i ≠ id ∧ getB hp i = some b := fun i b h => by
    rw [getB_cons] at h
    split at h
    · rename_i h1; simp only [live, Option.some.injEq] at h; exact .inl ⟨h1.symm, h.symm⟩
    · rename_i h1
      rw [getB_cons] at h
      split at h
      · simp [live] at h
      · rename_i h2; exact .inr ⟨Ne.symm h1, Ne.symm h2, h⟩
  have hev12 : VRs w (XX C.ex hp ρ) ρ (els.drop off ++ l2) (evs1 ++ evs2) := q1.append r1
  have hsz12 : ∀ ev ∈ evs1 ++ evs2, ev.cells.size = sz := fun ev he => (List.mem_append.1 he).elim (q2 ev) (r2 ev)
  have hone12 : ∀ x ∈ flat (evs1 ++ evs2), x.oneCell' = true := fun x hx => by
    rw [flat_append] at hx; exact (List.mem_append.1 hx).elim (q3 x) (r3 x)
  have hfl1 : (flat evs1).length = len * sz := by rw [flat_length q2, hl1]
  have hfl2 : (flat evs2).length = l2.length * sz := by rw [flat_length r2, hl2]
  -- the run, up to the choice
  have hrun0 : (execOp a.eval o).run P w = ((Builtin.append_ #[t, t2] o.type #[.slice ad len cap, a.eval y]).run P w).andThen fun v w' => .ok (.value v) w' := by
    simp only [execOp, ho, resolve, hc, ha', hat', Sem.run_bind, Sem.run_pure, Result.andThen_ok, invoke, builtin]
    simp only [List.map_toArray, List.map_cons, List.map_nil, e1]
  have htk1 : evs1.take len = evs1 := List.take_of_length_le (by omega)
  have htk2 : evs2.take l2.length = evs2 := List.take_of_length_le (by omega)
  have q6 := q5 len w.drew (Nat.le_refl _) (fun _ => rfl)
  have r6 := r5 l2.length w.drew (Nat.le_refl _) (fun _ => rfl)
  rw [htk1, e1] at q6
  rw [htk2] at r6
  have q5' := q5 len w (Nat.le_refl _) (fun _ => rfl)
  have r5' := r5 l2.length w (Nat.le_refl _) (fun _ => rfl)
  rw [htk1, e1] at q5'
  rw [htk2] at r5'
  by_cases hroom : len + l2.length ≤ cap
  · -- in place
    have hrun1 : ∀ w1 v1, (do
        if let some b := ad then storeCells (b.add (len * sz)) (flat evs2)
        pure (.slice ad (len + l2.length) cap) : Sem Value).run P w = .ok v1 w1 →
        (execOp a.eval o).run P w = .ok (.value v1) w1 := by
      intro w1 v1 h
      rw [hrun0]
      unfold Builtin.append_
      simp only [List.getElem?_toArray, List.getElem?_cons_zero, List.getElem?_cons_succ, Sem.run_bind, hT.run_und, hd, Result.andThen_ok, hj.run_size, hz, hT2.run_und]
      cases hdd : i2.desc <;> simp [hdd] at hd2
      simp only [Sem.run_pure, Result.andThen_ok, Bool.false_eq_true, if_false, r4, if_pos hroom, Sem.run_bind, Bool.not_false, if_true, r5']
      cases ad <;> simp_all
    rcases Nat.eq_zero_or_pos cap with hc0 | hc0
    · -- nothing there, nothing added
      have hlen0 : len = 0 := by omega
      have hl20 : l2 = [] := List.eq_nil_of_length_eq_zero (by omega)
      have he20 : evs2 = [] := List.eq_nil_of_length_eq_zero (by rw [hl2, hl20]; rfl)
      have hdr : els.drop off ++ l2 = [] := by rw [hl20, List.append_nil]; exact List.drop_of_length_le (by omega)
      have hch := hs.change (fun _ => False) (Pres.refl _ w) (fun _ _ h => h.elim) (ρ' := updR ρ nx none) (hp' := (nx, .arr sz (els.drop off ++ l2)) :: (id, .dead) :: hp) (nx' := nx + 1)
        (fun i p hi => by
          by_cases e : i = nx
          · subst e; rw [hn] at hi; cases hi
          · simp [updR, e, hi])
        (fun i hi => by have := hs.le; simp only [updR]; rw [if_neg (by omega)]) (by omega)
        (fun i hi => by simp only [updR]; rw [if_neg (by omega)]; exact hs.fresh i (by omega))
        (fun i b hb' => by
          rcases hold i b hb' with ⟨rfl, rfl⟩ | ⟨h1, h2, h3⟩
          · refine .inr ⟨none, by simp [updR], ?_, fun r base h => by cases h⟩
            simp only [BR]; exact hdr
          · exact .inl ⟨h3, fun _ _ _ h => h⟩)
        (fun i i' b b' r base base' h1 h2 h3 h4 => by
          rcases hold i b h1 with ⟨rfl, rfl⟩ | ⟨k1, k2, k3⟩ <;> rcases hold i' b' h2 with ⟨rfl, rfl⟩ | ⟨k1', k2', k3'⟩
          · rfl
          · simp [updR] at h3
          · simp [updR] at h4
          · simp only [updR, if_neg k1] at h3
            simp only [updR, if_neg k1'] at h4
            exact hs.inj i i' b b' r base base' k3 k3' h3 h4)
      refine ⟨.slice ad (len + l2.length) cap, w, updR ρ nx none, .inl (hrun1 w _ ?_), hch.1, ?_, fun h => absurd (congrArg List.length h) (by simp only [List.length_cons]; omega), hch.2.2⟩
      · rw [he20]
        cases ad <;> simp [flat, storeCells]
      · simp only [VR]
        exact ⟨none, ad, cap, by simp [updR], rfl, hroom, gsp, fun h => (by omega)⟩
    · obtain ⟨b, base, rfl, rfl, T, nn, g4, g5⟩ := g3 (by omega)
      obtain ⟨p', hp1, hbr⟩ := hs.blk id _ hb
      rw [g1] at hp1; cases hp1
      obtain ⟨cc, T', fz, evs, h1, h2, h3, h4, h5, h6⟩ := hbr
      have hnn : nn = cc.size := by rw [shape_eq h1] at g4; cases g4; rfl
      have hbound : base + (off + len) * sz + (flat evs2).length ≤ cc.size := by
        rw [hfl2]
        have : (off + len + l2.length) * sz ≤ (off + cap) * sz := Nat.mul_le_mul_right _ (by omega)
        rw [Nat.add_mul (off + len)] at this
        omega
      obtain ⟨c', s1, s2, s3, s4, s5, s6, s7, s8⟩ := setCells_spec b (flat evs2) (base + (off + len) * sz) w cc T' fz h1 hbound
      have hP := setCells_pres (o := base + (off + len) * sz) (vs := flat evs2) h1 hbound
      have hown : Owned hp ρ b := ⟨id, _, base, hb, g1⟩
      have hb0 : b < w.heap.size := (Array.getElem?_eq_some_iff.1 h1).1
      have hevl := h3.length
      -- what the old elements are
      have hxx : ∀ (r : Nat), XX C.ex ((nx, .arr sz (els.drop off ++ l2)) :: (id, .dead) :: hp) (updR ρ nx (some (b, base + off * sz))) r → XX C.ex hp ρ r := by
        rintro r (h | ⟨i, bb, base', k1, k2⟩)
        · exact .inl h
        · rcases hold i bb k1 with ⟨rfl, rfl⟩ | ⟨k3, k4, k5⟩
          · simp [updR] at k2; rw [← k2.1]; exact .inr hown
          · simp only [updR, if_neg k3] at k2; exact .inr ⟨i, bb, base', k5, k2⟩
      have hrho : ∀ i p, ρ i = some p → updR ρ nx (some (b, base + off * sz)) i = some p := fun i p hi => by
        by_cases e : i = nx
        · subst e; rw [hn] at hi; cases hi
        · simp [updR, e, hi]
      have hfe : flat evs1 = (flat evs).drop (off * sz) := by
        -- both read the same cells
        have hlen : ((flat evs).drop (off * sz)).length = len * sz := by
          rw [List.length_drop, flat_length h4, hevl, hend, Nat.add_mul]; omega
        apply List.ext_getElem?
        intro k
        by_cases hk : k < len * sz
        · obtain ⟨a', c'', evs1', z1, z2, z3, z4, z5, z6⟩ := rd_sound hs.toHRel hrx e1'
          have hget1 : ∃ u, (flat evs1)[k]? = some u := ⟨_, List.getElem?_eq_getElem (by omega)⟩
          obtain ⟨u, hu⟩ := hget1
          have hload := q5'
          have hlc : (Builtin.firstCells sz len (.slice (some ⟨b, base + off * sz, none⟩) len cap)).run P w = .ok ((flat evs).drop (off * sz)).toArray w := by
            simp only [Builtin.firstCells]
            rw [← hlen]
            refine run_loadCells_list w _ _ fun m x hx => ?_
            rw [Addr_add, cell_eq h1]
            rw [List.getElem?_drop] at hx
            have := h5 _ _ hx
            simpa [Nat.add_assoc] using this
          rw [hlc] at hload
          have : (flat evs).drop (off * sz) = flat evs1 := by simpa using hload
          rw [this]
        · rw [List.getElem?_eq_none (by omega), List.getElem?_eq_none (by omega)]
      have hch := hs.change (fun r => r = b) hP (fun r _ hr => hr ▸ hown) (ρ' := updR ρ nx (some (b, base + off * sz))) (hp' := (nx, .arr sz (els.drop off ++ l2)) :: (id, .dead) :: hp) (nx' := nx + 1) hrho
        (fun i hi => by have := hs.le; simp only [updR]; rw [if_neg (by omega)]) (by omega)
        (fun i hi => by simp only [updR]; rw [if_neg (by omega)]; exact hs.fresh i (by omega))
        (fun i bb hb' => by
          rcases hold i bb hb' with ⟨rfl, rfl⟩ | ⟨k1, k2, k3⟩
          · refine .inr ⟨some (b, base + off * sz), by simp [updR], ⟨c', T', fz, evs1 ++ evs2, s1, fun o ho' => h2 o (by omega), ?_, hsz12, ?_, hone12⟩, fun r base' h => by cases h; exact ⟨.inl hown, by rw [s5]; exact hb0⟩⟩
            · exact VRs.mono hP (fun r _ hr => .inr (by subst hr; exact hown)) (fun r _ h => hxx r h) hrho _ _ hev12
            · intro m v hm
              rw [flat_append] at hm
              rw [s3]
              by_cases hm1 : m < len * sz
              · rw [List.getElem?_append_left (by omega)] at hm
                rw [if_neg (by rw [Nat.add_mul]; omega)]
                rw [hfe, List.getElem?_drop] at hm
                have := h5 _ _ hm
                simpa [Nat.add_assoc] using this
              · rw [List.getElem?_append_right (by omega), hfl1] at hm
                have hlt : m - len * sz < (flat evs2).length := (List.getElem?_eq_some_iff.1 hm).1
                rw [if_pos (by rw [Nat.add_mul]; omega), ← hm]
                congr 1
                rw [Nat.add_mul]; omega
          · exact .inl ⟨k3, fun r base' hr he => k2 (by subst he; exact (hs.inj id i _ bb r base base' hb k3 g1 hr).symm)⟩)
        (fun i i' bb bb' r base1 base2 h1 h2 h3 h4 => by
          rcases hold i bb h1 with ⟨rfl, rfl⟩ | ⟨k1, k2, k3⟩ <;> rcases hold i' bb' h2 with ⟨rfl, rfl⟩ | ⟨k1', k2', k3'⟩
          · rfl
          · simp [updR] at h3
            simp only [updR, if_neg k1'] at h4
            obtain ⟨rfl, _⟩ := h3
            exact (k2' (hs.inj id i' _ bb' b base base2 hb k3' g1 h4).symm).elim
          · simp [updR] at h4
            simp only [updR, if_neg k1] at h3
            obtain ⟨rfl, _⟩ := h4
            exact (k2 (hs.inj id i _ bb b base base1 hb k3 g1 h3).symm).elim
          · simp only [updR, if_neg k1] at h3
            simp only [updR, if_neg k1'] at h4
            exact hs.inj i i' bb bb' r base1 base2 k3 k3' h3 h4)
      refine ⟨.slice (some ⟨b, base + off * sz, none⟩) (len + l2.length) cap, w.setCells b (base + (off + len) * sz) (flat evs2), _, .inl (hrun1 _ _ ?_), hch.1, ?_, fun h => absurd (congrArg List.length h) (by simp only [List.length_cons]; omega), hch.2.2⟩
      · simp only [Sem.run_bind, Addr_add]
        rw [show base + off * sz + len * sz = base + (off + len) * sz from by rw [Nat.add_mul]; omega]
        rw [run_storeCells_cells b (base + (off + len) * sz) (flat evs2) 0 w (fun k hk => by
            rw [Nat.add_zero, cell_eq h1, Array.getElem?_eq_getElem (by omega)]; rfl)
          (fun k hk => by
            rw [Nat.add_zero, frozen_eq h1]
            have := h2 (base + (off + len) * sz + k) (by omega)
            simp only [Bool.and_eq_false_iff, decide_eq_false_iff_not]
            omega) r3]
        simp
      · simp only [VR]
        refine ⟨some (b, base + off * sz), _, cap, by simp [updR], rfl, hroom, fun ad h => by cases h; rfl, fun _ => ⟨b, base + off * sz, rfl, by simp, T', c'.size, shape_eq s1, ?_⟩⟩
        rw [s2]
        simp only [Nat.zero_add]
        rw [Nat.add_mul] at g5; omega
  · -- a new row
    have hlt : cap < len + l2.length := by omega
    have hcapb : ¬ (Builtin.nextslicecap (len + l2.length) cap * f.bytes > 2 ^ 48) := by
      have h1 := nextslicecap_le hlt
      have h2 : Builtin.nextslicecap (len + l2.length) cap * j.bytes ≤ 2 * (len + l2.length) * j.bytes := Nat.mul_le_mul_right _ h1
      rw [hf2]
      rw [Nat.mul_assoc] at h2
      omega
    generalize hnc : (Question.appendCap (len + l2.length) cap e).cut (w.tape w.drawn (.appendCap (len + l2.length) cap e)) = newCap
    have hncge : len + l2.length ≤ newCap := by rw [← hnc]; simp only [Question.cut]; omega
    have hbr0 : ∀ rest : Array Value, BR ((w.drew).alloc (.cells ((flat evs1).toArray ++ (flat evs2).toArray ++ rest) e)) (XX C.ex ((nx, .arr sz (els.drop off ++ l2)) :: (id, .dead) :: hp) (updR ρ nx (some (w.heap.size, 0))))
        (updR ρ nx (some (w.heap.size, 0))) (.arr sz (els.drop off ++ l2)) (some (w.heap.size, 0)) := by
      intro rest
      refine ⟨_, e, (0, 0), evs1 ++ evs2, alloc_new _ _, fun o _ h => by omega, ?_, hsz12, fun m v hm => ?_, hone12⟩
      · refine VRs.mono ((drew_pres (fun _ => False) w).trans ((alloc_pres (fun _ => False) w.drew _).mono fun _ _ h => h.elim)) (fun _ _ h => h.elim) (fun r hlt h => ?_) (fun i p hi => ?_) _ _ hev12
        · rcases h with h | ⟨i, bb, base, k1, k2⟩
          · exact .inl h
          · rcases hold i bb k1 with ⟨rfl, rfl⟩ | ⟨k3, k4, k5⟩
            · simp [updR] at k2; omega
            · simp only [updR, if_neg k3] at k2; exact .inr ⟨i, bb, base, k5, k2⟩
        · by_cases ee : i = nx
          · subst ee; rw [hn] at hi; cases hi
          · simp [updR, ee, hi]
      · rw [flat_append] at hm
        have hlt2 : m < (flat evs1 ++ flat evs2).length := (List.getElem?_eq_some_iff.1 hm).1
        rw [Nat.zero_add, Array.getElem?_append_left (by simpa using hlt2)]
        simpa using hm
    obtain ⟨rest, hrest⟩ : ∃ rest : Array Value, rest = Builtin.zeroCells z.cells (newCap - (len + l2.length)) := ⟨_, rfl⟩
    have hch := hs.change (fun _ => False) ((drew_pres (fun _ => False) w).trans ((alloc_pres (fun _ => False) w.drew (.cells ((flat evs1).toArray ++ (flat evs2).toArray ++ rest) e)).mono fun _ _ h => h.elim)) (fun _ _ h => h.elim)
      (ρ' := updR ρ nx (some (w.heap.size, 0))) (hp' := (nx, .arr sz (els.drop off ++ l2)) :: (id, .dead) :: hp) (nx' := nx + 1)
      (fun i p hi => by
        by_cases ee : i = nx
        · subst ee; rw [hn] at hi; cases hi
        · simp [updR, ee, hi])
      (fun i hi => by have := hs.le; simp only [updR]; rw [if_neg (by omega)]) (by omega)
      (fun i hi => by simp only [updR]; rw [if_neg (by omega)]; exact hs.fresh i (by omega))
      (fun i bb hb' => by
        rcases hold i bb hb' with ⟨rfl, rfl⟩ | ⟨k1, k2, k3⟩
        · exact .inr ⟨some (w.heap.size, 0), by simp [updR], hbr0 rest, fun r base' h => by cases h; exact ⟨.inr (Nat.le_refl _), by rw [World.alloc_heap_size]; exact Nat.lt_succ_self _⟩⟩
        · exact .inl ⟨k3, fun _ _ _ h => h⟩)
      (fun i i' bb bb' r base1 base2 h1 h2 h3 h4 => by
        have hOw : ∀ i bb r base, i ≠ nx → getB hp i = some bb → updR ρ nx (some (w.heap.size, 0)) i = some (some (r, base)) → r < w.heap.size := fun i bb r base hne hb hr => by
          simp only [updR, if_neg hne] at hr
          exact (hs.own i bb r base hb hr).2.2
        rcases hold i bb h1 with ⟨rfl, rfl⟩ | ⟨k1, k2, k3⟩ <;> rcases hold i' bb' h2 with ⟨rfl, rfl⟩ | ⟨k1', k2', k3'⟩
        · rfl
        · have := hOw i' bb' r base2 k1' k3' h4
          simp [updR] at h3; omega
        · have := hOw i bb r base1 k1 k3 h3
          simp [updR] at h4; omega
        · simp only [updR, if_neg k1] at h3
          simp only [updR, if_neg k1'] at h4
          exact hs.inj i i' bb bb' r base1 base2 k3 k3' h3 h4)
    refine ⟨.slice (some ⟨w.heap.size, 0, none⟩) (len + l2.length) newCap, _, _, .inl ?_, hch.1, ?_, fun h => absurd (congrArg List.length h) (by simp only [List.length_cons]; omega), hch.2.2⟩
    · rw [hrun0]
      unfold Builtin.append_
      simp only [List.getElem?_toArray, List.getElem?_cons_zero, List.getElem?_cons_succ, Sem.run_bind, hT.run_und, hd, Result.andThen_ok, hj.run_size, hz, hT2.run_und]
      cases hdd : i2.desc <;> simp [hdd] at hd2
      have hti : ∀ w : World, (typeInfo e).run P w = .ok f w := fun w => by simp [typeInfo, hf]
      have hzv : ∀ w : World, (zeroValue e).run P w = .ok z w := fun w => by simp [zeroValue, typeInfo, hf, hz1]
      simp only [Sem.run_pure, Result.andThen_ok, Bool.false_eq_true, if_false, r4, if_neg hroom, Sem.run_bind, hti]
      have hask : ∀ (k : Nat) (w : World), (askRoom k).run P w = .ok () w := fun k w => by
        unfold askRoom; split <;> simp [mark, Sem.run]
      rw [if_neg (by rintro ⟨_, h | h⟩; exact h; omega)]
      simp only [Sem.run_bind, hti, Result.andThen_ok, if_neg hcapb, run_choose_drew, Question.forced, Bool.false_eq_true, if_false, hnc, hask, q6, Bool.not_false, if_true, r6, hzv, newRow, run_newObj_alloc, Sem.run_pure]
      rw [hrest]
      rfl
    · simp only [VR]
      refine ⟨some (w.heap.size, 0), _, newCap, by simp [updR], rfl, hncge, fun ad h => by cases h; rfl, fun _ => ⟨w.heap.size, 0, rfl, by simp, e, _, shape_eq (alloc_new w.drew _), ?_⟩⟩
      simp only [Nat.zero_add, Array.size_append, List.size_toArray, hfl1, hfl2, hrest, zeroCells_size, hz2, hz]
      rw [← Nat.add_mul, ← Nat.add_mul, show len + l2.length + (newCap - (len + l2.length)) = newCap from by omega]
      exact Nat.le_refl _
end
end Go.Av
