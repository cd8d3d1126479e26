/- Part 6 of the proof: what the operations of the model do to values as Lean sees them, and plain laws. -/
import Derived.IntWalk
import Derived.Lib.Bytealg
import Derived.Lib.Overlaps
import Derived.Laws.BytesString
import Derived.Test.YtikkobmghmphaaaDoorP05
namespace Go.Av
open Go

section
variable {P : Program} {n n0 : Nat} {env : Env} {hp : Hp} {nx : Nat} {K : Kont} {s : List Fr}

/-- Nothing appended. -/
theorem op_appendC_nil {o : Oper} {x y t t2 c e sz id off len cap av} {i j i2 : TI} (ho : o.op = .call c) (hc : c.callee = .builtin .append) (ha : c.args.toList = [x, y]) (hat : c.argTypes.toList = [t, t2])
    (hT : TOk P t i) (hd : i.desc = .slice e) (hj : TOk P e j) (hT2 : TOk P t2 i2) (hd2 : (match i2.desc with | .slice _ => true | _ => false) = true) (hz : Nat.beq j.size sz = true)
    (hx : evO env x = some (.refc sz id off len cap)) (hy : evO env y = some av) (hr : rdA hp sz av = some []) :
    OpS P n n0 o env hp nx (.refc sz id off len cap) hp nx :=
  .pure fun C ρ w a hs => by
  have hz := Nat.eq_of_beq_eq_true hz
  have e1 := evO_sound hs hx
  have e2 := evO_sound hs hy
  have e1' := e1
  obtain ⟨evs2, r1, r2, r3, r4, r5⟩ := run_firstCells (P := P) hs.toHRel hr e2
  have r1 : evs2 = [] := by simpa only [VRs] using r1
  subst r1
  simp only [VR] at e1
  obtain ⟨p, ad, g1, e1, g2, gsp, g3⟩ := e1
  have ha' : c.args = #[x, y] := by rw [← ha]
  have hat' : c.argTypes = #[t, t2] := by rw [← hat]
  refine ⟨a.eval x, ?_, e1'⟩
  simp only [execOp, ho, resolve, hc, ha', hat', Sem.run_bind, Sem.run_pure, Result.andThen_ok, invoke, builtin]
  simp only [List.map_toArray, List.map_cons, List.map_nil, e1]
  unfold Builtin.append_
  have h5 := r5 0 w (Nat.zero_le _) (fun _ => rfl)
  simp only [List.getElem?_toArray, List.getElem?_cons_zero, List.getElem?_cons_succ, Sem.run_bind, hT.run_und, hd, Result.andThen_ok, hj.run_size, hz, hT2.run_und]
  cases hdd : i2.desc <;> simp [hdd] at hd2
  simp only [Sem.run_pure, Result.andThen_ok, Bool.false_eq_true, if_false, r4, List.length_nil, Nat.add_zero, if_pos g2, Sem.run_bind, Bool.not_false, if_true, h5]
  cases ad <;> simp [flat, storeCells]

/-- Room enough: the block itself is written. -/
theorem op_appendC_in {o : Oper} {x y t t2 c e sz id off len cap els l2 av} {i j i2 : TI} (ho : o.op = .call c) (hc : c.callee = .builtin .append) (ha : c.args.toList = [x, y]) (hat : c.argTypes.toList = [t, t2])
    (hT : TOk P t i) (hd : i.desc = .slice e) (hj : TOk P e j) (hT2 : TOk P t2 i2) (hd2 : (match i2.desc with | .slice _ => true | _ => false) = true) (hz : Nat.beq j.size sz = true)
    (hx : evO env x = some (.refc sz id off len cap)) (hb : getB hp id = some (.arr sz els)) (hend : off + len + l2.length ≤ els.length) (hy : evO env y = some av) (hr : rdA hp sz av = some l2) (hpos : 0 < cap) (hroom : len + l2.length ≤ cap) :
    OpS P n n0 o env hp nx (.refc sz id off (len + l2.length) cap) ((id, .arr sz (fillE els (off + len) l2)) :: hp) nx := by
  intro C ρ w a hs
  have hz := Nat.eq_of_beq_eq_true hz
  have e1 := evO_sound hs hx
  have e2 := evO_sound hs hy
  obtain ⟨evs2, r1, r2, r3, r4, r5⟩ := run_firstCells (P := P) hs.toHRel hr e2
  simp only [VR] at e1
  obtain ⟨p, ad, g1, e1, g2, gsp, g3⟩ := e1
  obtain ⟨b, base, rfl, rfl, T, nn, g4, g5⟩ := g3 (by omega)
  have hl2 := r1.length
  have hf := hs.fill (P := P) (k := off + len) hb g1 r1 r2 r3 (by omega)
  have ha' : c.args = #[x, y] := by rw [← ha]
  have hat' : c.argTypes = #[t, t2] := by rw [← hat]
  refine ⟨.slice (some ⟨b, base + off * sz, none⟩) (len + l2.length) cap, _, ρ, .inl ?_, hf.1, hf.2.1 _ _ ?_, fun h => absurd h (by simp), hf.2.1⟩
  · simp only [execOp, ho, resolve, hc, ha', hat', Sem.run_bind, Sem.run_pure, Result.andThen_ok, invoke, builtin]
    simp only [List.map_toArray, List.map_cons, List.map_nil, e1]
    unfold Builtin.append_
    have h5 := r5 l2.length w (Nat.le_refl _) (fun _ => rfl)
    rw [List.take_of_length_le (by omega)] at h5
    simp only [List.getElem?_toArray, List.getElem?_cons_zero, List.getElem?_cons_succ, Sem.run_bind, hT.run_und, hd, Result.andThen_ok, hj.run_size, hz, hT2.run_und]
    cases hdd : i2.desc <;> simp [hdd] at hd2
    have h6 := hf.2.2
    rw [show base + (off + len) * sz = base + off * sz + len * sz from by rw [Nat.add_mul]; omega] at h6 ⊢
    simp only [Sem.run_pure, Result.andThen_ok, Bool.false_eq_true, if_false, r4, if_pos hroom, Sem.run_bind, Bool.not_false, if_true, h5, Addr_add, h6]
  · simp only [VR]
    exact ⟨_, _, g1, rfl, hroom, gsp, fun _ => ⟨b, base, rfl, rfl, T, nn, g4, g5⟩⟩

/-- The capacity that comes of it. -/
def capNew (w : World) (need cap : Nat) (e : TypeId) : Nat := (Question.appendCap need cap e).cut (w.tape w.drawn (.appendCap need cap e))
theorem capNew_le (w : World) (need cap : Nat) (e : TypeId) : need ≤ capNew w need cap e := by unfold capNew; simp only [Question.cut]; omega

theorem appendC_new {o : Oper} {x y t t2 c e sz id off len cap els l2 ev0} {j : TI} (ho : o.op = .call c) (hc : c.callee = .builtin .append) (ha : c.args.toList = [x, y]) (hat : c.argTypes.toList = [t, t2])
    (hj : TOk P e j) (hz : j.size = sz)
    (hx : evO env x = some (.refc sz id off len cap)) (hb : getB hp id = some (.arr sz els)) (hend : off + len ≤ els.length) (hev0 : (els.drop off).take len = ev0)
    (hy : ∀ C ρ w a, SRel C n n0 env hp nx ρ w a → ∃ evs2, VRs w (XX C.ex hp ρ) ρ l2 evs2 ∧ (∀ ev ∈ evs2, ev.cells.size = sz) ∧ (∀ x ∈ flat evs2, x.oneCell' = true) ∧
      ∀ ad old z, (zeroValue e).run P w.drew = .ok z w.drew → (Builtin.firstCells sz len (.slice ad len cap)).run P w.drew = .ok old w.drew → (Builtin.append_ #[t, t2] o.type #[.slice ad len cap, a.eval y]).run P w =
          .ok (.slice (some ⟨w.heap.size, 0, none⟩) (len + l2.length) (capNew w (len + l2.length) cap e)) (w.drew.alloc (.cells (old ++ (flat evs2).toArray ++ Builtin.zeroCells z.cells (capNew w (len + l2.length) cap e - (len + l2.length))) e))) :
    OpE P n n0 o env hp nx (fun av hp' nx' => ∃ cap', len + l2.length ≤ cap' ∧ av = .refc sz nx 0 (len + l2.length) cap' ∧ hp' = (nx, .arr sz (ev0 ++ l2 ++ List.replicate (cap' - (len + l2.length)) j.zero)) :: hp ∧ nx' = Nat.succ nx) := by
  intro C ρ w a hs Kr Q hk
  have e1 := evO_sound hs hx
  have e1r := VR_refc e1
  obtain ⟨evs2, r1, r2, r3, r4⟩ := hy C ρ w a hs
  have hrx : rdA hp sz (.ref sz id off len) = some ev0 := by
    simp only [rdA, hb, Nat.beq_refl]
    rw [show Nat.ble (off + len) els.length = true from by rw [Nat.ble_eq]; omega, ← hev0]
  obtain ⟨evs1, q1, q2, q3, q4, q5⟩ := run_firstCells (P := P) hs.toHRel hrx e1r
  have hl1 := q1.length
  have hl2 := r1.length
  have hlen0 : ev0.length = len := by rw [← hev0]; simp; omega
  simp only [VR] at e1
  obtain ⟨p, ad, g1, e1, g2, gsp, g3⟩ := e1
  have ha' : c.args = #[x, y] := by rw [← ha]
  have hat' : c.argTypes = #[t, t2] := by rw [← hat]
  obtain ⟨z, z1, z2, z3, z4⟩ := hj.run_zero w
  have hncge := capNew_le w (len + l2.length) cap e
  generalize hnc : capNew w (len + l2.length) cap e = newCap at hncge r4
  -- the world that has drawn
  have hch := hs.change (fun _ => False) (drew_pres _ w) (fun _ _ h => h.elim) (ρ' := ρ) (hp' := hp) (nx' := nx) (fun _ _ h => h) (fun _ _ => rfl) (Nat.le_refl _) hs.fresh
      (fun id b hb => .inl ⟨hb, fun _ _ _ h => h⟩) hs.inj
  have hzr : VRs w (XX C.ex hp ρ) ρ (List.replicate (newCap - (len + l2.length)) j.zero) (List.replicate (newCap - (len + l2.length)) z) := VRs_replicate (VR_none (z4 w _)) _
  have hall : VRs w.drew (XX C.ex hp ρ) ρ (ev0 ++ l2 ++ List.replicate (newCap - (len + l2.length)) j.zero) (evs1 ++ evs2 ++ List.replicate (newCap - (len + l2.length)) z) :=
    VRs.mono (drew_pres (fun _ => False) w) (fun _ _ h => h.elim) (fun _ _ h => h) (fun _ _ h => h) _ _ ((q1.append r1).append hzr)
  have hsz : ∀ ev ∈ evs1 ++ evs2 ++ List.replicate (newCap - (len + l2.length)) z, ev.cells.size = sz := fun ev he => by
    simp only [List.mem_append] at he
    rcases he with (h | h) | h
    · exact q2 ev h
    · exact r2 ev h
    · rw [(List.mem_replicate.1 h).2, z2, hz]
  have hone : ∀ x ∈ flat (evs1 ++ evs2 ++ List.replicate (newCap - (len + l2.length)) z), x.oneCell' = true := fun x hx => by
    rw [flat_append, flat_append] at hx
    simp only [List.mem_append] at hx
    rcases hx with (h | h) | h
    · exact q3 x h
    · exact r3 x h
    · simp only [flat, List.mem_flatMap] at h
      obtain ⟨ev, he, hx⟩ := h
      rw [(List.mem_replicate.1 he).2] at hx
      exact z3 x hx
  have hcs : ((flat (evs1 ++ evs2 ++ List.replicate (newCap - (len + l2.length)) z))).length = newCap * sz := by
    rw [flat_length hsz]
    simp only [List.length_append, List.length_replicate]
    rw [hl1, hl2, hlen0, show len + l2.length + (newCap - (len + l2.length)) = newCap from by omega]
  let obj : Obj := .cells (flat (evs1 ++ evs2 ++ List.replicate (newCap - (len + l2.length)) z)).toArray e
  have hal := hch.1.allocAt nx (nx + 1) (hs.fresh nx (Nat.le_refl _)) hs.le (Nat.le_succ _) (Nat.lt_succ_self _) obj (.arr sz (ev0 ++ l2 ++ List.replicate (newCap - (len + l2.length)) j.zero)) (fun ρ' X' a1 a2 a3 =>
    ⟨_, e, (0, 0), _, alloc_new _ _, fun o _ h => by omega, VRs.mono (alloc_pres (fun _ => False) w.drew _) (fun _ _ h => h.elim) a3 a1 _ _ hall, hsz, fun k v hv => by simpa using hv, hone⟩)
  unfold Oper.wp
  have hrun : (execOp a.eval o).run P w = .ok (.value (.slice (some ⟨w.heap.size, 0, none⟩) (len + l2.length) newCap)) (w.drew.alloc obj) := by
    have q6 := q5 len w.drew (by omega) (fun _ => rfl)
    rw [List.take_of_length_le (by omega), e1] at q6
    have hzz : (zeroValue e).run P w.drew = .ok z w.drew := by
      obtain ⟨f, hf, _, _, zz, hzz, _⟩ := hj.info
      have e1 : (zeroValue e).run P w = .ok zz w := by simp [zeroValue, typeInfo, hf, hzz]
      rw [z1] at e1; cases e1
      simp [zeroValue, typeInfo, hf, hzz]
    have h4 := r4 ad _ z hzz q6
    simp only [execOp, ho, resolve, hc, ha', hat', Sem.run_bind, Sem.run_pure, Result.andThen_ok, invoke, builtin]
    simp only [List.map_toArray, List.map_cons, List.map_nil, e1, h4, Result.andThen_ok]
    have hobj : (flat evs1).toArray ++ (flat evs2).toArray ++ Builtin.zeroCells z.cells (newCap - (len + l2.length)) = (flat (evs1 ++ evs2 ++ List.replicate (newCap - (len + l2.length)) z)).toArray := by
      apply Array.ext'
      simp [zeroCells_flat, flat_append]
    rw [hobj]
  rw [hrun]
  simp only [Oper.upon]
  refine hk _ _ _ _ _ _ ⟨newCap, hncge, rfl, rfl, rfl⟩ hal.1 ?_ (fun x u hx => hal.2.2 x u (hch.2.2 x u hx))
  simp only [VR]
  refine ⟨some (w.heap.size, 0), _, by simp [updR], rfl, hncge, fun ad h => by cases h; rfl, fun _ => ⟨w.heap.size, 0, rfl, by simp, e, _, shape_eq (alloc_new w.drew _), ?_⟩⟩
  simp only [Nat.zero_add, List.size_toArray, hcs]
  exact Nat.le_refl _

theorem op_appendC_new {o : Oper} {x y t t2 c e sz id off len cap els l2 ev0 av} {i j i2 : TI} (ho : o.op = .call c) (hc : c.callee = .builtin .append) (ha : c.args.toList = [x, y]) (hat : c.argTypes.toList = [t, t2])
    (hT : TOk P t i) (hd : i.desc = .slice e) (hj : TOk P e j) (hT2 : TOk P t2 i2) (hd2 : (match i2.desc with | .slice _ => true | _ => false) = true) (hz : Nat.beq j.size sz = true)
    (hx : evO env x = some (.refc sz id off len cap)) (hb : getB hp id = some (.arr sz els)) (hend : off + len ≤ els.length) (hev0 : (els.drop off).take len = ev0)
    (hby : 0 < j.bytes) (hbig : (len + l2.length) * j.bytes ≤ 140737488355328) (hroom : cap < len + l2.length) (hy : evO env y = some av) (hr : rdA hp sz av = some l2) :
    OpE P n n0 o env hp nx (fun av hp' nx' => ∃ cap', len + l2.length ≤ cap' ∧ av = .refc sz nx 0 (len + l2.length) cap' ∧ hp' = (nx, .arr sz (ev0 ++ l2 ++ List.replicate (cap' - (len + l2.length)) j.zero)) :: hp ∧ nx' = Nat.succ nx) := by
  have hz := Nat.eq_of_beq_eq_true hz
  refine appendC_new ho hc ha hat hj hz hx hb hend hev0 fun C ρ w a hs => ?_
  have e2 := evO_sound hs hy
  obtain ⟨evs2, r1, r2, r3, r4, r5⟩ := run_firstCells (P := P) hs.toHRel hr e2
  refine ⟨evs2, r1, r2, r3, fun ad old z hzz hold => ?_⟩
  obtain ⟨f, hf, hf1, hf2, z', hz1, hz2, hz3, hz4⟩ := hj.info
  have hcapb : ¬ (Builtin.nextslicecap (len + l2.length) cap * f.bytes > 2 ^ 48) := by
    have h1 := nextslicecap_le hroom
    have h2 : Builtin.nextslicecap (len + l2.length) cap * j.bytes ≤ 2 * (len + l2.length) * j.bytes := Nat.mul_le_mul_right _ h1
    rw [hf2]
    rw [Nat.mul_assoc] at h2
    omega
  have r6 := r5 l2.length w.drew (Nat.le_refl _) (fun _ => rfl)
  rw [List.take_of_length_le (by rw [r1.length]; exact Nat.le_refl _)] at r6
  unfold Builtin.append_
  simp only [List.getElem?_toArray, List.getElem?_cons_zero, List.getElem?_cons_succ, Sem.run_bind, hT.run_und, hd, Result.andThen_ok, hj.run_size, hz, hT2.run_und]
  cases hdd : i2.desc <;> simp [hdd] at hd2
  have hti : ∀ w : World, (typeInfo e).run P w = .ok f w := fun w => by simp [typeInfo, hf]
  simp only [Sem.run_pure, Result.andThen_ok, Bool.false_eq_true, if_false, r4, if_neg (show ¬ len + l2.length ≤ cap by omega), Sem.run_bind, hti]
  have hask : ∀ (k : Nat) (w : World), (askRoom k).run P w = .ok () w := fun k w => by
    unfold askRoom; split <;> simp [mark, Sem.run]
  rw [if_neg (by rintro ⟨_, h | h⟩; exact h; omega)]
  simp only [Sem.run_bind, hti, Result.andThen_ok, if_neg hcapb, run_choose_drew, Question.forced, Bool.false_eq_true, if_false, hask, hold, Bool.not_false, if_true, r6, hzz, newRow, run_newObj_alloc, Sem.run_pure]
  rfl

/-- 'append(s, make([]T, k)...)', without room. -/
theorem op_appendC_make {o : Oper} {x y t t2 c e sz id off len cap els ev0} {i j i2 : TI} {ik : IntKind} {k : Nat} (ho : o.op = .call c) (hc : c.callee = .builtin .append) (ha : c.args.toList = [x, y]) (hat : c.argTypes.toList = [t, t2])
    (hT : TOk P t i) (hd : i.desc = .slice e) (hj : TOk P e j) (hT2 : TOk P t2 i2) (hd2 : (match i2.desc with | .int _ => true | _ => false) = true) (hz : Nat.beq j.size sz = true)
    (hx : evO env x = some (.refc sz id off len cap)) (hb : getB hp id = some (.arr sz els)) (hend : off + len ≤ els.length) (hev0 : (els.drop off).take len = ev0)
    (hby : 0 < j.bytes) (hsz : 0 < sz) (hbig : (len + k) * j.bytes ≤ 140737488355328) (hroom : cap < len + k) (hy : evO env y = some (.int ik k)) (hk : 0 < k) (hk2 : k < 2^62) (hl2 : len < 2^62) :
    OpE P n n0 o env hp nx (fun av hp' nx' => ∃ cap', len + k ≤ cap' ∧ av = .refc sz nx 0 (len + k) cap' ∧ hp' = (nx, .arr sz (ev0 ++ List.replicate k j.zero ++ List.replicate (cap' - (len + k)) j.zero)) :: hp ∧ nx' = Nat.succ nx) := by
  have hz := Nat.eq_of_beq_eq_true hz
  have key := appendC_new (n := n) (n0 := n0) (nx := nx) (l2 := List.replicate k j.zero) ho hc ha hat hj hz hx hb hend hev0 (fun C ρ w a hs => by
    have e2 := evO_sound hs hy
    simp only [VR] at e2
    obtain ⟨z', y1, y2, y3, y4⟩ := hj.run_zero w
    refine ⟨List.replicate k z', VRs_replicate (VR_none (y4 w _)) _, fun ev he => by rw [(List.mem_replicate.1 he).2, y2, hz], fun x hx => by
      simp only [flat, List.mem_flatMap] at hx
      obtain ⟨ev, he, hx⟩ := hx
      rw [(List.mem_replicate.1 he).2] at hx
      exact y3 x hx, fun ad old z hzz hold => ?_⟩
    obtain ⟨f, hf, hf1, hf2, z'', hz1, hz2, hz3, hz4⟩ := hj.info
    have ez : z' = z := by
      have e1 : (zeroValue e).run P w = .ok z'' w := by simp [zeroValue, typeInfo, hf, hz1]
      have e2 : (zeroValue e).run P w.drew = .ok z'' w.drew := by simp [zeroValue, typeInfo, hf, hz1]
      rw [y1] at e1; rw [hzz] at e2
      cases e1; cases e2; rfl
    subst ez
    simp only [List.length_replicate]
    have hcapb : ¬ (Builtin.nextslicecap (len + k) cap * f.bytes > 2 ^ 48) := by
      have h1 := nextslicecap_le hroom
      have h2 : Builtin.nextslicecap (len + k) cap * j.bytes ≤ 2 * (len + k) * j.bytes := Nat.mul_le_mul_right _ h1
      rw [hf2]
      rw [Nat.mul_assoc] at h2
      omega
    unfold Builtin.append_
    simp only [List.getElem?_toArray, List.getElem?_cons_zero, List.getElem?_cons_succ, Sem.run_bind, hT.run_und, hd, Result.andThen_ok, hj.run_size, hz, hT2.run_und]
    cases hdd : i2.desc <;> simp [hdd] at hd2
    have hti : ∀ w : World, (typeInfo e).run P w = .ok f w := fun w => by simp [typeInfo, hf]
    have hwr : IntKind.i64.wrap (k : Int) = k := IntWalk.i64_in _ ⟨by omega, by omega⟩
    have hbk : ¬ ((k : Int) * (f.bytes : Int) > 2 ^ 48) := by
      rw [hf2]
      have : (k : Int) * (j.bytes : Int) ≤ ((len + k) * j.bytes : Nat) := by
        have h0 : k * j.bytes ≤ (len + k) * j.bytes := Nat.mul_le_mul_right _ (by omega)
        exact_mod_cast h0
      omega
    simp only [Sem.run_pure, Result.andThen_ok, if_true, asInt, asIntOf, e2, Sem.run_bind, hwr, if_neg (show ¬ (k : Int) < 0 by omega), hti, if_neg hbk, Int.toNat_natCast, if_neg (show ¬ len + k ≤ cap by omega)]
    have hask : ∀ (k : Nat) (w : World), (askRoom k).run P w = .ok () w := fun k w => by
      unfold askRoom; split <;> simp [mark, Sem.run]
    rw [if_neg (by rintro ⟨h, _⟩; simp [IntKind.max, IntKind.signed, IntKind.bits] at h; omega)]
    have hks : ¬ k * sz = 0 := by
      intro h; rcases Nat.mul_eq_zero.1 h with h | h <;> omega
    simp only [Sem.run_bind, hti, Result.andThen_ok, if_neg hcapb, run_choose_drew, Question.forced, Bool.false_eq_true, if_false, hask, hold, Bool.not_true, if_neg hks, hzz, newRow, run_newObj_alloc, Sem.run_pure]
    have hzc : (flat (List.replicate k z')).toArray = Builtin.zeroCells z'.cells k := by
      apply Array.ext'; rw [zeroCells_flat]
    rw [hzc]
    rfl)
  simp only [List.length_replicate] at key
  exact key
end
end Go.Av
namespace Go.Av
open Go

section
variable {P : Program} {n n0 : Nat} {env : Env} {hp : Hp} {nx : Nat} {K : Kont} {s : List Fr}

def boolOf : AV → Option Bool
  | .bool b => some b
  | .sb b => some b
  | _ => none
theorem boolOf_VR {w X ρ} {a : AV} {b : Bool} {v : Value} (h : boolOf a = some b) (hv : VR w X ρ a v) : v = .bool b := by
  cases a <;> simp [boolOf] at h <;> subst h <;> simpa only [VR] using hv

theorem run_eq {t : TypeId} {i : TI} (hT : TOk P t i) (a b : Bool) (hd : i.desc = .bool) (w : World) : (Op.equal t (.bool a) (.bool b)).run P w = .ok (a == b) w := by
  show (Op.equalIn (9999 + 1) t (.bool a) (.bool b)).run P w = _
  rw [Op.equalIn]
  simp only [Sem.run_bind, hT.run_und, hd, Result.andThen_ok, Sem.run_pure]

theorem op_eqb {o : Oper} {t x y yt a b p q} {i : TI} (ho : o.op = .binOp .eql t x y yt) (hT : TOk P t i) (hd : i.desc = .bool) (hx : evO env x = some a) (hy : evO env y = some b) (ha : boolOf a = some p) (hb : boolOf b = some q) :
    OpS P n n0 o env hp nx (.sb (p == q)) hp nx :=
  .pure fun C ρ w s hs => by
    have h1 := boolOf_VR ha (evO_sound hs hx)
    have h2 := boolOf_VR hb (evO_sound hs hy)
    refine ⟨.bool (p == q), ?_, by simp [VR]⟩
    simp only [execOp, ho, h1, h2, eqGuard, binOp, Sem.run_bind, run_eq hT p q hd, Result.andThen_ok, Sem.run_pure]
    simp
theorem op_neb {o : Oper} {t x y yt a b p q} {i : TI} (ho : o.op = .binOp .neq t x y yt) (hT : TOk P t i) (hd : i.desc = .bool) (hx : evO env x = some a) (hy : evO env y = some b) (ha : boolOf a = some p) (hb : boolOf b = some q) :
    OpS P n n0 o env hp nx (.sb (!(p == q))) hp nx :=
  .pure fun C ρ w s hs => by
    have h1 := boolOf_VR ha (evO_sound hs hx)
    have h2 := boolOf_VR hb (evO_sound hs hy)
    refine ⟨.bool (!(p == q)), ?_, by simp [VR]⟩
    simp only [execOp, ho, h1, h2, eqGuard, binOp, Sem.run_bind, run_eq hT p q hd, Result.andThen_ok, Sem.run_pure]
    simp

/-- Is it a pointer, and not nil? -/
def ptrOf : AV → Option Bool
  | .nilp => some true
  | .ptr .. | .eptr .. | .fp _ => some false
  | _ => none
theorem ptrOf_VR {w X ρ} {a : AV} {b : Bool} {v : Value} (h : ptrOf a = some b) (hv : VR w X ρ a v) : ∃ p, v = .pointer p ∧ p.isNone = b := by
  cases a <;> simp [ptrOf] at h <;> subst h <;> simp only [VR] at hv
  · exact ⟨none, hv, rfl⟩
  · obtain ⟨b, base, _, rfl⟩ := hv; exact ⟨_, rfl, rfl⟩
  · obtain ⟨b, base, _, rfl⟩ := hv; exact ⟨_, rfl, rfl⟩
  · obtain ⟨b, base, rfl, _⟩ := hv; exact ⟨_, rfl, rfl⟩

theorem run_eqp {t : TypeId} {i : TI} (hT : TOk P t i) {e : TypeId} (hd : i.desc = .pointer e) (p : Option Addr) (w : World) : (Op.equal t (.pointer p) (.pointer none)).run P w = .ok p.isNone w := by
  show (Op.equalIn (9999 + 1) t (.pointer p) (.pointer none)).run P w = _
  rw [Op.equalIn]
  simp only [Sem.run_bind, hT.run_und, hd, Result.andThen_ok]
  cases p <;> simp
theorem run_eqs {t : TypeId} {i : TI} (hT : TOk P t i) {e : TypeId} (hd : i.desc = .slice e) (p : Option Addr) (len cap : Nat) (w : World) : (Op.equal t (.slice p len cap) (.slice none 0 0)).run P w = .ok p.isNone w := by
  show (Op.equalIn (9999 + 1) t (.slice p len cap) (.slice none 0 0)).run P w = _
  rw [Op.equalIn]
  simp only [Sem.run_bind, hT.run_und, hd, Result.andThen_ok]
  cases p <;> simp

theorem op_eqnil {o : Oper} {t x y yt a p e} {i : TI} (ho : o.op = .binOp .eql t x y yt) (hT : TOk P t i) (hd : i.desc = .pointer e) (hx : evO env x = some a) (hy : evO env y = some .nilp) (ha : ptrOf a = some p) :
    OpS P n n0 o env hp nx (.bool p) hp nx :=
  .pure fun C ρ w s hs => by
    obtain ⟨q, h1, rfl⟩ := ptrOf_VR ha (evO_sound hs hx)
    have h2 := evO_sound hs hy
    simp only [VR] at h2
    refine ⟨.bool q.isNone, ?_, by simp [VR]⟩
    simp only [execOp, ho, h1, h2, eqGuard, binOp, Sem.run_bind, run_eqp hT hd, Result.andThen_ok, Sem.run_pure]
    simp
theorem op_nenil {o : Oper} {t x y yt a p e} {i : TI} (ho : o.op = .binOp .neq t x y yt) (hT : TOk P t i) (hd : i.desc = .pointer e) (hx : evO env x = some a) (hy : evO env y = some .nilp) (ha : ptrOf a = some p) :
    OpS P n n0 o env hp nx (.bool (!p)) hp nx :=
  .pure fun C ρ w s hs => by
    obtain ⟨q, h1, rfl⟩ := ptrOf_VR ha (evO_sound hs hx)
    have h2 := evO_sound hs hy
    simp only [VR] at h2
    refine ⟨.bool (!q.isNone), ?_, by simp [VR]⟩
    simp only [execOp, ho, h1, h2, eqGuard, binOp, Sem.run_bind, run_eqp hT hd, Result.andThen_ok, Sem.run_pure]
    simp

/-- Is a slice nil? Of an empty one nothing is said. -/
def slEmp : AV → Option (Bool)
  | .nilsl => some true
  | .sl _ l => some l.isEmpty
  | .ref _ _ _ len => some (Nat.beq len 0)
  | .refc _ _ _ len _ => some (Nat.beq len 0)
  | _ => none
theorem op_sleq {o : Oper} {t x y yt a p e} {i : TI} (ho : o.op = .binOp .eql t x y yt) (hT : TOk P t i) (hd : i.desc = .slice e) (hx : evO env x = some a) (hy : evO env y = some .nilsl) (ha : slEmp a = some p) :
    OpE P n n0 o env hp nx (fun av hp' nx' => hp' = hp ∧ nx' = nx ∧ ∃ b, av = .sb b ∧ (b = true → p = true) ∧ (a = .nilsl → b = true)) := by
  intro C ρ w s hs Kr Q hk
  have h1 := evO_sound hs hx
  have h2 := evO_sound hs hy
  simp only [VR] at h2
  have key : ∃ ad len cap, s.eval x = .slice ad len cap ∧ (ad = none → p = true) ∧ (a = .nilsl → ad = none) := by
    cases a <;> simp only [slEmp, Option.some.injEq, reduceCtorEq] at ha <;> subst ha <;> simp only [VR] at h1
    case nilsl => exact ⟨_, _, _, h1, fun _ => rfl, fun _ => rfl⟩
    case sl => obtain ⟨a, n, c, evs, h1, h3, h4, h5, h6, h7⟩ := h1; exact ⟨_, _, _, h1, fun h => by subst h; simp [h7.1], fun h => by cases h⟩
    case ref =>
      obtain ⟨p, a, c, h1, h3, h4, h5, h6⟩ := h1
      refine ⟨_, _, _, h3, fun h => ?_, fun h => by cases h⟩
      subst h
      rcases Nat.eq_zero_or_pos c with hc | hc
      · have : (_ : Nat) = 0 := Nat.le_zero.1 (hc ▸ h4)
        rw [this]; rfl
      · obtain ⟨b, base, _, h7, _⟩ := h6 (by omega); cases h7
    case refc =>
      obtain ⟨p, a, h1, h3, h4, h5, h6⟩ := h1
      refine ⟨_, _, _, h3, fun h => ?_, fun h => by cases h⟩
      subst h
      rename_i c
      rcases Nat.eq_zero_or_pos c with hc | hc
      · have : (_ : Nat) = 0 := Nat.le_zero.1 (hc ▸ h4)
        rw [this]; rfl
      · obtain ⟨b, base, _, h7, _⟩ := h6 (by omega); cases h7
  obtain ⟨ad, len, cap, h3, h4, h5⟩ := key
  unfold Oper.wp
  have : (execOp s.eval o).run P w = .ok (.value (.bool ad.isNone)) w := by
    simp only [execOp, ho, h3, h2, eqGuard, binOp, Sem.run_bind, run_eqs hT hd, Result.andThen_ok, Sem.run_pure]
    simp
  rw [this]
  exact hk _ w ρ (.sb ad.isNone) hp nx ⟨rfl, rfl, _, rfl, fun h => h4 (by simpa using h), fun h => by simp [h5 h]⟩ hs (by simp [VR]) (fun _ _ h => h)

theorem op_min {o : Oper} {x y c k a b} (ho : o.op = .call c) (hc : c.callee = .builtin .min) (ha : c.args.toList = [x, y]) (hx : evO env x = some (.int k a)) (hy : evO env y = some (.int k b)) :
    OpS P n n0 o env hp nx (.int k (if b < a then b else a)) hp nx :=
  .pure fun C ρ w st hs => by
    have e1 := evO_sound hs hx
    have e2 := evO_sound hs hy
    simp only [VR] at e1 e2
    have h1 : c.args = #[x, y] := by rw [← ha]
    refine ⟨_, ?_, by simp only [VR]; rfl⟩
    simp only [execOp, ho, resolve, hc, h1, Sem.run_bind, Sem.run_pure, Result.andThen_ok, invoke, builtin]
    simp [Builtin.min_, Builtin.min2, e1, e2]
theorem op_max {o : Oper} {x y c k a b} (ho : o.op = .call c) (hc : c.callee = .builtin .max) (ha : c.args.toList = [x, y]) (hx : evO env x = some (.int k a)) (hy : evO env y = some (.int k b)) :
    OpS P n n0 o env hp nx (.int k (if b > a then b else a)) hp nx :=
  .pure fun C ρ w st hs => by
    have e1 := evO_sound hs hx
    have e2 := evO_sound hs hy
    simp only [VR] at e1 e2
    have h1 : c.args = #[x, y] := by rw [← ha]
    refine ⟨_, ?_, by simp only [VR]; rfl⟩
    simp only [execOp, ho, resolve, hc, h1, Sem.run_bind, Sem.run_pure, Result.andThen_ok, invoke, builtin]
    simp [Builtin.max_, Builtin.max2, e1, e2]

/-- Bytes. -/
def bys (l : List UInt8) : List AV := l.map fun c => .int .u8 (c.toNat : Int)
theorem bys_VR {w X ρ} : ∀ {l : List UInt8} {vs : List Value}, VRs w X ρ (bys l) vs → vs = l.map fun c => .int .u8 (c.toNat : Int)
  | [], vs, h => by simpa only [bys, List.map_nil, VRs] using h
  | c :: l, vs, h => by
    simp only [bys, List.map_cons, VRs] at h
    obtain ⟨v, r, rfl, h1, h2⟩ := h
    simp only [VR] at h1
    rw [h1, bys_VR h2]; rfl
theorem flat_bys (l : List UInt8) : flat (l.map fun c => .int .u8 (c.toNat : Int)) = l.map fun c => .int .u8 (c.toNat : Int) := by
  induction l with
  | nil => rfl
  | cons c l ih => rw [List.map_cons, flat_cons, ih]; rfl

theorem fold_bytes : ∀ (l : List UInt8) (b : ByteArray), (l.map fun c => (c.toNat : Int)).foldl (fun r n => r.push (UInt8.ofNat n.toNat)) b = b ++ ⟨l.toArray⟩
  | [], b => by apply ByteArray.ext; simp
  | c :: l, b => by
    rw [List.map_cons, List.foldl_cons, fold_bytes l]
    apply ByteArray.ext
    simp

theorem op_bytes_str {o : Oper} {t d x av l e} {i ii j : TI} (ho : o.op = .convert t d x) (hT : TOk P t ii) (hd : TOk P d i) (ht : ii.desc = .slice e) (hj : TOk P e j) (hje : j.desc = .int .u8) (hk : i.desc = .string) (hx : evO env x = some av) (hr : rdA hp 1 av = some (bys l)) :
    OpS P n n0 o env hp nx (.str l) hp nx :=
  .pure fun C ρ w st hs => by
    have h1 := evO_sound hs hx
    obtain ⟨evs, r1, r2, r3, r4, r5⟩ := run_firstCells (P := P) hs.toHRel hr h1
    have hv := bys_VR r1
    have hlen : (bys l).length = l.length := by simp [bys]
    have h5 := r5 (bys l).length w (Nat.le_refl _) (fun _ => rfl)
    rw [List.take_of_length_le (by rw [r1.length]; exact Nat.le_refl _), hv, flat_bys, hlen] at h5
    obtain ⟨ad, c, evs', e1, _, _, _, _, e6⟩ := rd_sound hs.toHRel hr h1
    rw [hlen] at e1
    refine ⟨.string ⟨l.toArray⟩, ?_, by simp only [VR]⟩
    simp only [execOp, ho, convert, Sem.run_bind, hT.run_und, hd.run_und, Result.andThen_ok, e1, ht, hk, hj.run_und, hje]
    cases ad with
    | none =>
      have hl : l = [] := by
        have : bys l = [] := e6
        simpa [bys] using this
      subst hl
      simp [Conv.bytesToString]
      rfl
    | some ad =>
      rw [e1] at h5
      simp only [Builtin.firstCells, Nat.mul_one] at h5
      have := run_bytesToString (P := P) w ad l.length c (l.map fun c => (c.toNat : Int)) (by rw [h5, List.map_map]; rfl)
      rw [this]
      simp only [Result.andThen_ok, Sem.run_pure]
      rw [fold_bytes]
      congr 3

theorem op_extern {o : Oper} {c : Call} {x : Operand} {f : FuncId} {fn : Func} {e : Array Value → Sem Value} {as : List AV} {av : AV} (ho : o.op = .call c) (hcal : c.callee = .value x)
    (hx : evO env x = some (.func (.func f) [] [])) (has : evL env c.args.toList = some as) (hf : P.funcs[f]? = some fn) (hname : (fn.name == "runtime.NumGoroutine") = false)
    (hb : fn.body.isNone = true) (hn : Extern.findNext fn = none) (he : Extern.find fn = some e)
    (h : ∀ C ρ w a, SRel C n n0 env hp nx ρ w a → ∀ argv, VRs w (XX C.ex hp ρ) ρ as argv → ∃ v, (e argv.toArray).run P w = .ok v w ∧ VR w (XX C.ex hp ρ) ρ av v) :
    OpS P n n0 o env hp nx av hp nx :=
  .pure fun C ρ w a hs => by
    have e1 := evO_sound hs hx
    simp only [VR] at e1
    obtain ⟨fs, cs, e1, e2, e3⟩ := e1
    simp only [VRs] at e2 e3
    have hfs : fs = #[] := by simpa using e2
    have hcs : cs = #[] := by simpa using e3
    subst hfs; subst hcs
    have hev := evMap hs _ _ (by rw [evL_mapM]; exact has)
    obtain ⟨v, hv, hr⟩ := h C ρ w a hs _ hev
    refine ⟨v, ?_, hr⟩
    simp only [execOp, ho, resolve, hcal, e1, Deferred.ofValue, Sem.run_bind, Sem.run_pure, Result.andThen_ok, invoke]
    rw [run_callFunc_extern hf hname hb hn he]
    have : (#[] ++ c.args.map a.eval ++ #[] : Array Value) = (c.args.toList.map a.eval).toArray := by apply Array.ext'; simp
    rw [this, hv]
    rfl
end
end Go.Av
namespace Go.Av
open Go

/-- A map whose keys are strings. -/
def blkM (l : List (List UInt8 × AV)) : Blk := .mp (l.map fun p => (.str p.1, p.2))
def findM : List (List UInt8 × AV) → List UInt8 → Nat → Option (Nat × AV)
  | [], _, _ => none
  | p :: l, k, i => if k == p.1 then some (i, p.2) else findM l k (i + 1)
def lookM (l : List (List UInt8 × AV)) (k : List UInt8) : Option AV := (findM l k 0).map (·.2)
/-- The entry of a key written. -/
def updM : List (List UInt8 × AV) → List UInt8 → AV → List (List UInt8 × AV)
  | [], k, v => [(k, v)]
  | p :: l, k, v => if k == p.1 then (k, v) :: l else p :: updM l k v

section
variable {P : Program} {n n0 : Nat} {env : Env} {hp : Hp} {nx : Nat} {K : Kont} {s : List Fr}

theorem run_getM {w : World} {r : Nat} {es : Array MapEntry} {clock : Nat} (hb : w.heap[r]? = some (.map es clock)) : (getObj r).run P w = .ok (.map es clock) w := by
  simp [getObj, Sem.run, hb]
theorem run_setM {w : World} {r : Nat} {es : Array MapEntry} {clock : Nat} (o : Obj) (hb : w.heap[r]? = some (.map es clock)) : (setObj r o).run P w = .ok () { w with heap := w.heap.setIfInBounds r o } := by
  simp [setObj, Sem.run, hb]

theorem findNow_M {w X ρ} (k : List UInt8) : ∀ (l : List (List UInt8 × AV)) (es : List MapEntry) (i : Nat), VRs w X ρ (l.map fun p => .str p.1) (es.map (·.key)) → VRs w X ρ (l.map (·.2)) (es.map (·.val)) →
    match findM l k i with
    | none => Instr.findNow .string (.string ⟨k.toArray⟩) es i = some none
    | some (j, av) => ∃ v, Instr.findNow .string (.string ⟨k.toArray⟩) es i = some (some (j, v)) ∧ VR w X ρ av v ∧ i ≤ j ∧ (∃ e, es[j - i]? = some e ∧ e.key = .string ⟨k.toArray⟩) ∧ ∃ q, l[j - i]? = some q ∧ q.1 = k
  | [], es, i, h, _ => by
    simp only [List.map_nil, VRs, List.map_eq_nil_iff] at h
    subst h; simp [findM, Instr.findNow]
  | p :: l, [], i, h, _ => by simp [VRs] at h
  | p :: l, e :: es, i, h1, h2 => by
    simp only [List.map_cons, VRs] at h1 h2
    obtain ⟨v, r, hv, h3, h4⟩ := h1
    obtain ⟨v', r', hv', h5, h6⟩ := h2
    cases hv; cases hv'
    simp only [VR] at h3
    simp only [findM, Instr.findNow, h3, Instr.sameNow]
    have hbe : ((ByteArray.mk k.toArray) == (ByteArray.mk p.1.toArray)) = (k == p.1) := by
      show (k.toArray == p.1.toArray) = _
      simp
    rw [hbe]
    by_cases hkp : (k == p.1) = true
    · rw [hkp]
      simp only [if_true]
      refine ⟨e.val, rfl, h5, Nat.le_refl _, ⟨e, by simp, ?_⟩, p, by simp, ?_⟩
      · rw [h3]; have : k = p.1 := by simpa using hkp
        rw [this]
      · have : k = p.1 := by simpa using hkp
        exact this.symm
    · simp only [Bool.not_eq_true] at hkp
      rw [hkp]
      simp only [Bool.false_eq_true, if_false]
      have ih := findNow_M k l es (i + 1) h4 h6
      cases hf : findM l k (i + 1) with
      | none => rw [hf] at ih; exact ih
      | some r =>
        obtain ⟨j, av⟩ := r
        rw [hf] at ih
        obtain ⟨v, g1, g2, g3, ⟨e', g4, g5⟩, q, g6, g7⟩ := ih
        have e0 : j - i = (j - (i + 1)) + 1 := by omega
        exact ⟨v, g1, g2, by omega, ⟨e', by rw [e0]; simpa using g4, g5⟩, q, by rw [e0]; simpa using g6, g7⟩

theorem updM_find : ∀ (l : List (List UInt8 × AV)) (k : List UInt8) (v : AV) (i : Nat), match findM l k i with
    | none => updM l k v = l ++ [(k, v)]
    | some (j, _) => i ≤ j ∧ updM l k v = l.set (j - i) (k, v)
  | [], k, v, i => by simp [findM, updM]
  | p :: l, k, v, i => by
    simp only [findM, updM]
    by_cases h : (k == p.1) = true
    · simp [h]
    · simp only [Bool.not_eq_true] at h
      rw [h]
      simp only [Bool.false_eq_true, if_false]
      have ih := updM_find l k v (i + 1)
      cases hf : findM l k (i + 1) with
      | none => rw [hf] at ih; simp only at ih ⊢; rw [ih]; rfl
      | some r =>
        obtain ⟨j, av⟩ := r
        rw [hf] at ih
        simp only at ih ⊢
        refine ⟨by omega, ?_⟩
        rw [ih.2, show j - i = (j - (i + 1)) + 1 from by omega]; rfl

theorem al_makeMap {o : Oper} {t} (ho : o.op = .makeMap t none) : OpAl P n n0 o env hp nx (fun A => .map A) (blkM []) := by
  intro C ρ w a hs
  refine ⟨.map #[] 0, .map (some w.heap.size), ?_, fun A ρ' X' a1 a2 a3 => ⟨⟨#[], 0, alloc_new _ _, by simp [VRs], by simp [VRs]⟩, by simp only [VR]; exact ⟨_, _, a2, rfl⟩⟩⟩
  simp [execOp, ho, Instr.makeMap]

theorem op_lookup {o : Oper} {t x y kt et id l k} {i j je : TI} (ho : o.op = .lookup t x y false) (hT : TOk P t i) (hd : i.desc = .map kt et) (hk : TOk P kt j) (hkd : j.desc = .string) (he : TOk P et je)
    (hx : evO env x = some (.map id)) (hb : getB hp id = some (blkM l)) (hy : evO env y = some (.str k)) : OpS P n n0 o env hp nx ((lookM l k).getD je.zero) hp nx :=
  .pure fun C ρ w a hs => by
    have e1 := evO_sound hs hx
    have e2 := evO_sound hs hy
    simp only [VR] at e1 e2
    obtain ⟨b, base, g1, e1⟩ := e1
    obtain ⟨p, hp1, hbr⟩ := hs.blk id _ hb
    rw [g1] at hp1; cases hp1
    obtain ⟨es, clock, h1, h2, h3⟩ := hbr
    rw [List.map_map] at h2 h3
    have hf := findNow_M k l es.toList 0 h2 h3
    obtain ⟨z, z1, z2, z3, z4⟩ := he.run_zero w
    have hck : ∀ e, (Instr.checkKey e 10000 kt (.string ⟨k.toArray⟩)).run P w = .ok () w := fun e => by
      show (Instr.checkKey e (9999 + 1) kt _).run P w = _
      rw [Instr.checkKey]
      simp [hk.run_und, hkd]
    cases hfm : findM l k 0 with
    | none =>
      rw [hfm] at hf
      refine ⟨z, ?_, by simp only [lookM, hfm, Option.map_none, Option.getD_none]; exact VR_none (z4 w _)⟩
      simp only [execOp, ho, Instr.lookup, Sem.run_bind, hT.run_und, hd, Result.andThen_ok, e1, e2, run_getM h1, Sem.run_pure, hck, Instr.findKey, hk.run_und, hkd, hf, z1]
      simp
    | some r =>
      obtain ⟨jj, av⟩ := r
      rw [hfm] at hf
      obtain ⟨v, g2, g3, _⟩ := hf
      refine ⟨v, ?_, by simp only [lookM, hfm, Option.map_some, Option.getD_some]; exact g3⟩
      simp only [execOp, ho, Instr.lookup, Sem.run_bind, hT.run_und, hd, Result.andThen_ok, e1, e2, run_getM h1, Sem.run_pure, hck, Instr.findKey, hk.run_und, hkd, g2]
      simp

theorem setH_pres {w : World} {b : Nat} {o : Obj} (hs : (match w.heap[b]? with | some (.cells _ _ _) => false | some _ => true | none => false) = true) (ho : (match o with | .cells _ _ _ => false | _ => true) = true) :
    Pres (fun r => r = b) w { w with heap := w.heap.setIfInBounds b o } := by
  refine ⟨rfl, rfl, rfl, by simp, fun b' _ hb => ?_, fun b' hb' => ?_⟩
  · simp only
    rw [Array.getElem?_setIfInBounds_ne (fun e => hb e.symm)]
  · by_cases e : b' = b
    · subst e
      simp only [World.shape?]
      rw [Array.getElem?_setIfInBounds_self_of_lt hb']
      cases hh : w.heap[b']? with
      | none => rw [hh] at hs; simp at hs
      | some x =>
        rw [hh] at hs
        cases x <;> simp at hs <;> cases o <;> simp at ho <;> rfl
    · simp only [World.shape?]
      rw [Array.getElem?_setIfInBounds_ne (fun h => e h.symm)]

theorem op_mapUpdate {o : Oper} {t x y u kt et id l k av} {i j : TI} (ho : o.op = .mapUpdate t x y u ∨ o.op = .insert t x y u) (hT : TOk P t i) (hd : i.desc = .map kt et) (hk : TOk P kt j) (hkd : j.desc = .string)
    (hx : evO env x = some (.map id)) (hb : getB hp id = some (blkM l)) (hy : evO env y = some (.str k)) (hu : evO env u = some av) : OpS P n n0 o env hp nx .junk ((id, blkM (updM l k av)) :: hp) nx := by
  intro C ρ w a hs
  have e1 := evO_sound hs hx
  have e2 := evO_sound hs hy
  have e3 := evO_sound hs hu
  simp only [VR] at e1 e2
  obtain ⟨b, base, g1, e1⟩ := e1
  obtain ⟨p, hp1, hbr⟩ := hs.blk id _ hb
  rw [g1] at hp1; cases hp1
  obtain ⟨es, clock, h1, h2, h3⟩ := hbr
  rw [List.map_map] at h2 h3
  have hf := findNow_M k l es.toList 0 h2 h3
  have hu' := updM_find l k av 0
  have hck : ∀ e, (Instr.checkKey e 10000 kt (.string ⟨k.toArray⟩)).run P w = .ok () w := fun e => by
    show (Instr.checkKey e (9999 + 1) kt _).run P w = _
    rw [Instr.checkKey]
    simp [hk.run_und, hkd]
  have hb0 : b < w.heap.size := (Array.getElem?_eq_some_iff.1 h1).1
  have hown : Owned hp ρ b := ⟨id, _, base, hb, g1⟩
  have hxx : ∀ (r : Nat), XX C.ex ((id, blkM (updM l k av)) :: hp) ρ r → XX C.ex hp ρ r := by
    rintro r (h | ⟨id', b', base', g2, g3⟩)
    · exact .inl h
    · by_cases ee : id = id'
      · subst ee; exact .inr ⟨id, _, base', hb, g3⟩
      · rw [getB_cons, if_neg ee] at g2; exact .inr ⟨id', b', base', g2, g3⟩
  have key : ∀ (es' : Array MapEntry) (clock' : Nat), VRs w (XX C.ex hp ρ) ρ ((updM l k av).map fun p => .str p.1) (es'.toList.map (·.key)) → VRs w (XX C.ex hp ρ) ρ ((updM l k av).map (·.2)) (es'.toList.map (·.val)) →
      SRel C n n0 env ((id, blkM (updM l k av)) :: hp) nx ρ { w with heap := w.heap.setIfInBounds b (.map es' clock') } a ∧
        (∀ x u, VR w (XX C.ex hp ρ) ρ x u → VR { w with heap := w.heap.setIfInBounds b (.map es' clock') } (XX C.ex ((id, blkM (updM l k av)) :: hp) ρ) ρ x u) := by
    intro es' clock' k1 k2
    have hP : Pres (fun r => r = b) w { w with heap := w.heap.setIfInBounds b (.map es' clock') } := setH_pres (by rw [h1]) rfl
    have hch := hs.change (fun r => r = b) hP (fun r _ hr => hr ▸ hown) (fun _ _ h => h) (fun _ _ => rfl) (Nat.le_refl _) hs.fresh (hp' := (id, blkM (updM l k av)) :: hp)
      (fun id' b' hb' => by
        by_cases ee : id = id'
        · subst ee
          rw [getB_cons, if_pos rfl] at hb'
          simp only [blkM, live, Option.some.injEq] at hb'
          subst hb'
          refine .inr ⟨_, g1, ⟨es', clock', by simp only; rw [Array.getElem?_setIfInBounds_self_of_lt hb0], ?_, ?_⟩, fun r base' he => by cases he; exact ⟨.inl hown, by simp; exact hb0⟩⟩
          · rw [List.map_map]
            exact VRs.mono hP (fun r _ hr => .inr (by subst hr; exact hown)) (fun r _ h => hxx r h) (fun _ _ h => h) _ _ k1
          · rw [List.map_map]
            exact VRs.mono hP (fun r _ hr => .inr (by subst hr; exact hown)) (fun r _ h => hxx r h) (fun _ _ h => h) _ _ k2
        · rw [getB_cons, if_neg ee] at hb'
          exact .inl ⟨hb', fun r base' hr he => ee (by subst he; exact hs.inj id id' _ b' r base base' hb hb' g1 hr)⟩)
      (fun id1 id2 b1 b2 r base1 base2 q1 q2 q3 q4 => by
        have hin : ∀ i bb, getB ((id, blkM (updM l k av)) :: hp) i = some bb → ∃ bb', getB hp i = some bb' := fun i bb hi => by
          by_cases ee : id = i
          · subst ee; exact ⟨_, hb⟩
          · rw [getB_cons, if_neg ee] at hi; exact ⟨bb, hi⟩
        obtain ⟨_, q1⟩ := hin _ _ q1
        obtain ⟨_, q2⟩ := hin _ _ q2
        exact hs.inj id1 id2 _ _ r base1 base2 q1 q2 q3 q4)
    exact ⟨hch.1, hch.2.2⟩
  have hgo : ∀ (es' : Array MapEntry) (clock' : Nat), VRs w (XX C.ex hp ρ) ρ ((updM l k av).map fun p => .str p.1) (es'.toList.map (·.key)) → VRs w (XX C.ex hp ρ) ρ ((updM l k av).map (·.2)) (es'.toList.map (·.val)) →
      (Instr.mapUpdate t (.map (some b)) (.string ⟨k.toArray⟩) (a.eval u)).run P w = .ok () { w with heap := w.heap.setIfInBounds b (.map es' clock') } →
      ∃ v w' ρ', ((execOp a.eval o).run P w = .ok (.value v) w' ∨ (execOp a.eval o).run P w = .ok .skip w' ∧ v = undef) ∧
        SRel C n n0 env ((id, blkM (updM l k av)) :: hp) nx ρ' w' a ∧ VR w' (XX C.ex ((id, blkM (updM l k av)) :: hp) ρ') ρ' .junk v ∧ ((id, blkM (updM l k av)) :: hp = hp → w' = w ∧ ρ' = ρ) ∧ (∀ x u, VR w (XX C.ex hp ρ) ρ x u → VR w' (XX C.ex ((id, blkM (updM l k av)) :: hp) ρ') ρ' x u) := by
    intro es' clock' k1 k2 hrun
    have := key es' clock' k1 k2
    refine ⟨undef, _, ρ, .inr ⟨?_, rfl⟩, this.1, by simp [VR, undef, Value.cells], fun h => absurd h (by simp), this.2⟩
    rcases ho with ho | ho <;> simp only [execOp, ho, e1, e2, Sem.run_bind, hrun, Result.andThen_ok, Sem.run_pure]
  cases hfm : findM l k 0 with
  | none =>
    rw [hfm] at hf hu'
    simp only at hf hu'
    refine hgo (es.push { key := .string ⟨k.toArray⟩, val := a.eval u, born := clock }) (clock + 1) ?_ ?_ ?_
    · rw [hu']
      simp only [List.map_append, List.map_cons, List.map_nil, Array.toList_push]
      exact h2.append (by simp [VRs, VR])
    · rw [hu']
      simp only [List.map_append, List.map_cons, List.map_nil, Array.toList_push]
      exact h3.append (by simp only [VRs]; exact ⟨_, [], rfl, e3, rfl⟩)
    · simp only [Instr.mapUpdate, Sem.run_bind, hT.run_und, hd, Result.andThen_ok, run_getM h1, hck, Instr.findKey, hk.run_und, hkd, hf, Sem.run_pure, run_setM _ h1]
  | some r =>
    obtain ⟨jj, av'⟩ := r
    rw [hfm] at hf hu'
    obtain ⟨v, q1, q2, _, ⟨e, q3, q4⟩, q, q5, q6⟩ := hf
    have hu2 := hu'.2
    simp only [Nat.sub_zero] at q3 q5 hu2
    have hlt : jj < es.size := by
      have := (List.getElem?_eq_some_iff.1 q3).1; simpa using this
    have hmod : ∀ f : MapEntry → MapEntry, (es.modify jj f).toList = es.toList.set jj (f e) := fun f => by
      apply List.ext_getElem?
      intro m
      rw [List.getElem?_set]
      simp only [Array.getElem?_toList, Array.getElem?_modify]
      by_cases hm : jj = m
      · subst hm
        have : es[jj]? = some e := by simpa using q3
        have he : es[jj] = e := by rw [Array.getElem?_eq_getElem hlt] at this; exact Option.some.inj this
        simp [hlt, he]
      · simp [hm]
    refine hgo (es.modify jj fun e => { e with key := .string ⟨k.toArray⟩, val := a.eval u }) clock ?_ ?_ ?_
    · rw [hmod, hu2, List.map_set, List.map_set]
      exact h2.set jj (by simp only [VR])
    · rw [hmod, hu2, List.map_set, List.map_set]
      exact h3.set jj e3
    · have hq : es[jj]? = some e := by simpa using q3
      simp only [Instr.mapUpdate, Sem.run_bind, hT.run_und, hd, Result.andThen_ok, run_getM h1, hck, Instr.findKey, hk.run_und, hkd, q1, Sem.run_pure, hq, Option.map_some, Option.getD_some, q4, Instr.keyThatStays, Instr.sameBits]
      have hbb : ((ByteArray.mk k.toArray) == (ByteArray.mk k.toArray)) = true := by
        show (k.toArray == k.toArray) = true
        simp
      simp only [hbb, if_true, Sem.run_pure, Result.andThen_ok, run_setM _ h1]
end
end Go.Av
namespace Go.Av
open Go

section
variable {P : Program} {n n0 : Nat} {env : Env} {hp : Hp} {nx : Nat} {K : Kont} {s : List Fr}

theorem c_condT {c : Operand} {x y : Code} {b : Bool} (hc : evO env c = some (.sb b)) (hb : b = true) (h : Wc P n n0 K (.st (.code x :: s) env hp nx)) : Wc P n n0 K (.st (.code (.cond c x y) :: s) env hp nx) :=
  c_cond hc (fun _ => h) (fun h' => by rw [hb] at h'; cases h')
theorem c_condF {c : Operand} {x y : Code} {b : Bool} (hc : evO env c = some (.sb b)) (hb : b = false) (h : Wc P n n0 K (.st (.code y :: s) env hp nx)) : Wc P n n0 K (.st (.code (.cond c x y) :: s) env hp nx) :=
  c_cond hc (fun h' => by rw [hb] at h'; cases h') (fun _ => h)
theorem c_known {ops : Array Oper} {l : List Oper} (t : Nat) (c : Bool) {b : Bool} (h : get env t = some (.sb b)) (hb : b = c) (hk : Wc P n n0 K (.rg ops l s ((t, .bool c) :: env) hp nx)) : Wc P n n0 K (.rg ops l s env hp nx) :=
  fun C ρ w a hs => hk C ρ w a (hs.cases h hb)
/-- A saying of an owned slice without its capacity. -/
theorem c_weak {ops : Array Oper} {l : List Oper} (t : Nat) {sz id off len cap} (ht : get env t = some (.refc sz id off len cap)) (h : Wc P n n0 K (.rg ops l s ((t, .ref sz id off len) :: env) hp nx)) : Wc P n n0 K (.rg ops l s env hp nx) :=
  fun C ρ w a hs => h C ρ w a (hs.say ht fun _ hv => VR_refc hv)
/-- A slice given up. -/
theorem c_freeze {ops : Array Oper} {l : List Oper} (id : Nat) {sz : Nat} {els : List AV} (new : Env) (hb : getB hp id = some (.arr sz els)) (hcl : AV.nids els = true)
    (hf : frzOK [(id, .arr sz els)] env new) (h : Wc P n n0 K (.rg ops l s (new ++ env) ((id, .dead) :: hp) nx)) : Wc P n n0 K (.rg ops l s env hp nx) := Wo_freeze id new hb hcl hf h
theorem c_nilsl {ops : Array Oper} {l : List Oper} (sz : Nat) {t : Nat} (ht : get env t = some .nilsl) (h : Wc P n n0 K (.rg ops l s ((t, .sl sz []) :: env) hp nx)) : Wc P n n0 K (.rg ops l s env hp nx) := Wo_nil_sl sz ht h
theorem c_own {ops : Array Oper} {l : List Oper} (sz : Nat) {t : Nat} (ht : get env t = some .nilsl) (h : Wc P n n0 K (.rg ops l s ((t, .ref sz nx 0 0) :: env) ((nx, .arr sz []) :: hp) (nx + 1))) : Wc P n n0 K (.rg ops l s env hp nx) := Wo_own sz ht h

theorem al_makeSlice {o : Oper} {t x y e} {i j : TI} {k1 k2 : IntKind} {len : Nat} (ho : o.op = .makeSlice t x y) (hT : TOk P t i) (hd : i.desc = .slice e) (hj : TOk P e j) (hx : evO env x = some (.int k1 len)) (hy : evO env y = some (.int k2 len))
    (hsz : 0 < j.size) (hb : j.bytes * len ≤ 281474976710656) (hl : len < 2^62) :
    OpAl P n n0 o env hp nx (fun A => .refc j.size A 0 len len) (.arr j.size (List.replicate len j.zero)) := by
  intro C ρ w a hs
  have e1 := evO_sound hs hx
  have e2 := evO_sound hs hy
  simp only [VR] at e1 e2
  obtain ⟨f, hf, hf1, hf2, z, hz1, hz2, hz3, hz4⟩ := hj.info
  have hall : VRs w (XX C.ex hp ρ) ρ (List.replicate len j.zero) (List.replicate len z) := VRs_replicate (VR_none (hz4 w _)) _
  have hsz' : ∀ ev ∈ List.replicate len z, ev.cells.size = j.size := fun ev he => by rw [(List.mem_replicate.1 he).2, hz2]
  have hone : ∀ x ∈ flat (List.replicate len z), x.oneCell' = true := fun x hx => by
    simp only [flat, List.mem_flatMap] at hx
    obtain ⟨ev, he, hx⟩ := hx
    rw [(List.mem_replicate.1 he).2] at hx
    exact hz3 x hx
  have hfl : (flat (List.replicate len z)).length = len * j.size := by rw [flat_length hsz']; simp
  refine ⟨.cells (flat (List.replicate len z)).toArray e, .slice (some ⟨w.heap.size, 0, none⟩) len len, ?_, fun A ρ' X' a1 a2 a3 => ⟨⟨_, e, (0, 0), _, alloc_new _ _, fun o _ h => by omega, VRs.mono (alloc_pres (fun _ => False) w _) (fun _ _ h => h.elim) a3 a1 _ _ hall, hsz', fun k v hv => by simpa using hv, hone⟩, ?_⟩⟩
  · have hw1 : IntKind.i64.wrap (len : Int) = len := IntWalk.i64_in _ ⟨by omega, by omega⟩
    have hbb : ¬ ((f.bytes : Int) * (len : Int) > 2 ^ 48) := by
      rw [hf2]
      have : ((j.bytes * len : Nat) : Int) ≤ ((281474976710656 : Nat) : Int) := Int.ofNat_le.2 hb
      rw [Int.natCast_mul] at this
      omega
    have hask : ∀ (k : Nat) (w : World), (askRoom k).run P w = .ok () w := fun k w => by
      unfold askRoom; split <;> simp [mark, Sem.run]
    have hc1 : (decide ((len : Int) < 0) || decide ((f.bytes : Int) * (len : Int) > 2 ^ 48)) = false := by
      simp only [Bool.or_eq_false_iff, decide_eq_false_iff_not]
      exact ⟨by omega, hbb⟩
    have hcells : (Array.range (len * j.size)).map (fun k => (if len * j.size = 0 then #[] else z.cells)[k % (if len * j.size = 0 then (#[] : Array Value) else z.cells).size]!) = (flat (List.replicate len z)).toArray := by
      rw [← zeroCells_flat]
      by_cases h0 : len * j.size = 0
      · simp [Builtin.zeroCells, hz2, h0]
      · simp only [if_neg h0, Builtin.zeroCells, hz2]
    simp only [execOp, ho, Instr.makeSlice, Sem.run_bind, hT.run_und, hd, Result.andThen_ok, e1, e2, asInt, asIntOf, Sem.run_pure, typeInfo, run_program, hf, hw1, hc1, Int.toNat_natCast]
    rw [if_neg (by simp)]
    by_cases h0 : len * j.size = 0
    · simp only [if_pos h0] at hcells
      simp only [Sem.run_bind, hask, hj.run_size, Result.andThen_ok, if_pos h0, Sem.run_pure, newRow, run_newObj_alloc, hcells]
    · simp only [if_neg h0] at hcells
      simp only [Sem.run_bind, hask, hj.run_size, Result.andThen_ok, if_neg h0, zeroValue, typeInfo, run_program, hf, hz1, Sem.run_pure, newRow, run_newObj_alloc, hcells]
  · simp only [VR]
    exact ⟨some (w.heap.size, 0), _, a2, rfl, Nat.le_refl _, fun ad h => by cases h; rfl, fun _ => ⟨w.heap.size, 0, rfl, by simp, e, _, shape_eq (alloc_new w _), by simp [hfl]⟩⟩

mutual
theorem AV.ren_nid (m : Nat → Nat) : ∀ (a : AV), a.nid = true → a.ren m = a
  | .ptr .., h | .eptr .., h | .ref .., h | .refc .., h | .map _, h => by simp [AV.nid] at h
  | .func f a b, h => by
    simp only [AV.nid, Bool.and_eq_true] at h
    simp only [AV.ren, AV.rens_nid m a h.1, AV.rens_nid m b h.2]
  | .iface t v, h => by simp only [AV.nid] at h; simp only [AV.ren, AV.ren_nid m v h]
  | .agg cs, h => by simp only [AV.nid] at h; simp only [AV.ren, AV.rens_nid m cs h]
  | .tuple cs, h => by simp only [AV.nid] at h; simp only [AV.ren, AV.rens_nid m cs h]
  | .bool _, _ | .sb _, _ | .int _ _, _ | .str _, _ | .nilp, _ | .fp _, _ | .nilsl, _ | .sl _ _, _ | .nilmap, _ | .nilfunc, _ | .niliface, _ | .junk, _ => rfl
theorem AV.rens_nid (m : Nat → Nat) : ∀ (l : List AV), AV.nids l = true → AV.rens m l = l
  | [], _ => rfl
  | a :: l, h => by
    simp only [AV.nids, Bool.and_eq_true] at h
    rw [AV.rens, AV.ren_nid m a h.1, AV.rens_nid m l h.2]
end
theorem nids_append (a b : List AV) : AV.nids (a ++ b) = (AV.nids a && AV.nids b) := by
  induction a with
  | nil => simp [AV.nids]
  | cons x a ih => simp [AV.nids, ih, Bool.and_assoc]
theorem nids_replicate (k : Nat) {a : AV} (h : a.nid = true) : AV.nids (List.replicate k a) = true := by
  rw [nids_iff]; intro x hx; rw [(List.mem_replicate.1 hx).2]; exact h
theorem nids_map {α : Type} (l : List α) (f : α → AV) (h : ∀ x, (f x).nid = true) : AV.nids (l.map f) = true := by
  rw [nids_iff]; intro x hx; obtain ⟨y, _, rfl⟩ := List.mem_map.1 hx; exact h y
theorem nids_take {l : List AV} (h : AV.nids l = true) (k : Nat) : AV.nids (l.take k) = true := by
  rw [nids_iff] at *; intro x hx; exact h x (List.mem_of_mem_take hx)
theorem nids_drop {l : List AV} (h : AV.nids l = true) (k : Nat) : AV.nids (l.drop k) = true := by
  rw [nids_iff] at *; intro x hx; exact h x (List.mem_of_mem_drop hx)
/-- A block that names nothing, in a round's own words. -/
theorem emb_arr {m : List Nat} {nx : Nat} {hp hp0 : Hp} {id id' : Nat} {sz : Nat} {els els' : List AV} (hm : mf m nx id = id') (hb : getB hp id' = some (.arr sz els)) (he : els = els') (hn : AV.nids els' = true) (h : embH m nx hp hp0) : embH m nx hp ((id, .arr sz els') :: hp0) := by
  subst hm; subst he
  exact ⟨by rw [Blk.ren, AV.rens_nid _ _ hn]; exact hb, h⟩

theorem snap_refc {hp : Hp} {sz id off len cap : Nat} {els r : List AV} (hb : getB hp id = some (.arr sz els)) (h : off + len ≤ els.length) (hr : (els.drop off).take len = r) : (AV.refc sz id off len cap).snap hp = .sl sz r := by
  subst hr
  simp only [AV.snap, hb, Nat.beq_refl, show Nat.ble (off + len) els.length = true from by rw [Nat.ble_eq]; exact h]
theorem snap_ref {hp : Hp} {sz id off len : Nat} {els r : List AV} (hb : getB hp id = some (.arr sz els)) (h : off + len ≤ els.length) (hr : (els.drop off).take len = r) : (AV.ref sz id off len).snap hp = .sl sz r := by
  subst hr
  simp only [AV.snap, hb, Nat.beq_refl, show Nat.ble (off + len) els.length = true from by rw [Nat.ble_eq]; exact h]

theorem set_mid {α : Type} (a b : List α) (x y : α) {k : Nat} (h : k = a.length) : (a ++ y :: b).set k x = a ++ x :: b := by
  subst h
  induction a with
  | nil => rfl
  | cons z a ih => simp [ih]

/-- Other words for a temporary's value, where they say the same of it. -/
theorem c_say' {ops : Array Oper} {l : List Oper} (t : Nat) {av : AV} (av' : AV) (ht : get env t = some av) (hq : ∀ w X ρ v, VR w X ρ av v → VR w X ρ av' v) (h : Wc P n n0 K (.rg ops l s ((t, av') :: env) hp nx)) : Wc P n n0 K (.rg ops l s env hp nx) :=
  fun C ρ w a hs => h C ρ w a (hs.say ht fun v hv => hq _ _ _ v hv)

/-- Whatever the one is said of, the other is. -/
def Le (a b : AV) : Prop := ∀ w X ρ v, VR w X ρ a v → VR w X ρ b v
theorem Le.rfl {a : AV} : Le a a := fun _ _ _ _ h => h
theorem le_bs {b c : Bool} (h : b = c) : Le (.bool b) (.sb c) := fun w X ρ v hv => by subst h; simpa only [VR] using hv
theorem le_sb {b c : Bool} (h : b = c) : Le (.sb b) (.bool c) := fun w X ρ v hv => by subst h; simpa only [VR] using hv
theorem le_eq {a b : AV} (h : a = b) : Le a b := h ▸ Le.rfl
theorem le_tuple {as bs : List AV} (hl : as.length = bs.length) (h : ∀ (i : Nat) a b, as[i]? = some a → bs[i]? = some b → Le a b) : Le (.tuple as) (.tuple bs) := fun w X ρ v hv => by
  simp only [VR] at hv ⊢
  obtain ⟨vs, rfl, hv⟩ := hv
  refine ⟨vs, rfl, VRs.mk (hv.length.trans hl) fun i x u hx hu => ?_⟩
  have hlt : i < as.length := by rw [hl]; exact (List.getElem?_eq_some_iff.1 hx).1
  obtain ⟨u', hu', r⟩ := hv.get (List.getElem?_eq_getElem hlt)
  rw [hu'] at hu; cases hu
  exact h i _ x (List.getElem?_eq_getElem hlt) hx w X ρ _ r

theorem PureC.of_le {T : Tab} (hT : TabOk P T) {f : FuncId} {fn : Func} {c : Code} {args : List AV} {r : AV} (hf : P.funcs[f]? = some fn) (hb : fn.body = some c) {k : Nat} (hk : fn.ntmps = k) (hn : Nat.ble args.length k = true) (hr : r.nid = true)
    (h : Wc P k 0 (kfin T fn fun r' _ _ => Le r' r) (.st [.code c] (enumE 0 args) [] 0)) : PureC P f args r := by
  subst hk
  intro w X argv hX hv
  let C : Ctx := { ex := X, O0 := fun _ => False, w0 := w, ρ0 := fun _ => none }
  have hH : HRel C 0 [] 0 C.ρ0 w := by
    refine ⟨?_, ?_, ?_, fun r hr => hX r hr, fun _ _ => _root_.rfl, Pres.refl _ _, fun i hi => by omega, Nat.le_refl _⟩
    · intro id b h; simp [getB, get, live] at h
    · intro id id' b b' r base base' h; simp [getB, get, live] at h
    · intro id b r base h; simp [getB, get, live] at h
  have hxx : ∀ b, XX C.ex [] C.ρ0 b → X b := by
    rintro b (h | ⟨id, bb, base, h, _⟩)
    · exact h
    · simp [getB, get, live] at h
  have hv' : VRs w (XX C.ex [] C.ρ0) C.ρ0 args argv := VRs.mono (Pres.refl (fun _ => False) w) (fun _ _ h => h.elim) (fun b _ h => hxx b h) (fun _ _ h => h) _ _ hv
  have h' : W P fn.ntmps 0 c (kfin T fn fun r' _ _ => Le r' r) (enumE 0 args) [] 0 := W.mono h fun e env hp nx h => by cases e <;> simpa only [kOf, kseq] using h
  refine calls_of_wp hf hb (wp_mono (h' C C.ρ0 w _ (SRel.enter hH hv' (by simpa using hn))) ?_)
  refine bodyPost_of hT ?_
  intro v w' r' hp' nx' ρ' hq hr' hv''
  refine ⟨v, _root_.rfl, hr'.pres, ?_⟩
  exact VR.mono (Pres.refl (fun _ => False) w') (fun _ _ h => h.elim) (fun b _ h => .inl h) (fun _ _ h => h) _ _ (VR_nid (ρ' := fun _ => none) _ _ hr (hq _ _ _ _ hv''))
theorem PureC.le {f : FuncId} {args : List AV} {r r' : AV} (h : PureC P f args r) (hl : Le r r') : PureC P f args r' := by
  intro w X argv hX hv
  refine (h w X argv hX hv).mono ?_
  rintro e w' ⟨v, rfl, hp, hv'⟩
  exact ⟨v, _root_.rfl, hp, hl _ _ _ _ hv'⟩

theorem OpS.cast {o : Oper} {av av' : AV} {hp' : Hp} {nx' : Nat} (h : OpS P n n0 o env hp nx av hp' nx') (e : av = av') : OpS P n n0 o env hp nx av' hp' nx' := e ▸ h
theorem OpS.le {o : Oper} {av av' : AV} {hp' : Hp} {nx' : Nat} (h : OpS P n n0 o env hp nx av hp' nx') (e : Le av av') : OpS P n n0 o env hp nx av' hp' nx' := fun C ρ w a hs => by
  obtain ⟨v, w', ρ', h1, h2, h3, h4⟩ := h C ρ w a hs
  exact ⟨v, w', ρ', h1, h2, e _ _ _ _ h3, h4⟩

theorem le_agg {as bs : List AV} (hl : as.length = bs.length) (h : ∀ (i : Nat) a b, as[i]? = some a → bs[i]? = some b → Le a b) : Le (.agg as) (.agg bs) := fun w X ρ v hv => by
  simp only [VR] at hv ⊢
  obtain ⟨vs, rfl, hv, h1⟩ := hv
  refine ⟨vs, _root_.rfl, VRs.mk (hv.length.trans hl) fun i x u hx hu => ?_, h1⟩
  have hlt : i < as.length := by rw [hl]; exact (List.getElem?_eq_some_iff.1 hx).1
  obtain ⟨u', hu', r⟩ := hv.get (List.getElem?_eq_getElem hlt)
  rw [hu'] at hu; cases hu
  exact h i _ x (List.getElem?_eq_getElem hlt) hx w X ρ _ r
theorem le_nilsl (sz : Nat) : Le .nilsl (.sl sz []) := fun _ _ _ v hv => VR_nil_sl sz v hv
theorem Le.trans {a b c : AV} (h : Le a b) (h' : Le b c) : Le a c := fun w X ρ v hv => h' _ _ _ _ (h _ _ _ _ hv)
theorem c_ownS {c : Code} (sz : Nat) {t : Nat} (ht : get env t = some .nilsl) (h : Wc P n n0 K (.st (.code c :: s) ((t, .ref sz nx 0 0) :: env) ((nx, .arr sz []) :: hp) (nx + 1))) : Wc P n n0 K (.st (.code c :: s) env hp nx) := W_own sz ht h
theorem c_sayS {c : Code} (t : Nat) {av : AV} (av' : AV) (ht : get env t = some av) (hq : Le av av') (h : Wc P n n0 K (.st (.code c :: s) ((t, av') :: env) hp nx)) : Wc P n n0 K (.st (.code c :: s) env hp nx) :=
  fun C ρ w a hs => h C ρ w a (hs.say ht fun v hv => hq _ _ _ v hv)
theorem c_freezeS {c : Code} (id : Nat) {sz : Nat} {els : List AV} (new : Env) (hb : getB hp id = some (.arr sz els)) (hcl : AV.nids els = true)
    (hf : frzOK [(id, .arr sz els)] env new) (h : Wc P n n0 K (.st (.code c :: s) (new ++ env) ((id, .dead) :: hp) nx)) : Wc P n n0 K (.st (.code c :: s) env hp nx) := W_freeze id new hb hcl hf h

/-- A nil slice, as a slice of one's own without room. -/
theorem SRel.ownNilC {C ρ w a} (hs : SRel C n n0 env hp nx ρ w a) (sz : Nat) {t : Nat} (ht : get env t = some .nilsl) :
    ∃ ρ', SRel C n n0 ((t, .refc sz nx 0 0 0) :: env) ((nx, .arr sz []) :: hp) (nx + 1) ρ' w a := by
  obtain ⟨v, hv, hvr⟩ := hs.env _ _ ht
  simp only [VR] at hvr
  obtain ⟨ρ', hs'⟩ := hs.ownNil sz ht
  obtain ⟨u, hu, hur⟩ := hs'.env t _ (by rw [get_cons, if_pos _root_.rfl])
  rw [hv] at hu; cases hu
  refine ⟨ρ', hs'.envOf fun t' av h => ?_⟩
  rw [get_cons] at h
  split at h
  · rename_i e; subst e; cases h
    simp only [VR] at hur ⊢
    obtain ⟨p, a, c, h1, h2, h3, h4, h5⟩ := hur
    rw [hvr] at h2; cases h2
    exact ⟨v, hv, p, none, h1, hvr, Nat.le_refl _, h4, h5⟩
  · rename_i e
    exact hs'.env t' av (by rw [get_cons, if_neg e]; exact h)
theorem c_ownCS {c : Code} (sz : Nat) {t : Nat} (ht : get env t = some .nilsl) (h : Wc P n n0 K (.st (.code c :: s) ((t, .refc sz nx 0 0 0) :: env) ((nx, .arr sz []) :: hp) (nx + 1))) : Wc P n n0 K (.st (.code c :: s) env hp nx) :=
  fun C ρ w a hs => let ⟨ρ', hs'⟩ := hs.ownNilC sz ht; h C ρ' w a hs'
theorem c_weakS {c : Code} (t : Nat) {sz id off len cap} (ht : get env t = some (.refc sz id off len cap)) (h : Wc P n n0 K (.st (.code c :: s) ((t, .ref sz id off len) :: env) hp nx)) : Wc P n n0 K (.st (.code c :: s) env hp nx) :=
  fun C ρ w a hs => h C ρ w a (hs.say ht fun _ hv => VR_refc hv)
theorem c_runQ {ops : Array Oper} {o : Oper} {l : List Oper} {c : Call} {x : Operand} {f g : FuncId} {caps as args : List AV} {hp1 : Hp} {n1 : Nat} {Q : AV → Hp → Nat → Prop} {d : Nat} (hc : RunC P g args hp1 n1 Q) (m : List Nat)
    (ho : o.op = .call c) (hcal : c.callee = .value x) (hx : evO env x = some (.func (.func f) [] caps)) (has : evL env c.args.toList = some as) (hcf : CallsTo P f g) (hargs : AV.rens (mf m nx) args = as ++ caps)
    (hlen : Nat.beq m.length n1 = true) (hnd : nodupB m = true) (hh : embH m nx hp hp1) (hlow : (m.all fun k => Nat.blt k nx) = true) (hw : wantA ops env o = some true)
    (hd : o.dst = some d) (hdn : Nat.blt d n = true) (h : ∀ r hp' nx', Q r hp' nx' → Wc P n n0 K (.rg ops l s ((d, r.ren (mg m nx)) :: env) (backH m nx hp hp') (Nat.add nx (Nat.sub nx' n1)))) : Wc P n n0 K (.rg ops (o :: l) s env hp nx) := by
  refine c_opE (OpE.run hc ho hcal hx has hcf m hargs hlen hnd hh hlow) hw hd hdn ?_
  rintro av hp3 nx3 ⟨r, hp', nx', hq, rfl, rfl, rfl⟩
  exact h r hp' nx' hq
end
end Go.Av
namespace Go.Av
open Go

section
variable {P : Program} {n n0 : Nat} {env : Env} {hp : Hp} {nx : Nat} {K : Kont} {s : List Fr}

/-- An operation over a slice whose capacity is not looked at. -/
theorem OpS.weak {o : Oper} (t : Nat) {sz id off len cap : Nat} {av : AV} {hp' : Hp} {nx' : Nat} (ht : get env t = some (.refc sz id off len cap)) (h : OpS P n n0 o ((t, .ref sz id off len) :: env) hp nx av hp' nx') : OpS P n n0 o env hp nx av hp' nx' := by
  intro C ρ w a hs
  obtain ⟨v, w', ρ', g1, g2, g3, g4, g5⟩ := h C ρ w a (hs.say ht fun _ hv => VR_refc hv)
  exact ⟨v, w', ρ', g1, g2.envOf fun t' av' h' => (hs.env t' av' h').imp fun u hu => ⟨hu.1, g5 _ _ hu.2⟩, g3, g4, g5⟩
theorem OpS.nilsl {o : Oper} (t sz : Nat) {av : AV} {hp' : Hp} {nx' : Nat} (ht : get env t = some .nilsl) (h : OpS P n n0 o ((t, .sl sz []) :: env) hp nx av hp' nx') : OpS P n n0 o env hp nx av hp' nx' := by
  intro C ρ w a hs
  obtain ⟨v, w', ρ', g1, g2, g3, g4, g5⟩ := h C ρ w a (hs.say ht fun _ hv => VR_nil_sl sz _ hv)
  exact ⟨v, w', ρ', g1, g2.envOf fun t' av' h' => (hs.env t' av' h').imp fun u hu => ⟨hu.1, g5 _ _ hu.2⟩, g3, g4, g5⟩

/-- A nil slice is a slice of one's own. -/
theorem SRel.ownNilV {C ρ w a} (hs : SRel C n n0 env hp nx ρ w a) (sz : Nat) {t : Nat} (ht : get env t = some .nilsl) :
    ∃ ρ', SRel C n n0 ((t, .ref sz nx 0 0) :: env) ((nx, .arr sz []) :: hp) (nx + 1) ρ' w a ∧ (∀ av v, VR w (XX C.ex hp ρ) ρ av v → VR w (XX C.ex ((nx, .arr sz []) :: hp) ρ') ρ' av v) := by
  have hn := hs.fresh nx (Nat.le_refl _)
  have hold : ∀ i b, getB ((nx, .arr sz []) :: hp) i = some b → i = nx ∧ b = .arr sz [] ∨ i ≠ nx ∧ getB hp i = some b := fun i b h => by
    rw [getB_cons] at h
    split at h
    · rename_i h1; simp only [live, Option.some.injEq] at h; exact .inl ⟨h1.symm, h.symm⟩
    · rename_i h1; exact .inr ⟨Ne.symm h1, h⟩
  have h1 := hs.change (fun _ => False) (Pres.refl _ w) (fun _ _ h => h.elim) (ρ' := updR ρ nx none) (hp' := (nx, .arr sz []) :: hp) (nx' := nx + 1)
    (fun i p hi => by
      by_cases e : i = nx
      · subst e; rw [hn] at hi; cases hi
      · simp [updR, e, hi])
    (fun i hi => by have := hs.le; simp only [updR]; rw [if_neg (by omega)]) (by omega)
    (fun i hi => by simp only [updR]; rw [if_neg (by omega)]; exact hs.fresh i (by omega))
    (fun i b h => by
      rcases hold i b h with ⟨rfl, rfl⟩ | ⟨h1, h2⟩
      · exact .inr ⟨none, by simp [updR], rfl, fun r base h => by cases h⟩
      · exact .inl ⟨h2, fun _ _ _ h => h⟩)
    (fun i i' b b' r base base' g1 g2 g3 g4 => by
      rcases hold i b g1 with ⟨rfl, rfl⟩ | ⟨h1, h2⟩ <;> rcases hold i' b' g2 with ⟨rfl, rfl⟩ | ⟨h1', h2'⟩
      · rfl
      · simp [updR] at g3
      · simp [updR] at g4
      · simp only [updR, if_neg h1] at g3
        simp only [updR, if_neg h1'] at g4
        exact hs.inj i i' b b' r base base' h2 h2' g3 g4)
  refine ⟨_, h1.1.envOf fun t' av h => ?_, h1.2.2⟩
  rw [get_cons] at h
  split at h
  · rename_i e; subst e; cases h
    obtain ⟨v, hv, g⟩ := hs.env _ _ ht
    simp only [VR] at g; subst g
    exact ⟨_, hv, by simp only [VR]; exact ⟨none, none, 0, by simp [updR], rfl, Nat.le_refl _, fun ad h => (by cases h), fun h => (h rfl).elim⟩⟩
  · exact h1.1.env _ _ h

/-- An operation over a nil slice, as over one of one's own without elements. -/
theorem OpE.own {o : Oper} (t sz : Nat) {R : AV → Hp → Nat → Prop} (ht : get env t = some .nilsl) (h : OpE P n n0 o ((t, .ref sz nx 0 0) :: env) ((nx, .arr sz []) :: hp) (nx + 1) R) : OpE P n n0 o env hp nx R := by
  intro C ρ w a hs Kr Q hk
  obtain ⟨ρ1, hs1, hv1⟩ := hs.ownNilV sz ht
  refine h C ρ1 w a hs1 Kr Q fun v w' ρ' av hp' nx' h1 h2 h3 h4 => hk v w' ρ' av hp' nx' h1 (h2.envOf fun t' av' h' => ?_) h3 (fun x u hx => h4 x u (hv1 x u hx))
  obtain ⟨u, g1, g2⟩ := hs.env t' av' h'
  exact ⟨u, g1, h4 _ _ (hv1 _ _ g2)⟩

/-- Two rows of one's own, of two names: they do not overlap. -/
theorem op_overlaps {o : Oper} {c : Call} {x : Operand} {f : FuncId} {fn : Func} {rs : Array TypeId} {sz id1 off1 len1 id2 off2 len2 cap2 : Nat} {e1 e2 : List AV} {tS e : TypeId} {i j : TI} (ho : o.op = .call c) (hcal : c.callee = .value x)
    (hx : evO env x = some (.func (.func f) [] [])) (has : evL env c.args.toList = some [.ref sz id1 off1 len1, .refc sz id2 off2 len2 cap2]) (hf : P.funcs[f]? = some fn) (hname : (fn.name == "runtime.NumGoroutine") = false)
    (hb : fn.body.isNone = true) (hn : Extern.findNext fn = none) (he : Extern.find fn = some (Extern.SlicesOverlaps.overlaps #[tS, tS] rs)) {tR : TypeId} (hrs : rs = #[tR]) (hT : TOk P tS i) (hd : i.desc = .slice e) (hj : TOk P e j)
    (h1 : getB hp id1 = some (.arr sz e1)) (h2 : getB hp id2 = some (.arr sz e2)) (hne : id1 ≠ id2) (hl1 : 0 < len1) (hc2 : 0 < cap2) (hsz : 0 < sz) :
    OpS P n n0 o env hp nx (.bool false) hp nx := by
  subst hrs
  refine op_extern ho hcal hx has hf hname hb hn he ?_
  intro C ρ w a hs argv hv
  simp only [VRs, VR] at hv
  obtain ⟨v1, _, rfl, ⟨p1, a1, c1, q1, rfl, q2, q3, q4⟩, v2, _, rfl, ⟨p2, a2, r1, rfl, r2, r3, r4⟩, rfl⟩ := hv
  obtain ⟨b1, base1, rfl, rfl, T1, k1, u1, u2⟩ := q4 (by omega)
  obtain ⟨b2, base2, rfl, rfl, T2, k2, t1, t2⟩ := r4 (by omega)
  refine ⟨.bool false, ?_, by simp only [VR]⟩
  obtain ⟨_, z1, B1⟩ := hs.blk _ _ h1
  rw [q1] at z1; cases z1
  simp only [BR] at B1
  obtain ⟨cc, TT, fz, evs, g1, g2, _⟩ := B1
  have hk : k1 = cc.size := by
    rw [World.shape?, g1] at u1
    simp at u1; omega
  have hfr : ∀ o, o ≤ cc.size → w.frozen? ⟨b1, o, none⟩ = false := fun o ho => by
    simp only [World.frozen?, g1]
    have := g2 o ho
    simp only [Bool.and_eq_false_iff, decide_eq_false_iff_not]
    by_cases hh : fz.1 ≤ o
    · exact .inr fun h => this ⟨hh, h⟩
    · exact .inl hh
  have hoff : base1 + off1 * sz ≤ cc.size := by
    have : off1 * sz ≤ (off1 + c1) * sz := Nat.mul_le_mul_right _ (by omega)
    omega
  have hp2 : 0 < (off2 + cap2) * sz := Nat.mul_pos (by omega) hsz
  refine Lib.run_overlaps_apart w tS tR e (by rw [hT.und, hd]) j.size (fun w => hj.run_size w) _ _ _ _ _ _ (fun hbb => hne ?_) _ _ _ _ u1 t1 (by omega) (hfr _ hoff) (by subst hk; exact hfr _ (Nat.le_refl _))
  simp only at hbb
  subst hbb
  exact hs.inj _ _ _ _ _ _ _ h1 h2 q1 r1

theorem flat_take_get {evs : List Value} {k j : Nat} {v : Value} (h : (flat (evs.take k))[j]? = some v) : (flat evs)[j]? = some v := by
  have e : flat evs = flat (evs.take k) ++ flat (evs.drop k) := by
    have := congrArg flat (List.take_append_drop k evs)
    rw [← this]; simp only [flat, List.flatMap_append]
  rw [e, List.getElem?_append_left (List.getElem?_eq_some_iff.1 h).1]; exact h
theorem flat_take_mem {evs : List Value} {k : Nat} {v : Value} (h : v ∈ flat (evs.take k)) : v ∈ flat evs := by
  simp only [flat, List.mem_flatMap] at h ⊢
  obtain ⟨e, he, hv⟩ := h
  exact ⟨e, List.mem_of_mem_take he, hv⟩

/-- Less is said of a block: its first elements. -/
theorem HRel.shrink {C ρ w} (hs : HRel C n0 hp nx ρ w) {id sz : Nat} {els : List AV} (k : Nat) (hb : getB hp id = some (.arr sz els)) : HRel C n0 ((id, .arr sz (els.take k)) :: hp) nx ρ w := by
  have hXX : ∀ r, XX C.ex ((id, .arr sz (els.take k)) :: hp) ρ r → XX C.ex hp ρ r := by
    rintro r (h | ⟨i, b, base, h1, h2⟩)
    · exact .inl h
    · rw [getB_cons] at h1
      split at h1
      · rename_i e; subst e; exact .inr ⟨_, _, base, hb, h2⟩
      · exact .inr ⟨i, b, base, h1, h2⟩
  have hlive : ∀ i b, getB ((id, .arr sz (els.take k)) :: hp) i = some b → ∃ b', getB hp i = some b' := fun i b h => by
    rw [getB_cons] at h
    split at h
    · rename_i e; subst e; exact ⟨_, hb⟩
    · exact ⟨b, h⟩
  have hmono : ∀ b p, BR w (XX C.ex hp ρ) ρ b p → BR w (XX C.ex ((id, .arr sz (els.take k)) :: hp) ρ) ρ b p := fun b p h => by
    have key : ∀ (l : List AV) (vs : List Value), VRs w (XX C.ex hp ρ) ρ l vs → VRs w (XX C.ex ((id, .arr sz (els.take k)) :: hp) ρ) ρ l vs := fun l vs h =>
      VRs.mono (Pres.refl (fun _ => False) w) (fun _ _ h => h.elim) (fun r _ h => hXX r h) (fun _ _ h => h) _ _ h
    cases b <;> cases p <;> simp only [BR] at h ⊢
    case arr.none => exact h
    case arr.some => obtain ⟨c, T, fz, evs, h1, h2, h3, h4⟩ := h; exact ⟨c, T, fz, evs, h1, h2, key _ _ h3, h4⟩
    case mp.some => obtain ⟨es, clock, h1, h2, h3⟩ := h; exact ⟨es, clock, h1, key _ _ h2, key _ _ h3⟩
    case siter.some => exact h
  refine { hs with blk := fun i b h => ?_, inj := fun i i' b b' r base base' h1 h2 h3 h4 => ?_, own := fun i b r base h1 h2 => ?_ }
  · rw [getB_cons] at h
    split at h
    · rename_i e; subst e
      obtain ⟨p, h1, h2⟩ := hs.blk _ _ hb
      refine ⟨p, h1, ?_⟩
      have hq : b = .arr sz (els.take k) := by simpa [live] using h.symm
      subst hq
      have h2 := hmono _ _ h2
      cases p with
      | none => simp only [BR] at h2 ⊢; subst h2; simp
      | some p =>
        simp only [BR] at h2 ⊢
        obtain ⟨c, T, fz, evs, g1, g2, g3, g4, g5, g6⟩ := h2
        exact ⟨c, T, fz, evs.take k, g1, g2, g3.take k, fun ev he => g4 ev (List.mem_of_mem_take he), fun j v hv => g5 j v (flat_take_get hv), fun v hv => g6 v (flat_take_mem hv)⟩
    · obtain ⟨p, h1, h2⟩ := hs.blk _ _ h
      exact ⟨p, h1, hmono _ _ h2⟩
  · obtain ⟨c, g1⟩ := hlive _ _ h1
    obtain ⟨c', g2⟩ := hlive _ _ h2
    exact hs.inj _ _ _ _ _ _ _ g1 g2 h3 h4
  · obtain ⟨c, g1⟩ := hlive _ _ h1
    obtain ⟨g2, g3, g4⟩ := hs.own _ _ _ _ g1 h2
    exact ⟨g2, g3, g4⟩
theorem c_shrinkS {c : Code} (id k : Nat) {sz : Nat} {els els' : List AV} (hb : getB hp id = some (.arr sz els)) (he : els.take k = els') (h : Wc P n n0 K (.st (.code c :: s) env ((id, .arr sz els') :: hp) nx)) : Wc P n n0 K (.st (.code c :: s) env hp nx) := by
  subst he
  intro C ρ w a hs
  refine h C ρ w a { hs.toHRel.shrink k hb with env := fun t av ht => ?_, size := hs.size, defers := hs.defers }
  obtain ⟨v, h1, h2⟩ := hs.env t av ht
  refine ⟨v, h1, VR.mono (Pres.refl (fun _ => False) w) (fun _ _ h => h.elim) (fun r _ h => ?_) (fun _ _ h => h) _ _ h2⟩
  rcases h with h | ⟨i, b, base, h1, h2⟩
  · exact .inl h
  · rw [getB_cons] at h1
    split at h1
    · rename_i e; subst e; exact .inr ⟨_, _, base, hb, h2⟩
    · exact .inr ⟨i, b, base, h1, h2⟩
/-- What is said of all these, is said of those. -/
def LeL (as bs : List AV) : Prop := ∀ w X ρ vs, VRs w X ρ as vs → VRs w X ρ bs vs
theorem LeL.nil : LeL [] [] := fun _ _ _ _ h => h
theorem LeL.cons {a b : AV} {as bs : List AV} (h : Le a b) (h' : LeL as bs) : LeL (a :: as) (b :: bs) := fun w X ρ vs hv => by
  simp only [VRs] at hv ⊢
  obtain ⟨v, r, rfl, h1, h2⟩ := hv
  exact ⟨v, r, rfl, h _ _ _ _ h1, h' _ _ _ _ h2⟩
theorem RunC.args {f : FuncId} {as bs : List AV} {Q : AV → Hp → Nat → Prop} (h : RunC P f bs hp n0 Q) (hl : LeL as bs) : RunC P f as hp n0 Q := fun C w argv h1 h2 hv => h C w argv h1 h2 (hl _ _ _ _ hv)
theorem PureC.args {f : FuncId} {as bs : List AV} {r : AV} (h : PureC P f bs r) (hl : LeL as bs) : PureC P f as r := fun w X argv hX hv => h w X argv hX (hl _ _ _ _ hv)

/-- A contract in other names' words. -/
theorem RunC.emb {g : FuncId} {args as : List AV} {hp1 : Hp} {n1 : Nat} {Q : AV → Hp → Nat → Prop} (hc : RunC P g args hp1 n1 Q) (m : List Nat) (hargs : AV.rens (mf m n0) args = as) (hlen : Nat.beq m.length n1 = true) (hnd : nodupB m = true)
    (hh : embH m n0 hp hp1) (hlow : (m.all fun k => Nat.blt k n0) = true) : RunC P g as hp n0 (fun av hp2 nx2 => ∃ r hp' nx', Q r hp' nx' ∧ av = r.ren (mg m n0) ∧ hp2 = backH m n0 hp hp' ∧ nx2 = Nat.add n0 (Nat.sub nx' n1)) := by
  intro C w argv hw hH hv
  obtain ⟨C1, e1, e2, hH1, hX1, hback⟩ := hH.back hlen hnd hh (fun k hk => by
    have := List.all_eq_true.1 hlow k hk
    simp [Nat.blt] at this; omega)
  have hv1 : VRs w (XX C1.ex hp1 C1.ρ0) C1.ρ0 args argv := by
    rw [e2] at hX1 ⊢
    refine VRs_ren (mf m n0) _ (mf_rho (hH.fresh n0 (Nat.le_refl _))) _ _ ?_
    rw [hargs]
    exact VRs.mono (Pres.refl (fun _ => False) w) (fun _ _ h => h.elim) (fun r _ h => hX1 r h) (fun _ _ h => h) _ _ hv
  refine (hc C1 w argv e1 hH1 hv1).mono ?_
  rintro e w' ⟨v, rfl, r, hp', nx', ρ', hq, hH', hv'⟩
  obtain ⟨ρ'', k1, k2, k3, k4⟩ := hback hp' nx' ρ' w' hH'
  exact ⟨v, rfl, _, _, _, ρ'', ⟨r, hp', nx', hq, rfl, rfl, rfl⟩, k1, k3 _ _ hv'⟩
/-- What a contract says of memory, said otherwise. -/
theorem RunC.ext {g : FuncId} {as : List AV} {Q Q' : AV → Hp → Nat → Prop} (hc : RunC P g as hp n0 Q) (hq : ∀ r h x, Q r h x → ∃ h', (∀ id, getB h' id = getB h id) ∧ Q' r h' x) : RunC P g as hp n0 Q' := by
  intro C w argv hw hH hv
  refine (hc C w argv hw hH hv).mono ?_
  rintro e w' ⟨v, rfl, r, hp', nx', ρ', hQ, hH', hv'⟩
  obtain ⟨h', he, hQ'⟩ := hq _ _ _ hQ
  refine ⟨v, rfl, r, h', nx', ρ', hQ', hH'.ext he, ?_⟩
  have eX : XX C.ex h' ρ' = XX C.ex hp' ρ' := by unfold XX; rw [show getB h' = getB hp' from funext he]
  rw [eX]; exact hv'

/-- Wc, of a stack whose loop head asks for less. -/
theorem Wst.inv_mono {I J : Env → Hp → Nat → Prop} {c : Code} (hIJ : ∀ env hp nx, I env hp nx → J env hp nx) (h : Wc P n n0 K (.st (.code c :: .inv I :: s) env hp nx)) : Wc P n n0 K (.st (.code c :: .inv J :: s) env hp nx) := by
  have h' : W P n n0 c (kOf P n n0 (.inv I :: s) K) env hp nx := h
  show W P n n0 c (kOf P n n0 (.inv J :: s) K) env hp nx
  refine W.mono h' fun e env hp nx h => ?_
  cases e <;> simp only [kOf, kseq] at h ⊢
  case normal => exact hIJ _ _ _ h
  all_goals exact h
/-- A loop, with what holds at its head. -/
theorem c_loopP {ι : Type} {c : Code} (I : ι → Prop) (E : ι → Env) (H : ι → Hp) (nx0 : Nat) (μ : ι → Nat) (i0 : ι) (hi0 : I i0) (m : List Nat) (h0 : Emb m n0 nx0 (E i0) (H i0) env hp nx)
    (round : ∀ i, I i → Wc P n n0 K (.st (.code c :: .inv (fun env hp nx => ∃ j m, I j ∧ μ j < μ i ∧ Emb m n0 nx0 (E j) (H j) env hp nx) :: s) (E i) (H i) nx0)) :
    Wc P n n0 K (.st (.code (.loop c) :: s) env hp nx) :=
  c_loop (ι := { i // I i }) (fun i => E i.1) (fun i => H i.1) nx0 (fun i => μ i.1) ⟨i0, hi0⟩ m h0 fun i =>
    Wst.inv_mono (fun _ _ _ ⟨j, m, hj, hm, he⟩ => ⟨⟨j, hj⟩, m, hm, he⟩) (round i.1 i.2)
/-- A slice's capacity, whatever it is. -/
theorem c_capS {c : Code} (t : Nat) {sz id off len : Nat} (ht : get env t = some (.ref sz id off len)) (h : ∀ cap, len ≤ cap → Wc P n n0 K (.st (.code c :: s) ((t, .refc sz id off len cap) :: env) hp nx)) : Wc P n n0 K (.st (.code c :: s) env hp nx) := by
  intro C ρ w a hs
  obtain ⟨v, h1, h2⟩ := hs.env _ _ ht
  have h2' := h2
  simp only [VR] at h2
  obtain ⟨p, ad, cap, g1, rfl, g2, g3, g4⟩ := h2
  refine h cap g2 C ρ w a (hs.envOf fun t' av h' => ?_)
  rw [get_cons] at h'
  split at h'
  · rename_i e; subst e; cases h'
    exact ⟨_, h1, by simp only [VR]; exact ⟨p, ad, g1, rfl, g2, g3, g4⟩⟩
  · exact hs.env _ _ h'
end
section
variable {P : Program} {n n0 : Nat} {ops : Array Oper} {nx0 N : Nat} {E : Nat → Env} {hp0 : Hp} {fin : List Rec → Prop} {l : List Oper} {ms : List Nat} {acc : List Rec} {o : Oper}
/-- A call over memory, in a region whose order is open. -/
theorem f_run {c : Call} {x : Operand} {f g : FuncId} {caps as args : List AV} {hp1 hp2 : Hp} {n1 nx2 : Nat} {r0 r : AV} {hp' : Hp} {nx' : Nat} (hc : RunC P g args hp1 n1 (QE r0 hp' nx')) (m : List Nat)
    (ho : o.op = .call c) (hcal : c.callee = .value x) (hx : evO (bnd (Nat.testBit (maskOf ms o)) 0 acc (E ms.length)) x = some (.func (.func f) [] caps)) (has : evL (bnd (Nat.testBit (maskOf ms o)) 0 acc (E ms.length)) c.args.toList = some as)
    (hcf : CallsTo P f g) (hargs : AV.rens (mf m (nxB (fun _ => true) 0 acc (Nat.add nx0 N))) args = as ++ caps) (hlen : Nat.beq m.length n1 = true) (hnd : nodupB m = true) (hh : embH m (nxB (fun _ => true) 0 acc (Nat.add nx0 N)) (hpB (fun _ => true) nx0 0 acc hp0) hp1)
    (hlow : (m.all fun k => Nat.blt k (nxB (fun _ => true) 0 acc (Nat.add nx0 N))) = true) (hd : (match o.dst with | some d => Nat.blt d n | none => true) = true) (hw : wantA ops (bnd (Nat.testBit (maskOf ms o)) 0 acc (E ms.length)) o = some true)
    (ha : allB (fun r => isP r.kd) (maskOf ms o) 0 acc = true)
    (hr : r0.ren (mg m (nxB (fun _ => true) 0 acc (Nat.add nx0 N))) = r) (hb : backH m (nxB (fun _ => true) 0 acc (Nat.add nx0 N)) (hpB (fun _ => true) nx0 0 acc hp0) hp' = hp2) (hx2 : Nat.add (nxB (fun _ => true) 0 acc (Nat.add nx0 N)) (Nat.sub nx' n1) = nx2)
    (h : Facts P n n0 ops nx0 N E hp0 fin l (ms ++ [maskOf ms o]) (acc ++ [⟨.ef hp2 nx2, o.dst, r⟩])) : Facts P n n0 ops nx0 N E hp0 fin (o :: l) ms acc := by
  refine f_ef ((OpE.run hc ho hcal hx has hcf m hargs hlen hnd hh hlow).mono ?_) hd hw ha h
  rintro av hp3 nx3 ⟨_, _, _, ⟨rfl, rfl, rfl⟩, rfl, rfl, rfl⟩
  exact ⟨hr, hb, hx2⟩
/-- What is made new, in a region whose order is open. -/
theorem f_al {mk : Nat → AV} {blk : Blk} (ho : ∀ hp nx, OpAl P n n0 o (bnd (Nat.testBit (maskOf ms o)) 0 acc (E ms.length)) hp nx mk blk) (hd : (match o.dst with | some d => Nat.blt d n | none => true) = true)
    (hw : wantA ops (bnd (Nat.testBit (maskOf ms o)) 0 acc (E ms.length)) o = some true) (ha : (acc.all fun r => !isEf r.kd) = true)
    (h : Facts P n n0 ops nx0 N E hp0 fin l (ms ++ [maskOf ms o]) (acc ++ [⟨.al mk blk, o.dst, mk (Nat.add nx0 acc.length)⟩])) : Facts P n n0 ops nx0 N E hp0 fin (o :: l) ms acc :=
  f_step rfl (r := ⟨.al mk blk, o.dst, mk (Nat.add nx0 acc.length)⟩) ⟨rfl, hd, hw, ha, rfl, ho⟩ rfl rfl h
theorem embH_congr {m : List Nat} {nx : Nat} {h h' : Hp} (he : ∀ id ∈ m, getB h' id = getB h id) : ∀ {hp1 : Hp}, (hp1.all fun p => Nat.blt p.1 m.length) = true → embH m nx h hp1 → embH m nx h' hp1
  | [], _, _ => trivial
  | (id, b) :: r, hin, hh => by
    simp only [List.all_cons, Bool.and_eq_true] at hin
    have hlt : id < m.length := by have := hin.1; simp [Nat.blt] at this; omega
    refine ⟨?_, embH_congr he hin.2 hh.2⟩
    have e : mf m nx id = m[id] := by simp [mf, hlt]
    rw [e, he _ (List.getElem_mem hlt), ← e]
    exact hh.1
/-- A call over memory, in a region whose order is open, beside what is made there. -/
theorem f_rn {c : Call} {x : Operand} {f g : FuncId} {caps as args : List AV} {hp1 : Hp} {n1 nx2 : Nat} {r0 r : AV} {hp' : Hp} {nx' : Nat} (hc : RunC P g args hp1 n1 (QE r0 hp' nx')) (m : List Nat)
    (ho : o.op = .call c) (hcal : c.callee = .value x) (hx : evO (bnd (Nat.testBit (maskOf ms o)) 0 acc (E ms.length)) x = some (.func (.func f) [] caps)) (has : evL (bnd (Nat.testBit (maskOf ms o)) 0 acc (E ms.length)) c.args.toList = some as)
    (hcf : CallsTo P f g) (hargs : AV.rens (mf m (nxB (fun _ => true) 0 acc (Nat.add nx0 N))) args = as ++ caps) (hlen : Nat.beq m.length n1 = true) (hnd : nodupB m = true) (hh : embH m (nxB (fun _ => true) 0 acc (Nat.add nx0 N)) (hpB (Nat.testBit (maskOf ms o)) nx0 0 acc hp0) hp1)
    (hin : (hp1.all fun p => Nat.blt p.1 m.length) = true) (hlow : (m.all fun k => Nat.blt k (nxB (fun _ => true) 0 acc (Nat.add nx0 N))) = true) (hd : (match o.dst with | some d => Nat.blt d n | none => true) = true) (hw : wantA ops (bnd (Nat.testBit (maskOf ms o)) 0 acc (E ms.length)) o = some true)
    (ha : allB (fun r => isP r.kd || isAl r.kd) (maskOf ms o) 0 acc = true) (hge : Nat.ble (Nat.add nx0 N) (nxB (fun _ => true) 0 acc (Nat.add nx0 N)) = true) (hok : okM m nx0 (maskOf ms o) 0 acc = true)
    (hr : r0.ren (mg m (nxB (fun _ => true) 0 acc (Nat.add nx0 N))) = r) (hx2 : Nat.add (nxB (fun _ => true) 0 acc (Nat.add nx0 N)) (Nat.sub nx' n1) = nx2)
    (h : Facts P n n0 ops nx0 N E hp0 fin l (ms ++ [maskOf ms o]) (acc ++ [⟨.rn m (nxB (fun _ => true) 0 acc (Nat.add nx0 N)) hp' nx2, o.dst, r⟩])) : Facts P n n0 ops nx0 N E hp0 fin (o :: l) ms acc := by
  refine f_step rfl (r := ⟨.rn m (nxB (fun _ => true) 0 acc (Nat.add nx0 N)) hp' nx2, o.dst, r⟩) ⟨rfl, hd, hw, ha, rfl, hge, ?_, hok, fun h hid => ?_⟩ rfl rfl h
  · subst hx2; simp
  · refine (OpR.run hc ho hcal hx has hcf m hargs hlen hnd (embH_congr hid hin hh) hlow).mono ?_
    rintro av hp3 nx3 ⟨_, _, _, ⟨rfl, rfl, rfl⟩, rfl, rfl, rfl⟩
    exact ⟨hr, rfl, hx2⟩
end
end Go.Av
