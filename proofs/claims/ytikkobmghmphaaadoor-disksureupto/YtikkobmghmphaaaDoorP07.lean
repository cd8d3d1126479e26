/- Part 7 of the proof: what the operations of the model do to values as Lean sees them, and plain laws. -/
import Derived.Deep.Slices
import Derived.WideKeyArgs
import Derived.ChangeArms
import Derived.ChangeSame
import Derived.ChangeOld
import Derived.RowKit3
import Derived.Test.YtikkobmghmphaaaDoorP06
namespace Go.Av
open Go

def kap (κ : List Nat) (i : Nat) : Nat := match κ[i]? with | some k => k | none => i
def renG (κ : List Nat) : Option (Nat × Bool) → Option (Nat × Bool)
  | some (j, b) => some (kap κ j, b)
  | none => none
def renOp (κ : List Nat) (o : Oper) : Oper := { o with after := (o.after.toList.map fun e => { e with on := kap κ e.on }).toArray, guard := renG κ o.guard }
def permL (κ : List Nat) (ops : List Oper) (τ : List Nat) : List Oper := τ.map fun i => renOp κ (ops.getD i default)
def permOK (κ τ : List Nat) (n : Nat) : Bool :=
  Nat.beq κ.length n && (Nat.beq τ.length n && ((List.range n).all fun i => Nat.beq (kap τ (kap κ i)) i && (Nat.beq (kap κ (kap τ i)) i && (Nat.blt (kap κ i) n && Nat.blt (kap τ i) n))))

section
variable {P : Program} {n n0 : Nat} {env : Env} {hp : Hp} {nx : Nat} {K : Kont} {s : List Fr} {Q : Exit → Act → World → Prop}

structure PermH (κ : List Nat) (ops ops' : Array Oper) : Prop where
  size : ops'.size = ops.size
  lt : ∀ i, i < ops.size → kap κ i < ops.size
  ge : ∀ i, ops.size ≤ i → kap κ i = i
  inj : ∀ i j, kap κ i = kap κ j → i = j
  sur : ∀ k, k < ops.size → ∃ i, i < ops.size ∧ kap κ i = k
  get : ∀ i o, ops[i]? = some o → ops'[kap κ i]? = some (renOp κ o)

theorem PermH.yielded {κ : List Nat} {ops ops' : Array Oper} (h : PermH κ ops ops') (tmps : Array Value) (j : Nat) : yielded ops' tmps (kap κ j) = yielded ops tmps j := by
  unfold Go.yielded
  cases ho : ops[j]? with
  | none =>
    have hj : ops.size ≤ j := by
      rcases Nat.lt_or_ge j ops.size with hh | hh
      · rw [Array.getElem?_eq_getElem hh] at ho; cases ho
      · exact hh
    rw [h.ge j hj, Array.getElem?_eq_none (by rw [h.size]; exact hj)]
  | some o => rw [h.get j o ho]; rfl
theorem PermH.wanted {κ : List Nat} {ops ops' : Array Oper} (h : PermH κ ops ops') (tmps : Array Value) (o : Oper) : Region.wanted (renOp κ o) (Go.yielded ops' tmps) = Region.wanted o (Go.yielded ops tmps) := by
  unfold Region.wanted
  show (match renG κ o.guard with | none => true | some (j, want) => _) = _
  cases hg : o.guard with
  | none => rfl
  | some g => obtain ⟨j, b⟩ := g; simp only [renG, h.yielded]

theorem wpAny_perm {κ : List Nat} {ops ops' : Array Oper} (h : PermH κ ops ops') : ∀ (fuel : Nat) (listed listed' : Array Bool) (a : Act) (w : World), listed.size = ops.size → listed'.size = ops.size → (∀ i d, listed'.getD (kap κ i) d = listed.getD i d) →
    wpAny P .any ops' Q fuel listed' a w → wpAny P .any ops Q fuel listed a w := by
  intro fuel
  have rd : ∀ (listed listed' : Array Bool), (∀ i d, listed'.getD (kap κ i) d = listed.getD i d) → ∀ i, i ∈ Region.ready .any ops listed ↔ kap κ i ∈ Region.ready .any ops' listed' := fun listed listed' hl i => by
    rw [mem_ready, mem_ready, hl]
    refine and_congr_right fun _ => ⟨fun ⟨o, ho, he⟩ => ⟨_, h.get i o ho, fun e hem hb => ?_⟩, fun ⟨o', ho', he⟩ => ?_⟩
    · simp only [renOp, List.mem_toArray, List.mem_map] at hem
      obtain ⟨e0, h0, rfl⟩ := hem
      show listed'.getD (kap κ e0.on) false = true
      rw [hl]
      exact he e0 (by simpa using h0) hb
    · have hk : kap κ i < ops.size := by
        have := (Array.getElem?_eq_some_iff.1 ho').1
        rw [h.size] at this; exact this
      have hi : i < ops.size := by
        rcases Nat.lt_or_ge i ops.size with hh | hh
        · exact hh
        · rw [h.ge i hh] at hk; exact hk
      have ho := Array.getElem?_eq_getElem hi
      rw [h.get i _ ho] at ho'
      cases ho'
      refine ⟨_, ho, fun e hem hb => ?_⟩
      rw [← hl]
      exact he { e with on := kap κ e.on } (by simp only [renOp, List.mem_toArray, List.mem_map]; exact ⟨e, by simpa using hem, rfl⟩) hb
  have rn : ∀ (listed listed' : Array Bool), (∀ i d, listed'.getD (kap κ i) d = listed.getD i d) → Region.ready .any ops listed = [] → Region.ready .any ops' listed' = [] := fun listed listed' hl hr => by
    rw [List.eq_nil_iff_forall_not_mem]
    intro k hk
    obtain ⟨_, o', ho', _⟩ := mem_ready.1 hk
    have hlt := (Array.getElem?_eq_some_iff.1 ho').1
    rw [h.size] at hlt
    obtain ⟨i, hi, rfl⟩ := h.sur k hlt
    have := (rd listed listed' hl i).2 hk
    rw [hr] at this; cases this
  induction fuel with
  | zero =>
    intro listed listed' a w hs hs' hl ⟨h1, h2⟩
    refine ⟨?_, h2⟩
    rw [List.eq_nil_iff_forall_not_mem]
    intro i hi
    have := (rd listed listed' hl i).1 hi
    rw [h1] at this; cases this
  | succ fuel ih =>
    intro listed listed' a w hs hs' hl ⟨h1, h2⟩
    refine ⟨fun hr => h1 (rn _ _ hl hr), fun i hi => ?_⟩
    have key := h2 (kap κ i) ((rd listed listed' hl i).1 hi)
    obtain ⟨_, o, ho, _⟩ := mem_ready.1 hi
    have hil := (Array.getElem?_eq_some_iff.1 ho).1
    unfold wpOp at key ⊢
    rw [h.get i o ho] at key
    rw [ho]
    simp only [h.wanted] at key ⊢
    have hK : ∀ a w, wpAny P .any ops' Q fuel (listed'.setIfInBounds (kap κ i) true) a w → wpAny P .any ops Q fuel (listed.setIfInBounds i true) a w := fun a w hh => by
      refine ih _ _ a w (by simpa using hs) (by simpa using hs') (fun j d => ?_) hh
      by_cases e : j = i
      · subst e
        simp [hs, hs', hil, h.lt j hil]
      · have e' : kap κ j ≠ kap κ i := fun e' => e (h.inj _ _ e')
        have := hl j d
        simp only [Array.getD_eq_getD_getElem?] at this ⊢
        rw [Array.getElem?_setIfInBounds_ne (Ne.symm e'), Array.getElem?_setIfInBounds_ne (Ne.symm e)]
        exact this
    split
    · rename_i hw
      rw [if_pos hw] at key
      rcases key with key | key
      · exact .inl (Oper.wp_mono hK (show o.wp P a w _ Q from key))
      · exact .inr key
    · rename_i hw
      rw [if_neg hw] at key
      exact hK _ _ key

theorem permH_of {κ τ : List Nat} {ops : List Oper} (h : permOK κ τ ops.length = true) : PermH κ ops.toArray (permL κ ops τ).toArray := by
  simp only [permOK, Bool.and_eq_true, List.all_eq_true, List.mem_range] at h
  obtain ⟨h1, h2, h3⟩ := h
  have h1 := Nat.eq_of_beq_eq_true h1
  have h2 := Nat.eq_of_beq_eq_true h2
  have g1 : ∀ i, i < ops.length → kap τ (kap κ i) = i := fun i hi => Nat.eq_of_beq_eq_true (h3 i hi).1
  have g2 : ∀ i, i < ops.length → kap κ (kap τ i) = i := fun i hi => Nat.eq_of_beq_eq_true (h3 i hi).2.1
  have g3 : ∀ i, i < ops.length → kap κ i < ops.length := fun i hi => by have := (h3 i hi).2.2.1; simp [Nat.blt] at this; omega
  have g4 : ∀ i, i < ops.length → kap τ i < ops.length := fun i hi => by have := (h3 i hi).2.2.2; simp [Nat.blt] at this; omega
  have g5 : ∀ i, ops.length ≤ i → kap κ i = i := fun i hi => by
    simp only [kap]; rw [List.getElem?_eq_none (by omega)]
  refine ⟨by simp [permL, h2], fun i hi => by simpa using g3 i (by simpa using hi), fun i hi => g5 i (by simpa using hi), fun i j hij => ?_, fun k hk => ⟨kap τ k, by simpa using g4 k (by simpa using hk), g2 k (by simpa using hk)⟩, fun i o ho => ?_⟩
  · rcases Nat.lt_or_ge i ops.length with hi | hi <;> rcases Nat.lt_or_ge j ops.length with hj | hj
    · have := congrArg (kap τ) hij
      rw [g1 i hi, g1 j hj] at this; exact this
    · rw [g5 j hj] at hij; have := g3 i hi; omega
    · rw [g5 i hi] at hij; have := g3 j hj; omega
    · rw [g5 i hi, g5 j hj] at hij; exact hij
  · have ho : ops[i]? = some o := by simpa using ho
    have hi := (List.getElem?_eq_some_iff.1 ho).1
    have hk := g3 i hi
    have hτ : τ[kap κ i]? = some i := by
      have := g1 i hi
      simp only [kap] at this hk ⊢
      rw [List.getElem?_eq_getElem (by omega)] at this ⊢
      simpa using this
    simp only [permL, List.getElem?_toArray, List.getElem?_map, hτ, Option.map_some]
    simp [List.getD, ho]

theorem draw_soundP {l : List Oper} {ops : List Oper} {κ τ : List Nat} (hpm : permOK κ τ ops.length = true) (hl : permL κ ops τ = l) (hm : P.follows .mixedOrders = true) (hed : edgesB 0 l = true) (hdst : nodupB (dstsOf l) = true) {id : Nat}
    (hF : Facts P n n0 l.toArray nx l.length (fun i => stripK (dstsOf l) l i env) hp (fun R => Wc P n n0 K (.st s (bnd (fun _ => true) 0 R (strip (dstsOf l) env)) (hpB (fun _ => true) nx 0 R hp) (nxB (fun _ => true) 0 R (Nat.add nx l.length)))) l [] []) :
    Wc P n n0 K (.st (.code (.region id ops.toArray true) :: s) env hp nx) := by
  subst hl
  have hsz : (permL κ ops τ).length = ops.length := by have := (permH_of hpm).size; simpa using this
  show W P n n0 (.region id ops.toArray true) (kOf P n n0 s K) env hp nx
  intro C ρ w a hs
  refine wp_region_any hm ?_
  refine wpAny_perm (permH_of hpm) _ _ (Array.replicate (permL κ ops τ).length false) _ _ (by simp) (by simp [hsz]) (fun i d => ?_) ?_
  · have : ∀ j d, (Array.replicate ops.length false).getD j d = if j < ops.length then false else d := fun j d => by
      simp only [Array.getD_eq_getD_getElem?, Array.getElem?_replicate]; split <;> rfl
    rw [show ops.toArray.size = ops.length from by simp, hsz, this, this]
    have hp := permH_of hpm
    rcases Nat.lt_or_ge i ops.length with hi | hi
    · rw [if_pos hi, if_pos (by simpa using hp.lt i (by simpa using hi))]
    · rw [if_neg (show ¬ kap κ i < ops.length by rw [hp.ge i (by simpa using hi)]; omega), if_neg (by omega)]
  · rw [show ops.toArray.size = (permL κ ops τ).toArray.size from by simp [hsz]]
    have := draw_any (s := s) (K := K) hed hdst hF (fun R h => h) C ρ w a hs
    simpa using this
/-- A region whose order is open, its operations listed another way. -/
theorem c_dgoP {T : FTab} (hT : FTabOk P T) (hm : P.follows .mixedOrders = true) (κ τ : List Nat) {id : Nat} {ops : Array Oper} {ol l : List Oper} (hl : ops.toList = ol) (hpm : permOK κ τ ol.length = true) (hp2 : permL κ ol τ = l) (hed : edgesB 0 l = true) (hdst : nodupB (dstsOf l) = true)
    {l' : List Oper} {ms' : List Nat} {acc' : List Rec} (h : runF T n l.toArray nx l.length (fun i => stripK (dstsOf l) l i env) hp l [] [] = .mk l' ms' acc')
    (hF : Facts P n n0 l.toArray nx l.length (fun i => stripK (dstsOf l) l i env) hp (fun R => Wc P n n0 K (.st s (bnd (fun _ => true) 0 R (strip (dstsOf l) env)) (hpB (fun _ => true) nx 0 R hp) (nxB (fun _ => true) 0 R (Nat.add nx l.length)))) l' ms' acc') :
    Wc P n n0 K (.st (.code (.region id ops true) :: s) env hp nx) := by
  subst hl
  have := draw_soundP (id := id) (s := s) (K := K) hpm hp2 hm hed hdst (f_go hT h hF)
  simpa using this
end
end Go.Av
namespace Go.Av
open Go

theorem cell_freeze (w : World) (b n : Nat) (a : Addr) : (w.freeze { block := b, off := n } 1).cell? a = w.cell? a := by
  unfold World.freeze
  rw [if_neg (by decide)]
  simp only [World.cell?, Array.getElem?_modify]
  by_cases h : b = a.block
  · subst h
    simp only [if_true]
    cases hh : w.heap[a.block]? with
    | none => rfl
    | some o =>
      simp only [Option.map_some]
      cases o <;> rfl
  · rw [if_neg h]
theorem shape_freeze (w : World) (b n r : Nat) : (w.freeze { block := b, off := n } 1).shape? r = w.shape? r := by
  unfold World.freeze
  rw [if_neg (by decide)]
  simp only [World.shape?, Array.getElem?_modify]
  by_cases h : b = r
  · subst h
    simp only [if_true]
    cases hh : w.heap[b]? with
    | none => rfl
    | some o =>
      simp only [Option.map_some]
      cases o <;> rfl
  · rw [if_neg h]
theorem heap_freeze (w : World) (b n r : Nat) (h : r ≠ b) : (w.freeze { block := b, off := n } 1).heap[r]? = w.heap[r]? := by
  unfold World.freeze
  rw [if_neg (by decide)]
  simp only [Array.getElem?_modify]
  rw [if_neg (fun e => h e.symm)]
theorem size_freeze (w : World) (b n : Nat) : (w.freeze { block := b, off := n } 1).heap.size = w.heap.size := by
  unfold World.freeze
  rw [if_neg (by decide)]
  simp

theorem ReadsAt.same {w w' : World} {X : Nat → Prop} {a vs} (hc : ∀ a, w'.cell? a = w.cell? a) (h : ReadsAt w X a vs) : ReadsAt w' X a vs :=
  ⟨h.1, fun j v hv => by rw [hc]; exact h.2.1 j v hv, h.2.2.1, h.2.2.2⟩
mutual
theorem VR.same {w w' : World} {X : Nat → Prop} {ρ : Rho} (hc : ∀ a, w'.cell? a = w.cell? a) (hs : ∀ b, w'.shape? b = w.shape? b) : ∀ (a : AV) (v : Value), VR w X ρ a v → VR w' X ρ a v
  | .bool b, v => by simp only [VR]; exact id
  | .sb b, v => by simp only [VR]; exact id
  | .int k n, v => by simp only [VR]; exact id
  | .str s, v => by simp only [VR]; exact id
  | .nilp, v => by simp only [VR]; exact id
  | .ptr id sz idx sub, v => by simp only [VR]; exact _root_.id
  | .eptr id sz idx sub, v => by simp only [VR]; exact _root_.id
  | .fp cs, v => by
    simp only [VR]; rintro ⟨a, vs, rfl, h1, h2⟩
    exact ⟨a, vs, rfl, VRs.same hc hs cs vs h1, h2.same hc⟩
  | .nilsl, v => by simp only [VR]; exact id
  | .sl sz l, v => by
    simp only [VR]; rintro ⟨a, n, c, evs, rfl, hn, hcc, h1, h2, h3⟩
    refine ⟨a, n, c, evs, rfl, hn, hcc, VRs.same hc hs l evs h1, h2, ?_⟩
    cases a with
    | none => exact h3
    | some a => exact fun hne => (h3 hne).same hc
  | .ref sz id off len, v => by
    simp only [VR]; rintro ⟨p, a, c, h1, h2, h3, h9, h4⟩
    refine ⟨p, a, c, h1, h2, h3, h9, fun hc' => ?_⟩
    obtain ⟨b, base, h5, h6, T, n, h7, h8⟩ := h4 hc'
    exact ⟨b, base, h5, h6, T, n, by rw [hs]; exact h7, h8⟩
  | .refc sz id off len cap, v => by
    simp only [VR]; rintro ⟨p, a, h1, h2, h3, h9, h4⟩
    refine ⟨p, a, h1, h2, h3, h9, fun hc' => ?_⟩
    obtain ⟨b, base, h5, h6, T, n, h7, h8⟩ := h4 hc'
    exact ⟨b, base, h5, h6, T, n, by rw [hs]; exact h7, h8⟩
  | .nilmap, v => by simp only [VR]; exact id
  | .map i, v => by simp only [VR]; exact id
  | .func f first captured, v => by
    simp only [VR]; rintro ⟨fs, cs, rfl, h1, h2⟩
    exact ⟨fs, cs, rfl, VRs.same hc hs _ _ h1, VRs.same hc hs _ _ h2⟩
  | .nilfunc, v => by simp only [VR]; exact id
  | .iface t x, v => by simp only [VR]; rintro ⟨u, rfl, h⟩; exact ⟨u, rfl, VR.same hc hs x u h⟩
  | .niliface, v => by simp only [VR]; exact id
  | .agg cs, v => by simp only [VR]; rintro ⟨vs, rfl, h, h1⟩; exact ⟨vs, rfl, VRs.same hc hs _ _ h, h1⟩
  | .tuple cs, v => by simp only [VR]; rintro ⟨vs, rfl, h⟩; exact ⟨vs, rfl, VRs.same hc hs _ _ h⟩
  | .junk, v => by simp only [VR]; exact id
theorem VRs.same {w w' : World} {X : Nat → Prop} {ρ : Rho} (hc : ∀ a, w'.cell? a = w.cell? a) (hs : ∀ b, w'.shape? b = w.shape? b) : ∀ (a : List AV) (v : List Value), VRs w X ρ a v → VRs w' X ρ a v
  | [], v => by simp only [VRs]; exact id
  | a :: l, v => by
    simp only [VRs]; rintro ⟨x, r, rfl, h1, h2⟩
    exact ⟨x, r, rfl, VR.same hc hs a x h1, VRs.same hc hs l r h2⟩
end

section
variable {P : Program} {n n0 : Nat} {env : Env} {hp : Hp} {nx : Nat} {K : Kont} {s : List Fr}

/-- []byte("..") of a text: the row's bytes, that nobody writes. -/
theorem op_convs {o : Oper} {t e id len} {els : List AV} {i j : TI} {x : Operand} (ho : o.op = .convert t t x) (hT : TOk P t i) (hd : i.desc = .slice e) (hj : TOk P e j) (hje : j.desc = .int .u8) (hsz : Nat.beq j.size 1 = true)
    (hx : evO env x = some (.ref 1 id 0 len)) (hb : getB hp id = some (.arr 1 els)) (hl : els.length = len) (hpos : 0 < len) (hcl : AV.nids els = true) :
    OpE P n n0 o env hp nx (fun av hp' nx' => av = .sl 1 els ∧ hp' = (id, .dead) :: hp ∧ nx' = nx) := by
  intro C ρ w a hs Kr Q hk
  cases x with
  | tmp t0 =>
    have hx : get env t0 = some (.ref 1 id 0 len) := hx
    have hfz := hs.freeze (new := [(t0, .sl 1 els)]) hb hcl ⟨⟨_, hx, snap_ref (els := els) (by rw [getB_cons, if_pos rfl]; rfl) (by omega) (by rw [List.drop_zero, List.take_of_length_le (by omega)])⟩, trivial⟩
    obtain ⟨v, hv, hvr⟩ := hfz.env t0 (.sl 1 els) (by simp [Av.get])
    obtain ⟨v', hv', hvr'⟩ := hs.env t0 _ hx
    rw [hv] at hv'; cases hv'
    simp only [VR] at hvr'
    obtain ⟨p, ad, cap, q1, rfl, q2, q3, q4⟩ := hvr'
    obtain ⟨b, base, rfl, rfl, T, nn, u1, u2⟩ := q4 (by omega)
    have hev : a.eval (.tmp t0) = .slice (some ⟨b, base + 0 * 1, none⟩) len cap := by simp [Act.eval, hv]
    unfold Oper.wp
    have hrun : (execOp a.eval o).run P w = .ok (.value (.slice (some ⟨b, base + 0 * 1, none⟩) len cap)) (w.freeze { block := b, off := nn } 1) := by
      have hshape : (Go.shape b).run P w = .ok (some (T, nn)) w := by
        show Result.ok (w.shape? b) w = _
        rw [u1]
      simp only [execOp, ho, hev, convert, Sem.run_bind, hT.run_und, Result.andThen_ok, hd, hj.run_und, hje, BEq.rfl, markStringish]
      simp [hshape]
    rw [hrun]
    simp only [Oper.upon]
    have hc := cell_freeze w b nn
    have hsh := shape_freeze w b nn
    have hlt : b < w.heap.size := shape_lt u1
    have hlive : ∀ i' b', getB ((id, .dead) :: hp) i' = some b' → i' ≠ id ∧ getB hp i' = some b' := fun i' b' h => by
      rw [getB_cons] at h
      split at h
      · simp [live] at h
      · rename_i h1; exact ⟨Ne.symm h1, h⟩
    have hnb : ∀ i' b' r base', getB ((id, .dead) :: hp) i' = some b' → ρ i' = some (some (r, base')) → r ≠ b := fun i' b' r base' h1 h2 e => by
      subst e
      obtain ⟨k1, k2⟩ := hlive i' b' h1
      exact k1 (hs.inj _ _ _ _ _ _ _ k2 hb h2 q1)
    have hown := hs.own id _ b base hb q1
    have hvm : ∀ (av : AV) (v : Value), VR w (XX C.ex ((id, .dead) :: hp) ρ) ρ av v → VR (w.freeze { block := b, off := nn } 1) (XX C.ex ((id, .dead) :: hp) ρ) ρ av v := VR.same hc hsh
    have hvms : ∀ (av : List AV) (v : List Value), VRs w (XX C.ex ((id, .dead) :: hp) ρ) ρ av v → VRs (w.freeze { block := b, off := nn } 1) (XX C.ex ((id, .dead) :: hp) ρ) ρ av v := VRs.same hc hsh
    have hless : ∀ (av : AV) (v : Value), VR w (XX C.ex hp ρ) ρ av v → VR w (XX C.ex ((id, .dead) :: hp) ρ) ρ av v := fun av v h => VR.mono (Pres.refl (fun _ => False) w) (fun _ _ h => h.elim) (fun r _ h => by
      rcases h with h | ⟨i', b', base', k1, k2⟩
      · exact .inl h
      · exact .inr ⟨i', b', base', (hlive i' b' k1).2, k2⟩) (fun _ _ h => h) _ _ h
    have hpr : Pres C.O0 C.w0 (w.freeze { block := b, off := nn } 1) := by
      have hp0 := hs.pres
      refine ⟨by unfold World.freeze; rw [if_neg (by decide)]; exact hp0.os, by unfold World.freeze; rw [if_neg (by decide)]; exact hp0.tape, by unfold World.freeze; rw [if_neg (by decide)]; exact hp0.output, by rw [size_freeze]; exact hp0.size, fun r hr hO => ?_, fun r hr => ?_⟩
      · rw [heap_freeze]
        · exact hp0.block r hr hO
        · intro e; subst e
          rcases hown.1 with h | h
          · exact hO h
          · omega
      · rw [hsh]; exact hp0.shape r hr
    have hrel : HRel C n0 ((id, .dead) :: hp) nx ρ (w.freeze { block := b, off := nn } 1) := by
      have h0 := hfz.toHRel
      refine ⟨fun i' b' h => ?_, h0.inj, fun i' b' r base' h1 h2 => ?_, fun r hr => by rw [size_freeze]; exact h0.exo r hr, h0.fresh, hpr, h0.base, h0.le⟩
      · obtain ⟨p', g1, g2⟩ := h0.blk i' b' h
        refine ⟨p', g1, ?_⟩
        cases b' with
        | dead => cases p' <;> simp only [BR] at g2
        | siter s ps =>
          cases p' with
          | none => simp only [BR] at g2
          | some p' =>
            obtain ⟨r, base'⟩ := p'
            simp only [BR] at g2 ⊢
            rw [heap_freeze _ _ _ _ (hnb i' _ r base' h g1)]; exact g2
        | arr sz' els' =>
          cases p' with
          | none => simp only [BR] at g2 ⊢; exact g2
          | some p' =>
            obtain ⟨r, base'⟩ := p'
            simp only [BR] at g2 ⊢
            obtain ⟨c, T', fz, evs, k1, k2, k3, k4⟩ := g2
            exact ⟨c, T', fz, evs, by rw [heap_freeze _ _ _ _ (hnb i' _ r base' h g1)]; exact k1, k2, hvms _ _ k3, k4⟩
        | mp ents =>
          cases p' with
          | none => simp only [BR] at g2
          | some p' =>
            obtain ⟨r, base'⟩ := p'
            simp only [BR] at g2 ⊢
            obtain ⟨es, clock, k1, k2, k3⟩ := g2
            exact ⟨es, clock, by rw [heap_freeze _ _ _ _ (hnb i' _ r base' h g1)]; exact k1, hvms _ _ k2, hvms _ _ k3⟩
      · obtain ⟨k1, k2, k3⟩ := h0.own i' b' r base' h1 h2
        exact ⟨k1, k2, by rw [size_freeze]; exact k3⟩
    exact hk _ _ ρ _ _ _ ⟨rfl, rfl, rfl⟩ { hrel with env := fun t' av' h' => (hs.env t' av' h').imp fun u hu => ⟨hu.1, hvm _ _ (hless _ _ hu.2)⟩, size := hs.size, defers := hs.defers } (hvm _ _ hvr) (fun y u hu => hvm _ _ (hless _ _ hu))
  | const v =>
    exfalso
    simp only [evO] at hx
    unfold cav at hx
    split at hx <;> try (cases hx; done)
    · split at hx
      · simp at hx
      · cases hx
    · simp at hx
  | func f => cases hx
  | global g => cases hx
end
end Go.Av
namespace Go.Av
open Go Go.ChangeShapes

/- HOW MUCH IS READ. -/
mutual
def blk {H : Type} : DataW H → Nat
  | .lit (.string bytes) => bytes.length + 1
  | .lit _ => 1
  | .nil => 1
  | .ptr d => blk d + 1
  | .slice elems spare => blks elems + blks spare + 1
  | .agg parts => blks parts + 1
  | .iface _ d => blk d + 1
  | .map entries => blkEs entries + 1
  | .held _ => 1
def blks {H : Type} : List (DataW H) → Nat
  | [] => 0
  | d :: r => blk d + blks r
def blkEs {H : Type} : List (Lit × DataW H) → Nat
  | [] => 0
  | x :: r => blkE x + blkEs r
def blkE {H : Type} : Lit × DataW H → Nat
  | (.string bytes, d) => bytes.length + blk d + 1
  | (_, d) => blk d + 1
end

/-- A reader: what a value of a type is, read out. -/
structure Rd (P : Program) (t : TypeId) (α : Type) where
  n : Nat
  agg : Bool
  av : α → List AV
  mu : α → Nat
  hn : P.cellsOf t = n
  hone : agg = false → n = 1
  len : ∀ a, (av a).length = n
  sound : ∀ {H : Type} {enc : TypeId × Value → H} {W : World} {fuel : Nat} {cs : List Value} {x : DataW H × List MemPlace}, DataW.trod enc P W 0 (fun _ => true) true fuel t cs = some x →
    ∃ a : α, VRs W (fun _ => False) (fun _ => none) (av a) cs ∧ (∀ v ∈ cs, v.oneCell' = true) ∧ mu a ≤ blk x.1

def Rd.one {P t α} (r : Rd P t α) (a : α) : AV := match r.agg with | true => .agg (r.av a) | false => (r.av a).headD .junk

section
variable {P : Program} {t e : TypeId} {α β : Type}

theorem ones_nil {l : List Value} (h : l = []) : ∀ v ∈ l, v.oneCell' = true := fun v hv => by subst h; cases hv
def rdBool (ht : P.underlying t = some .bool) (hc : P.cellsOf t = 1) : Rd P t Bool where
  n := 1
  agg := false
  av := fun b => [.sb b]
  mu := fun _ => 1
  hn := hc
  hone := fun _ => rfl
  len := fun _ => rfl
  sound := fun h => by
    obtain ⟨b, rfl, rfl⟩ := DataW.trod_bool ht h
    exact ⟨b, by simp [VRs, VR], fun v hv => by simp at hv; subst hv; rfl, by simp [blk]⟩
def rdInt {k : IntKind} (ht : P.underlying t = some (.int k)) (hc : P.cellsOf t = 1) : Rd P t { n : Int // (Lit.int k n).wf = true } where
  n := 1
  agg := false
  av := fun b => [.int k b.1]
  mu := fun _ => 1
  hn := hc
  hone := fun _ => rfl
  len := fun _ => rfl
  sound := fun h => by
    obtain ⟨b, rfl, rfl, hw⟩ := DataW.trod_int ht h
    exact ⟨⟨b, hw⟩, by simp [VRs, VR], fun v hv => by simp at hv; subst hv; rfl, by simp [blk]⟩
def rdStr (ht : P.underlying t = some .string) (hc : P.cellsOf t = 1) : Rd P t (List UInt8) where
  n := 1
  agg := false
  av := fun b => [.str b]
  mu := fun b => b.length + 1
  hn := hc
  hone := fun _ => rfl
  len := fun _ => rfl
  sound := fun h => by
    obtain ⟨b, rfl, rfl, hw⟩ := DataW.trod_string ht h
    exact ⟨b.data.toList, by simp [VRs, VR], fun v hv => by simp at hv; subst hv; rfl, by simp [blk]⟩
def Rd.map (r : Rd P t α) (f : α → β) (g : β → List AV) (m : β → Nat) (hg : ∀ a, g (f a) = r.av a) (hl : ∀ b, (g b).length = r.n) (hm : ∀ a, m (f a) ≤ r.mu a) : Rd P t β where
  n := r.n
  agg := r.agg
  av := g
  mu := m
  hn := r.hn
  hone := r.hone
  len := hl
  sound := fun h => by
    obtain ⟨a, h1, h2, h3⟩ := r.sound h
    exact ⟨f a, by rw [hg]; exact h1, h2, Nat.le_trans (hm a) h3⟩

/-- A struct's fields. -/
structure RdF (P : Program) (fs : List Field) (o : Nat) (α : Type) where
  n : Nat
  av : α → List AV
  mu : α → Nat
  len : ∀ a, (av a).length = n
  sound : ∀ {H : Type} {enc : TypeId × Value → H} {W : World} {k : Nat} {cs : List Value} {xs : List (DataW H × List MemPlace)}, xs.length = fs.length →
    (∀ (i : Nat) (f : Field), fs[i]? = some f → DataW.trod enc P W 0 (fun _ => true) true k f.type ((cs.drop f.offset).take (P.cellsOf f.type)) = xs[i]?) → cs.length = o + n →
    ∃ a : α, VRs W (fun _ => False) (fun _ => none) (av a) (cs.drop o) ∧ (∀ v ∈ cs.drop o, v.oneCell' = true) ∧ mu a ≤ blks (xs.map (·.1))
def RdF.nil {o : Nat} : RdF P [] o Unit where
  n := 0
  av := fun _ => []
  mu := fun _ => 0
  len := fun _ => rfl
  sound := fun _ _ hl => ⟨(), by simp only [VRs]; exact List.drop_of_length_le (by omega), ones_nil (List.drop_of_length_le (by omega)), Nat.zero_le _⟩
def RdF.cons {f : Field} {fs : List Field} {o : Nat} (r : Rd P f.type α) (ho : f.offset = o) {o' : Nat} (s : RdF P fs o' β) (ho' : o + r.n = o') : RdF P (f :: fs) o (α × β) where
  n := r.n + s.n
  av := fun p => r.av p.1 ++ s.av p.2
  mu := fun p => r.mu p.1 + s.mu p.2
  len := fun p => by rw [List.length_append, r.len, s.len]
  sound := fun {H enc W k cs xs} hl hx hc => by
    cases xs with
    | nil => simp at hl
    | cons x xs =>
      have h0 := hx 0 f rfl
      simp only [List.getElem?_cons_zero] at h0
      obtain ⟨a, h1, h2, h3⟩ := r.sound h0
      obtain ⟨b, g1, g2, g3⟩ := s.sound (xs := xs) (by simpa using hl) (fun i g hg => by simpa using hx (i + 1) g (by simpa using hg)) (by omega)
      rw [ho, r.hn] at h1 h2
      have e : cs.drop o = (cs.drop o).take r.n ++ cs.drop o' := by
        rw [← ho', ← List.drop_drop, List.take_append_drop]
      refine ⟨(a, b), by rw [e]; exact h1.append g1, fun v hv => ?_, by simp only [List.map_cons, blks]; omega⟩
      rw [e] at hv
      rcases List.mem_append.1 hv with hv | hv
      · exact h2 v hv
      · exact g2 v hv
def rdStruct {fs : Array Field} (ht : P.underlying t = some (.struct fs)) (r : RdF P fs.toList 0 α) (hc : P.cellsOf t = r.n) : Rd P t α where
  n := r.n
  agg := true
  av := r.av
  mu := r.mu
  hn := hc
  hone := fun h => by cases h
  len := r.len
  sound := fun h => by
    obtain ⟨xs, k, rfl, rfl, hl, hx, hf⟩ := DataW.trod_struct ht h
    obtain ⟨a, h1, h2, h3⟩ := r.sound (by simpa using hx) (fun i f hi => hf i f (by simpa using hi)) (by rw [hl, hc]; omega)
    exact ⟨a, by simpa using h1, by simpa using h2, by simp only [blk]; omega⟩

/-- One element of a row, as a value. -/
theorem Rd.elem (r : Rd P e α) {W : World} {a : α} {cs : List Value} (h : VRs W (fun _ => False) (fun _ => none) (r.av a) cs) (h1 : ∀ v ∈ cs, v.oneCell' = true) :
    ∃ ev : Value, VR W (fun _ => False) (fun _ => none) (r.one a) ev ∧ ev.cells.toList = cs := by
  have hl := h.length
  rw [r.len] at hl
  unfold Rd.one
  cases hg : r.agg with
  | true =>
    simp only
    exact ⟨.agg cs.toArray, by simp only [VR]; exact ⟨cs.toArray, rfl, by simpa using h, fun c hc => h1 c (by simpa using hc)⟩, by simp [Value.cells]⟩
  | false =>
    have hn := r.hone hg
    rw [hn] at hl
    match cs, hl with
    | [v], _ =>
      have hla := r.len a
      rw [hn] at hla
      match hr : r.av a, hla with
      | [x], _ =>
        rw [hr] at h
        simp only [VRs] at h
        obtain ⟨v', r', e', hv, hr'⟩ := h
        cases e'
        refine ⟨v, by simpa using hv, ?_⟩
        have := h1 v (by simp)
        cases v <;> simp [Value.oneCell'] at this <;> simp [Value.cells]
theorem mu_sum {H : Type} (m : α → Nat) : ∀ (l : List α) (ds : List (DataW H)), l.length = ds.length → (∀ (i : Nat) a d, l[i]? = some a → ds[i]? = some d → m a ≤ blk d) → (l.map m).sum ≤ blks ds
  | [], _, _, _ => by simp
  | a :: l, [], h, _ => by simp at h
  | a :: l, d :: ds, h, hh => by
    have := mu_sum m l ds (by simpa using h) (fun i a d ha hd => hh (i + 1) a d (by simpa using ha) (by simpa using hd))
    have := hh 0 a d rfl rfl
    simp only [List.map_cons, List.sum_cons, blks]; omega
theorem blk_pos {H : Type} (d : DataW H) : 1 ≤ blk d := by
  cases d with
  | lit l => cases l <;> simp [blk]
  | _ => simp [blk]
theorem blks_len {H : Type} : ∀ (l : List (DataW H)), l.length ≤ blks l
  | [] => by simp [blks]
  | d :: l => by have := blks_len l; have := blk_pos d; simp only [blks, List.length_cons]; omega
theorem choose_list {α : Type} {p : Nat → α → Prop} : ∀ n : Nat, (∀ i, i < n → ∃ a, p i a) → ∃ l : List α, l.length = n ∧ ∀ i a, l[i]? = some a → p i a
  | 0, _ => ⟨[], rfl, fun i a h => by simp at h⟩
  | n + 1, h => by
    obtain ⟨l, h1, h2⟩ := choose_list n fun i hi => h i (by omega)
    obtain ⟨a, ha⟩ := h n (by omega)
    refine ⟨l ++ [a], by simp [h1], fun i b hb => ?_⟩
    rcases Nat.lt_or_ge i n with hi | hi
    · rw [List.getElem?_append_left (by omega)] at hb; exact h2 i b hb
    · rw [List.getElem?_append_right (by omega)] at hb
      have : i = n := by
        have := (List.getElem?_eq_some_iff.1 hb).1
        simp at this; omega
      subst this
      rw [h1, Nat.sub_self] at hb
      simp at hb; subst hb; exact ha
theorem flat_at {evs : List Value} {sz : Nat} (h : ∀ ev ∈ evs, ev.cells.size = sz) {j : Nat} {v : Value} (hj : (flat evs)[j]? = some v) : 0 < sz ∧ ∃ ev, evs[j / sz]? = some ev ∧ ev.cells.toList[j % sz]? = some v := by
  have hlen := flat_length (sz := sz) h
  have hlt := (List.getElem?_eq_some_iff.1 hj).1
  rw [hlen] at hlt
  have hsz : 0 < sz := by
    rcases Nat.eq_zero_or_pos sz with h0 | h0
    · subst h0; simp at hlt
    · exact h0
  have hd : j / sz < evs.length := by
    rw [Nat.div_lt_iff_lt_mul hsz]; exact hlt
  refine ⟨hsz, evs[j / sz], by simp [hd], ?_⟩
  have := flat_get (sz := sz) h (List.getElem?_eq_getElem hd) (k := j % sz) (Nat.mod_lt _ hsz)
  rw [← this, ← hj]
  congr 1
  have := Nat.div_add_mod j sz
  rw [Nat.mul_comm] at this
  omega

/-- A slice, its elements read out. -/
def rdSlice (ht : P.underlying t = some (.slice e)) (hc : P.cellsOf t = 1) (r : Rd P e α) (hp : 0 < r.n) : Rd P t (List α) where
  n := 1
  agg := false
  av := fun l => [.sl r.n (l.map r.one)]
  mu := fun l => (l.map r.mu).sum + 1
  hn := hc
  hone := fun _ => rfl
  len := fun _ => rfl
  sound := fun {H enc W fuel cs x} h => by
    rcases Go.Deep.open_slice ht h with ⟨rfl, rfl⟩ | ⟨a, len, cap, m, k, D, Pl, rfl, hb, hl, hm, hmm, rfl, hx⟩
    · exact ⟨[], by simp only [VRs]; exact ⟨_, [], rfl, VR_nil_sl _ _ (by simp [VR]), rfl⟩, fun v hv => by simp at hv; subst hv; rfl, by simp [blk]⟩
    · simp only [if_true] at hmm
      subst hmm
      obtain ⟨L, hL1, hL2⟩ := choose_list (p := fun i (a' : α × Value) => VR W (fun _ => False) (fun _ => none) (r.one a'.1) a'.2 ∧ r.mu a'.1 ≤ blk (D i) ∧ a'.2.cells.size = r.n ∧ (∀ v ∈ a'.2.cells.toList, v.oneCell' = true) ∧
        ∀ j, j < r.n → W.cell? ((a.add (i * r.n)).add j) = a'.2.cells.toList[j]?) len (fun i hi => by
        obtain ⟨cs', h1, h2⟩ := hx i (by omega)
        obtain ⟨a', g1, g2, g3⟩ := r.sound h2
        obtain ⟨ev, k1, k2⟩ := r.elem g1 g2
        obtain ⟨_, q1, q2⟩ := World.cells?_some h1
        rw [r.hn] at q1 q2
        exact ⟨(a', ev), k1, g3, by show ev.cells.size = r.n; have := congrArg List.length k2; simp at this; omega, fun v hv => g2 v (by rw [← k2]; exact hv), fun j hj => by rw [k2]; exact q2 j hj⟩)
      have hev : ∀ ev ∈ L.map (·.2), ev.cells.size = r.n := fun ev he => by
        obtain ⟨p, hp, rfl⟩ := List.mem_map.1 he
        obtain ⟨i, hi⟩ := List.getElem?_of_mem hp
        exact (hL2 i p hi).2.2.1
      refine ⟨L.map (·.1), ?_, fun v hv => by simp at hv; subst hv; rfl, ?_⟩
      · simp only [VRs]
        refine ⟨_, [], rfl, ?_, rfl⟩
        simp only [VR]
        refine ⟨some a, len, _, L.map (·.2), rfl, by simp [hL1], hl, VRs.mk (by simp) (fun i y v hy hv => ?_), hev, fun hne => ?_⟩
        · simp only [List.getElem?_map, Option.map_eq_some_iff] at hy hv
          obtain ⟨y', ⟨p, hp, rfl⟩, rfl⟩ := hy
          obtain ⟨q, hq, rfl⟩ := hv
          rw [hp] at hq; cases hq
          exact (hL2 i p hp).1
        · have hlen : 0 < len := by
            rcases Nat.eq_zero_or_pos len with h0 | h0
            · rw [h0] at hL1; rw [List.length_eq_zero_iff] at hL1; rw [hL1] at hne; simp at hne
            · exact h0
          have hspot : a.spot = none := by
            obtain ⟨p, hp'⟩ : ∃ p, L[0]? = some p := ⟨L[0], by simp [hL1, hlen]⟩
            obtain ⟨_, _, k3, _, k5⟩ := hL2 0 p hp'
            have := k5 0 hp
            have hz : p.2.cells.toList[0]? ≠ none := by
              have hs0 : 0 < p.2.cells.toList.length := by rw [Array.length_toList, k3]; exact hp
              rw [List.getElem?_eq_getElem hs0]; simp
            rw [← this] at hz
            have e0 : (a.add (0 * r.n)).add 0 = a := by simp [Addr.add]
            rw [e0] at hz
            unfold World.cell? at hz
            cases hs : a.spot with
            | none => rfl
            | some _ =>
              exfalso; apply hz
              split
              · simp [hs]
              · rfl
          obtain ⟨ab, ao, as⟩ := a
          simp only at hspot; subst hspot
          refine ⟨rfl, fun j v hv => ?_, fun _ h => h, fun v hv => ?_⟩
          · obtain ⟨hsz, ev, g1, g2⟩ := flat_at hev hv
            simp only [List.getElem?_map, Option.map_eq_some_iff] at g1
            obtain ⟨p, hp', rfl⟩ := g1
            obtain ⟨_, _, k3, _, k5⟩ := hL2 _ p hp'
            have := k5 (j % r.n) (Nat.mod_lt _ hsz)
            rw [Addr_add, Addr_add, g2] at this
            have e1 := Nat.div_add_mod j r.n
            rw [Nat.mul_comm] at e1
            rw [show ao + j / r.n * r.n + j % r.n = ao + j from by omega] at this
            exact this
          · simp only [flat, List.mem_flatMap] at hv
            obtain ⟨ev, he, hv⟩ := hv
            obtain ⟨p, hp', rfl⟩ := List.mem_map.1 he
            obtain ⟨i, hi⟩ := List.getElem?_of_mem hp'
            exact (hL2 i p hi).2.2.2.1 v hv
      · have := mu_sum r.mu (L.map (·.1)) ((List.range len).map D) (by simp [hL1]) (fun i a' d ha hd => by
          simp only [List.getElem?_map, Option.map_eq_some_iff] at ha hd
          obtain ⟨p, hp', rfl⟩ := ha
          obtain ⟨q, hq, rfl⟩ := hd
          have hlt := (List.getElem?_eq_some_iff.1 hp').1
          rw [List.getElem?_range (by omega)] at hq
          cases hq
          exact (hL2 i p hp').2.1)
        simp only [blk]; omega

/-- A byte. -/
def rdByte (ht : P.underlying t = some (.int .u8)) (hc : P.cellsOf t = 1) : Rd P t UInt8 :=
  (rdInt ht hc).map (fun n => UInt8.ofNat n.1.toNat) (fun b => [.int .u8 b.toNat]) (fun _ => 1) (fun a => by
    obtain ⟨n, hn⟩ := a
    simp [Lit.wf, IntKind.has, IntKind.min, IntKind.max, IntKind.signed, IntKind.bits] at hn
    show [AV.int .u8 ((UInt8.ofNat n.toNat).toNat : Int)] = [.int .u8 n]
    congr 2
    simp
    omega) (fun _ => rfl) (fun _ => Nat.le_refl _)
end

/- THE ROW. -/
theorem pres_kept {W W' : World} (h : Pres (fun _ => False) W W') (may : MemPlace → Prop) : W.keptBut W' may := by
  refine ⟨h.os, h.output, fun i hi => ?_⟩
  rw [h.block i hi (fun h => h)]
  cases W.heap[i]? with
  | none => rfl
  | some o =>
    cases o with
    | cells c t fr => exact ⟨rfl, rfl, rfl, fun _ _ => rfl⟩
    | map es clock => exact .inr ⟨rfl, rfl⟩
    | _ => rfl
theorem pres_same {W W' : World} (h : Pres (fun _ => False) W W') {p : MemPlace} (hp : p.block < W.heap.size) : W.sameAt W' p := by
  cases p with
  | cell b off => exact cell_of_block (h.block b hp (fun h => h))
  | map b => exact h.block b hp (fun h => h)
theorem pres_frozen {W W' : World} (h : Pres (fun _ => False) W W') {a : Addr} (hp : a.block < W.heap.size) : W'.frozen? a = W.frozen? a := by
  unfold World.frozen?
  rw [h.block _ hp (fun h => h)]

section
variable {H : Type} {enc : TypeId × Value → H} {P : Program}
theorem trodAll_pres {W W' : World} (hP : Pres (fun _ => False) W W') (hl : laidOutB P = true) {sp : Nat → Bool} : ∀ {ts : List TypeId} {vs : List Value} {ds : List (DataW H)} {ps : List MemPlace}, (∀ t ∈ ts, P.readableRec t = true ∧ t < P.types.size) →
    DataW.TrodAll enc P W 0 (fun _ => true) true ts vs ds ps → (∀ p ∈ ps, p.block < W.heap.size) → (∀ p ∈ ps, sp p.block = true) → DataW.TrodAll enc P W' 0 sp true ts vs ds ps
  | [], vs, ds, ps, _, h, _, _ => by
    obtain ⟨rfl, rfl, rfl⟩ := trodAll_nil h
    exact h
  | t :: ts, vs, ds, ps, hr, h, hb, hs => by
    obtain ⟨v, vs', d, ds', p, q, rfl, rfl, rfl, h1, h2⟩ := trodAll_cons h
    have k := hr t (by simp)
    exact ⟨p, q, Go.WideElems.Trod_stays hl k.1 k.2 h1 (fun x hx => pres_same hP (hb x (by simp [hx]))) (fun x hx => hs x (by simp [hx])),
      trodAll_pres hP hl (fun u hu => hr u (by simp [hu])) h2 (fun x hx => hb x (by simp [hx])) (fun x hx => hs x (by simp [hx])), rfl⟩
theorem post_of_pres {f : Func} {s : ChangeSpec} {W W' : World} {args : Array Value} {v : Value} {ds gs : List (DataW H)} {before : List MemPlace} (hv : s.vars = [])
    (hspec : s.fn H ds = { results := [.lit (.bool true)], args := ds }) {tb : TypeId} (hres : f.resultTypes = #[tb]) (htb : P.underlying tb = some .bool) (hvb : v = .bool true)
    (hl : laidOutB P = true) (hr : ∀ t ∈ f.params.toList, P.readableRec t = true ∧ t < P.types.size)
    (hW : DataW.Whole enc P f.params.toList s.vars false W args.toList ds gs before) (hP : Pres (fun _ => False) W W') : s.post enc P f false true false false W args v W' := by
  have hlt := hW.lt
  have hW' := hW
  obtain ⟨p, q, hA, hV, rfl, hz, hn⟩ := hW
  rw [hv] at hV
  obtain ⟨rfl, rfl⟩ := trodVars_none hV
  rw [List.append_nil] at *
  have hargs : ∀ sp : Nat → Bool, (∀ x ∈ p, sp x.block = true) → DataW.TrodAll enc P W' 0 sp true f.params.toList args.toList ds p := fun sp hs => trodAll_pres hP hl hr hA hlt hs
  subst hvb
  have hresl : (Value.bool true).resultList f.resultTypes.size = [.bool true] := by rw [hres]; rfl
  have hrt : ∀ (b : Nat) (sp : Nat → Bool) (hd : Bool), DataW.TrodAll enc P W' b sp hd f.resultTypes.toList ((Value.bool true).resultList f.resultTypes.size) [.lit (.bool true)] [] := fun b sp hd => by
    rw [hresl, hres]
    exact ⟨[], [], ⟨1, by simp [DataW.trod, htb, Value.cells]⟩, rfl, rfl⟩
  have hold : ∀ x ∈ p, (fun b => decide (b < W.heap.size)) x.block = true := fun x hx => by simpa using hlt x hx
  refine ⟨ds, [], p, [], p, [], by simpa using hW', ?_, ?_, ?_, pres_kept hP _, fun h => by cases h⟩
  · rw [List.append_nil, hspec]; exact hrt _ _ _
  · rw [List.append_nil, hspec]; exact hargs _ hold
  · rw [List.append_nil, hspec, hv]; rfl
end
end Go.Av
namespace Go.Tm
open Go

/-- Cut at every slash. -/
def splitB : List UInt8 → List (List UInt8)
  | [] => [[]]
  | c :: s => if c = 47 then [] :: splitB s else match splitB s with | x :: r => (c :: x) :: r | [] => [[c]]

theorem splitB_ne : ∀ s, splitB s ≠ []
  | [] => by simp [splitB]
  | c :: s => by
    simp only [splitB]
    split
    · simp
    · split <;> simp
theorem splitB_cons {c : UInt8} {s : List UInt8} (h : c ≠ 47) : ∃ x r, splitB s = x :: r ∧ splitB (c :: s) = (c :: x) :: r := by
  cases hs : splitB s with
  | nil => exact absurd hs (splitB_ne s)
  | cons x r => exact ⟨x, r, rfl, by simp [splitB, h, hs]⟩

theorem splitB_idx : ∀ (s : List UInt8), (Lib.indexByte s 47 = -1 ∧ s.count 47 = 0 ∧ splitB s = [s]) ∨
    ∃ k : Nat, Lib.indexByte s 47 = k ∧ k < s.length ∧ splitB s = s.take k :: splitB (s.drop (k + 1)) ∧ s.count 47 = (s.drop (k + 1)).count 47 + 1
  | [] => .inl ⟨rfl, rfl, rfl⟩
  | c :: s => by
    by_cases hc : c = 47
    · subst hc
      exact .inr ⟨0, by simp [Lib.indexByte], by simp, by simp [splitB], by simp⟩
    · rcases splitB_idx s with ⟨h1, h2, h3⟩ | ⟨k, h1, h2, h3, h4⟩
      · refine .inl ⟨by simp [Lib.indexByte, hc, h1], by rw [List.count_cons]; simp [h2, hc], ?_⟩
        simp [splitB, hc, h3]
      · refine .inr ⟨k + 1, ?_, by simpa using h2, ?_, ?_⟩
        · simp only [Lib.indexByte]
          have : ¬ (c == 47) = true := by simpa using hc
          rw [if_neg this, h1]
          have h2 : ¬ ((k : Int) == -1) = true := by simp
          rw [if_neg h2]; rfl
        · simp [splitB, hc, h3]
        · rw [List.count_cons]; simp [hc, h4]
end Go.Tm
namespace Go.Tm
open Go

def cmpS (a b : List UInt8) : Int := if Op.bytesLess a b then -1 else if a = b then 0 else 1
def cmpL : List (List UInt8) → List (List UInt8) → Int
  | [], [] => 0
  | [], _ :: _ => -1
  | _ :: _, [] => 1
  | a :: as, b :: bs => if cmpS a b ≠ 0 then cmpS a b else cmpL as bs
def cmpP (a b : List UInt8) : Int := cmpL (splitB a) (splitB b)
def lastTo (s : List UInt8) (c : UInt8) : Nat → Int
  | 0 => -1
  | k + 1 => if s.getD k 0 = c then k else lastTo s c k
def lastIdx (s : List UInt8) (c : UInt8) : Int := lastTo s c s.length
theorem splitB_len : ∀ s, (splitB s).length ≤ s.length + 1
  | [] => by simp [splitB]
  | c :: s => by
    have := splitB_len s
    simp only [splitB]
    split
    · simp; omega
    · split
      · rename_i h; rw [h] at this; simp at this ⊢; omega
      · simp

def letters : List UInt8 := [97, 98, 99, 100, 101, 102, 103, 104, 105, 106, 107, 108, 109, 110, 111, 112, 113, 114, 115, 116, 117, 118, 119, 120, 121, 122, 48, 49, 50, 51, 52, 53, 54, 55, 56, 57, 46, 45, 95]
def inS (s : List UInt8) (i : Nat) : Bool := s.any fun b => b.toNat == i
def goodName (s : List UInt8) : Bool := !(s == []) && (decide ((s.length : Int) ≤ 16) && (!(s == [46]) && (!(s == [46, 46]) && s.all fun c => inS letters c.toNat)))
/-- Cut at the right end. -/
def dropR (f : UInt8 → Bool) (s : List UInt8) : List UInt8 := (s.reverse.dropWhile f).reverse
theorem dropR_last (f : UInt8 → Bool) (s : List UInt8) (c : UInt8) : dropR f (s ++ [c]) = if f c then dropR f s else s ++ [c] := by
  unfold dropR
  rw [List.reverse_append, List.reverse_singleton, List.singleton_append, List.dropWhile_cons]
  split <;> simp
theorem dropWhile_nil {f : UInt8 → Bool} : ∀ {s : List UInt8}, s.dropWhile f = [] ↔ s.all f = true
  | [] => by simp
  | c :: s => by
    rw [List.dropWhile_cons]
    split
    · rename_i h; rw [dropWhile_nil]; simp [h]
    · rename_i h; simp [h]
theorem trim_nil (f : UInt8 → Bool) (s : List UInt8) : ((dropR f s).dropWhile f == []) = s.all f := by
  rw [Bool.eq_iff_iff, beq_iff_eq, dropWhile_nil]
  unfold dropR
  constructor
  · intro h
    -- what is kept at the right end ends in none of them
    rw [List.all_reverse] at h
    have : s.reverse.dropWhile f = [] := by
      cases hd : s.reverse.dropWhile f with
      | nil => rfl
      | cons c r =>
        rw [hd] at h
        have hc : f c = true := by simp at h; exact h.1
        have := List.head_dropWhile_not f (show s.reverse.dropWhile f ≠ [] by rw [hd]; simp)
        simp only [hd, List.head_cons] at this
        rw [hc] at this; cases this
    rw [dropWhile_nil, List.all_reverse] at this
    exact this
  · intro h
    have : s.reverse.dropWhile f = [] := by rw [dropWhile_nil, List.all_reverse]; exact h
    rw [this]; rfl
def goodP (p : List UInt8) : Bool := decide ((splitB p).length ≤ 4) && (splitB p).all goodName
/-- All names but the last; the last. -/
def upOf (p : List UInt8) : List UInt8 := p.take (lastIdx p 47).toNat
def baseOf (p : List UInt8) : List UInt8 := p.drop (lastIdx p 47 + 1).toNat
def upP (p : List UInt8) : List UInt8 × Bool := if goodP p then (upOf p, true) else ([], false)
theorem lastTo_ge (s : List UInt8) (c : UInt8) : ∀ k, -1 ≤ lastTo s c k ∧ lastTo s c k < k
  | 0 => by simp [lastTo]
  | k + 1 => by
    have := lastTo_ge s c k
    simp only [lastTo]
    split <;> omega
theorem lastIdx_ge (s : List UInt8) (c : UInt8) : -1 ≤ lastIdx s c ∧ lastIdx s c < s.length := lastTo_ge s c s.length
end Go.Tm
namespace Go.Tm
open Go Go.Av

structure Ent where
  path : List UInt8
  dir : Bool
  b : List UInt8
  deriving DecidableEq, Inhabited
def byt (l : List UInt8) : AV := .sl 1 (bys l)
def Ent.av (e : Ent) : AV := .agg [.str e.path, .sb e.dir, byt e.b]
def ents (l : List Ent) : List AV := l.map Ent.av
def cnt : List Ent → Nat
  | [] => 0
  | e :: l => e.b.length + cnt l
theorem cnt_append (a b : List Ent) : cnt (a ++ b) = cnt a + cnt b := by
  induction a with
  | nil => simp [cnt]
  | cons x a ih => simp [cnt, ih]; omega
theorem cnt_take (l : List Ent) (k : Nat) : cnt (l.take k) ≤ cnt l := by
  conv => rhs; rw [← List.take_append_drop k l, cnt_append]
  omega
theorem cnt_le {n : Nat} : ∀ {l : List Ent}, (∀ e ∈ l, e.b.length ≤ n) → cnt l ≤ l.length * n
  | [], _ => by simp [cnt]
  | e :: l, h => by
    have h1 := h e (by simp)
    have h2 := cnt_le (l := l) fun x hx => h x (by simp [hx])
    simp only [cnt, List.length_cons, Nat.add_mul, Nat.one_mul]; omega
/-- Nothing is great. -/
structure Sm (l : List Ent) : Prop where
  len : l.length ≤ 2^30
  path : ∀ e ∈ l, e.path.length ≤ 2^30
  b : ∀ e ∈ l, e.b.length ≤ 2^30
theorem Sm.cnt {l : List Ent} (h : Sm l) : cnt l ≤ 2^60 := by
  have h1 := cnt_le (n := 2^30) h.b
  have h2 : l.length * 2^30 ≤ 2^30 * 2^30 := Nat.mul_le_mul_right _ h.len
  have h3 : (2:Nat)^30 * 2^30 = 2^60 := by decide
  omega

/-- The search by halves. -/
def bs (c : Nat → Int) (i j : Nat) : Nat := if i < j then if c ((i + j) / 2) < 0 then bs c ((i + j) / 2 + 1) j else bs c i ((i + j) / 2) else i
  termination_by j - i
def cmpAt (l : List Ent) (p : List UInt8) (k : Nat) : Int := cmpP (l.getD k default).path p
def findI (l : List Ent) (p : List UInt8) : Nat := bs (cmpAt l p) 0 l.length
def findOk (l : List Ent) (p : List UInt8) : Bool := decide (findI l p < l.length) && decide (cmpAt l p (findI l p) = 0)
theorem bs_spec (c : Nat → Int) (i j : Nat) (h : i ≤ j) : i ≤ bs c i j ∧ bs c i j ≤ j := by
  unfold bs
  split
  · rename_i hlt
    split
    · have := bs_spec c ((i + j) / 2 + 1) j (by omega); omega
    · have := bs_spec c i ((i + j) / 2) (by omega); omega
  · omega
  termination_by j - i
theorem findI_le (l : List Ent) (p : List UInt8) : findI l p ≤ l.length := (bs_spec _ 0 l.length (Nat.zero_le _)).2
/-- What is ahead of the place is less; what stands there is not. -/
theorem bs_split (c : Nat → Int) (i j n : Nat) (h : i ≤ j) (hj : j ≤ n) (hl : 0 < i → c (i - 1) < 0) (hr : j < n → 0 ≤ c j) : (0 < bs c i j → c (bs c i j - 1) < 0) ∧ (bs c i j < n → 0 ≤ c (bs c i j)) := by
  unfold bs
  split
  · split
    · rename_i hlt hc
      exact bs_split c ((i + j) / 2 + 1) j n (by omega) hj (fun _ => by simpa using hc) hr
    · rename_i hlt hc
      exact bs_split c i ((i + j) / 2) n (by omega) (by omega) hl (fun _ => by omega)
  · rename_i hc
    have : i = j := by omega
    subst this
    exact ⟨hl, hr⟩
  termination_by j - i
/-- Why nothing may stand there. -/
def upE (l : List Ent) (p : List UInt8) : Int :=
  let d := if goodP p then upOf p else []
  if d = [] then 0 else if findOk l d = false then 5 else if (l.getD (findI l d) default).dir = false then 7 else 0
end Go.Tm
namespace Go.Tm
open Go Go.Av

abbrev Seen := List (List UInt8 × Bool)
def seenV (s : Seen) : List (List UInt8 × AV) := s.map fun p => (p.1, .bool p.2)
def lookB : Seen → List UInt8 → Bool
  | [], _ => false
  | p :: l, k => if k == p.1 then p.2 else lookB l k
def updB : Seen → List UInt8 → Bool → Seen
  | [], k, v => [(k, v)]
  | p :: l, k, v => if k == p.1 then (k, v) :: l else p :: updB l k v
theorem findM_seen (k : List UInt8) : ∀ (s : Seen) (i : Nat), ((findM (seenV s) k i).map (·.2)).getD (.bool false) = .bool (lookB s k)
  | [], i => rfl
  | p :: l, i => by
    simp only [seenV, List.map_cons, findM, lookB]
    split
    · rfl
    · exact findM_seen k l (i + 1)
theorem lookM_seen (s : Seen) (k : List UInt8) : (lookM (seenV s) k).getD (.bool false) = .bool (lookB s k) := findM_seen k s 0
theorem updM_seen (k : List UInt8) (v : Bool) : ∀ (s : Seen), updM (seenV s) k (.bool v) = seenV (updB s k v)
  | [] => rfl
  | p :: l => by
    simp only [seenV, List.map_cons, updM, updB]
    split
    · rfl
    · exact congrArg _ (updM_seen k v l)

/-- May the entry stand here? -/
def okE (s : Seen) (prev : Option (List UInt8)) (e : Ent) : Bool :=
  goodP e.path && (lookB s (upOf e.path) && (!(e.dir && decide (0 < e.b.length)) && (decide (e.b.length ≤ 2048) && (match prev with | none => true | some q => decide (cmpP q e.path < 0)))))
def goodFrom (s : Seen) (prev : Option (List UInt8)) : List Ent → Bool
  | [] => true
  | e :: l => okE s prev e && goodFrom (updB s e.path e.dir) (some e.path) l
def prevOf (l : List Ent) : Nat → Option (List UInt8)
  | 0 => none
  | k + 1 => (l[k]?).map (·.path)
def goodT (l : List Ent) : Bool := decide (l.length ≤ 40) && (decide (cnt l ≤ 16384) && goodFrom [([], true)] none l)
structure GI (l : List Ent) where
  k : Nat
  s : Seen
  hk : k ≤ l.length
  h : goodFrom [([], true)] none l = goodFrom s (prevOf l k) (l.drop k)
theorem le_ent (e : Ent) (d : Bool) (h : e.dir = d) : Le e.av (.agg [.str e.path, .bool d, byt e.b]) := fun w X ρ v hv => by
  subst h
  simp only [Ent.av, VR] at hv ⊢
  obtain ⟨vs, rfl, h1, h2⟩ := hv
  refine ⟨vs, rfl, ?_, h2⟩
  simp only [VRs, VR] at h1 ⊢
  exact h1
theorem GI.bad {l : List Ent} (x : GI l) (hk : x.k < l.length) (h : okE x.s (prevOf l x.k) l[x.k] = false) : goodFrom [([], true)] none l = false := by
  rw [x.h, List.drop_eq_getElem_cons hk, goodFrom, h, Bool.false_and]
def GI.next {l : List Ent} (x : GI l) (hk : x.k < l.length) (d : Bool) (hd : l[x.k].dir = d) (h : okE x.s (prevOf l x.k) l[x.k] = true) : GI l :=
  ⟨x.k + 1, updB x.s l[x.k].path d, hk, by
    rw [x.h, List.drop_eq_getElem_cons hk, goodFrom, h, Bool.true_and, hd]
    simp [prevOf, hk]⟩

theorem okE_true {s : Seen} {q : Option (List UInt8)} {e : Ent} (h1 : goodP e.path = true) (h2 : lookB s (upOf e.path) = true) (h3 : e.dir = true → e.b.length = 0) (h4 : e.b.length ≤ 2048) (h5 : ∀ x, q = some x → cmpP x e.path < 0) : okE s q e = true := by
  simp only [okE, h1, h2, Bool.true_and, decide_eq_true h4]
  have : (!(e.dir && decide (0 < e.b.length))) = true := by
    cases hd : e.dir
    · rfl
    · rw [h3 hd]; rfl
  rw [this, Bool.true_and]
  cases q with
  | none => rfl
  | some x => exact decide_eq_true (h5 x rfl)
theorem okE_f1 {s : Seen} {q : Option (List UInt8)} {e : Ent} (h1 : e.dir = true) (h2 : 0 < e.b.length) : okE s q e = false := by
  simp [okE, h1, h2]
theorem okE_f2 {s : Seen} {q : Option (List UInt8)} {e : Ent} (h1 : ¬ e.b.length ≤ 2048) : okE s q e = false := by
  simp [okE, h1]
theorem okE_f3 {s : Seen} {x : List UInt8} {e : Ent} (h1 : ¬ cmpP x e.path < 0) : okE s (some x) e = false := by
  simp [okE, h1]
theorem prevOf_pos {l : List Ent} {k : Nat} (h : 0 < k) (hk : k < l.length) : prevOf l k = some (l[k - 1]).path := by
  obtain ⟨k, rfl⟩ : ∃ j, k = j + 1 := ⟨k - 1, by omega⟩
  simp only [prevOf, Nat.add_sub_cancel]
  rw [List.getElem?_eq_getElem (by omega)]; rfl
end Go.Tm
namespace Go.Tm
open Go Go.Av

abbrev treeAV (l : List Ent) : AV := .agg [.sl 3 (ents l)]
def sameT (a b : List Ent) : Bool := goodT a && (goodT b && decide (a = b))
def bytesT (l : List Ent) : Nat := if goodT l then cnt l else 0
def findT (l : List Ent) (p : List UInt8) : Ent × Int :=
  if goodT l = false then (default, 1) else if goodP p = false then (default, 4) else if findOk l p = false then (default, 5) else (l.getD (findI l p) default, 0)
def upN (p : List UInt8) : List UInt8 := if goodP p then upOf p else []
def kidsT (l : List Ent) (p : List UInt8) : List (List UInt8) := if goodT l then (l.filter fun e => upN e.path == p).map (·.path) else []
theorem le_zero : Le (.agg [.str [], .bool false, .nilsl]) (default : Ent).av := le_agg rfl fun i a b ha hb => by
  match i, ha, hb with
  | 0, rfl, rfl => exact Le.rfl
  | 1, rfl, rfl => exact le_bs rfl
  | 2, rfl, rfl => exact le_nilsl 1
end Go.Tm
namespace Go.Tm
open Go Go.Av

/-- A tree with an entry, if that may be; else as it was. -/
def withT (L : List Ent) (e : Ent) : List Ent × Int :=
  if upE L e.path ≠ 0 then (L, upE L e.path) else
  if findOk L e.path = true ∧ (L.getD (findI L e.path) default).dir = true then (L, 7) else
  let M := if findOk L e.path then L.set (findI L e.path) e else L.take (findI L e.path) ++ e :: L.drop (findI L e.path)
  if 40 < M.length ∨ 2048 < e.b.length ∨ 16384 < cnt M then (L, 9) else (M, 0)
def putT (L : List Ent) (p b : List UInt8) : List Ent × Int :=
  if goodT L = false then (L, 1) else if goodP p = false then (L, 4) else withT L ⟨p, false, b⟩
def makeT (L : List Ent) (p : List UInt8) : List Ent × Int :=
  if (findT L p).2 = 0 then (L, 6) else if (findT L p).2 = 5 then withT L ⟨p, true, []⟩ else (L, (findT L p).2)
def removeT (L : List Ent) (p : List UInt8) : List Ent × Int :=
  if (findT L p).2 ≠ 0 then (L, (findT L p).2) else if 0 < (kidsT L p).length then (L, 8) else (L.eraseIdx (findI L p), 0)
def moveT (L : List Ent) (p q : List UInt8) : List Ent × Int :=
  if goodT L = false then (L, 1) else if goodP p = false ∨ goodP q = false then (L, 4) else
  if findOk L p = false then (L, 5) else if (L.getD (findI L p) default).dir = true then (L, 7) else if p = q then (L, 0) else
  let r := withT (L.eraseIdx (findI L p)) ⟨q, false, (L.getD (findI L p) default).b⟩
  if r.2 ≠ 0 then (L, r.2) else (r.1, 0)
theorem Sm.set {L : List Ent} (h : Sm L) {e : Ent} (h1 : e.path.length ≤ 2^30) (h2 : e.b.length ≤ 2^30) (i : Nat) : Sm (L.set i e) :=
  ⟨by rw [List.length_set]; exact h.len, fun x hx => by rcases List.mem_or_eq_of_mem_set hx with hx | rfl; exact h.path _ hx; exact h1, fun x hx => by rcases List.mem_or_eq_of_mem_set hx with hx | rfl; exact h.b _ hx; exact h2⟩
theorem Sm.ins {L : List Ent} (h : Sm L) (hl : L.length < 2^30) {e : Ent} (h1 : e.path.length ≤ 2^30) (h2 : e.b.length ≤ 2^30) (i : Nat) : Sm (L.take i ++ e :: L.drop i) := by
  have hm : ∀ x ∈ L.take i ++ e :: L.drop i, x ∈ L ∨ x = e := fun x hx => by
    rw [List.mem_append, List.mem_cons] at hx
    rcases hx with hx | rfl | hx
    · exact .inl (List.mem_of_mem_take hx)
    · exact .inr rfl
    · exact .inl (List.mem_of_mem_drop hx)
  refine ⟨by simp; omega, fun x hx => ?_, fun x hx => ?_⟩
  · rcases hm x hx with hx | rfl
    · exact h.path _ hx
    · exact h1
  · rcases hm x hx with hx | rfl
    · exact h.b _ hx
    · exact h2
theorem Sm.erase {L : List Ent} (h : Sm L) (i : Nat) : Sm (L.eraseIdx i) :=
  ⟨Nat.le_trans (List.length_eraseIdx_le ..) h.len, fun x hx => h.path _ (List.mem_of_mem_eraseIdx hx), fun x hx => h.b _ (List.mem_of_mem_eraseIdx hx)⟩
end Go.Tm
namespace Go.Tm
open Go Go.Av

/-- What is to be done on a disk. -/
structure Chg where
  op : Int
  path : List UInt8
  to : List UInt8
  b : List UInt8
  deriving DecidableEq, Inhabited
def Chg.av (c : Chg) : AV := .agg [.int .i64 c.op, .str c.path, .str c.to, byt c.b]
def chgs (l : List Chg) : List AV := l.map Chg.av
theorem chgs_len (l : List Chg) : (chgs l).length = l.length := by simp [chgs]
theorem chgs_get (l : List Chg) {k : Nat} (h : k < l.length) : (chgs l)[k]? = some (l[k]).av := by simp [chgs, h]
theorem chgs_nids (l : List Chg) : AV.nids (chgs l) = true := nids_map _ _ fun _ => rfl
/-- Nothing is great. -/
structure Chg.Sm (c : Chg) : Prop where
  path : c.path.length ≤ 2^30
  to : c.to.length ≤ 2^30
  b : c.b.length ≤ 2^30

def doneT (L : List Ent) (c : Chg) : List Ent × Int :=
  if c.op = 1 then putT L c.path c.b else if c.op = 2 then makeT L c.path else if c.op = 3 then removeT L c.path else if c.op = 4 then moveT L c.path c.to else (L, 1)

structure Dsk where
  quota : Int
  now : List Ent
  last : List Ent
  waits : List Chg
  off : Bool
  count : Int
  deriving DecidableEq, Inhabited
/-- A disk's struct; w: where its changes wait. -/
def Dsk.av (d : Dsk) (w : AV) : AV := .agg [.int .i64 d.quota, .sl 3 (ents d.now), .sl 3 (ents d.last), w, .bool d.off, .int .i64 d.count, .int .i64 0, .nilsl, .int .i64 0]

def ints (l : List Int) : List AV := l.map (AV.int .i64)
theorem ints_len (l : List Int) : (ints l).length = l.length := by simp [ints]
theorem ints_get (l : List Int) {k : Nat} (h : k < l.length) : (ints l)[k]? = some (.int .i64 l[k]) := by simp [ints, h]
def idxI (x : Int) : List Int → Nat → Int
  | [], _ => -1
  | y :: l, k => if x = y then k else idxI x l (k + 1)
theorem idxI_pos (x : Int) : ∀ (l : List Int) (k : Nat), (0 ≤ idxI x l k ↔ x ∈ l)
  | [], k => by simp [idxI]
  | y :: l, k => by
    rw [idxI]
    split
    · rename_i h; simp [h]
    · rename_i h; rw [idxI_pos x l (k + 1)]; simp [h]

def tearC (c : Chg) (torn : Int) : Chg := if c.op = 1 ∧ 0 ≤ torn then { c with b := c.b.take torn.toNat } else c
/-- What lasts behind a fall: from change k on. -/
def fallT (keep : List Int) (torn : Int) : List Ent → Nat → List Chg → List Ent
  | L, _, [] => L
  | L, k, c :: r => fallT keep torn (if (k : Int) ∈ keep ∧ (doneT L (tearC c torn)).2 = 0 then (doneT L (tearC c torn)).1 else L) (k + 1) r
def crashD (d : Dsk) (keep : List Int) (torn : Int) : Dsk :=
  if d.off then d else { d with now := fallT keep torn d.last 0 d.waits, last := fallT keep torn d.last 0 d.waits, waits := [], off := true }
def doD (d : Dsk) (c : Chg) : Dsk × Int :=
  if d.off then (d, 15) else
  if (doneT d.now c).2 ≠ 0 then (d, (doneT d.now c).2) else
  if d.quota < bytesT (doneT d.now c).1 ∧ bytesT d.now < bytesT (doneT d.now c).1 then (d, 9) else
  ({ d with now := (doneT d.now c).1, waits := d.waits ++ [c], count := IntKind.i64.wrap (d.count + 1) }, 0)
def syncD (d : Dsk) : Dsk × Int :=
  if d.off then (d, 15) else ({ d with last := d.now, waits := [], count := IntKind.i64.wrap (d.count + 1) }, 0)
end Go.Tm
namespace Go.Tm
open Go Go.Av

theorem goodName_len {s : List UInt8} (h : goodName s = true) : s.length ≤ 16 := by
  simp only [goodName, Bool.and_eq_true, decide_eq_true_eq] at h
  omega
def tot : List (List UInt8) → Nat
  | [] => 0
  | x :: r => x.length + 1 + tot r
theorem tot_split : ∀ s, tot (splitB s) = s.length + 1
  | [] => by simp [splitB, tot]
  | c :: s => by
    by_cases hc : c = 47
    · subst hc
      have e : splitB (47 :: s) = [] :: splitB s := by simp [splitB]
      rw [e, tot, tot_split s]; simp; omega
    · obtain ⟨x, r, h1, h2⟩ := splitB_cons (s := s) hc
      have ih := tot_split s
      rw [h1, tot] at ih
      rw [h2, tot]; simp; omega
theorem tot_le {n : Nat} : ∀ {l : List (List UInt8)}, (∀ x ∈ l, x.length ≤ n) → tot l ≤ l.length * (n + 1)
  | [], _ => by simp [tot]
  | x :: r, h => by
    have h1 := h x List.mem_cons_self
    have ih := tot_le (l := r) fun y hy => h y (List.mem_cons_of_mem _ hy)
    rw [tot, List.length_cons, Nat.add_mul]; omega
theorem goodP_len {p : List UInt8} (h : goodP p = true) : p.length ≤ 67 := by
  simp only [goodP, Bool.and_eq_true, decide_eq_true_eq, List.all_eq_true] at h
  have h1 := tot_split p
  have h2 := tot_le (n := 16) (l := splitB p) fun x hx => goodName_len (h.2 x hx)
  have h3 : (splitB p).length * 17 ≤ 4 * 17 := Nat.mul_le_mul_right _ (by omega)
  omega
theorem okE_facts {s : Seen} {q : Option (List UInt8)} {e : Ent} (h : okE s q e = true) : goodP e.path = true ∧ lookB s (upOf e.path) = true ∧ (e.dir = true → e.b = []) ∧ e.b.length ≤ 2048 ∧ (∀ x, q = some x → cmpP x e.path < 0) := by
  simp only [okE, Bool.and_eq_true, Bool.not_eq_true', decide_eq_true_eq] at h
  obtain ⟨h1, h2, h3, h4, h5⟩ := h
  refine ⟨h1, h2, fun hd => ?_, h4, fun x hx => ?_⟩
  · rw [hd] at h3; simp at h3; exact h3
  · subst hx; simpa using h5
theorem goodFrom_mem : ∀ {l : List Ent} {s : Seen} {q : Option (List UInt8)}, goodFrom s q l = true → ∀ e ∈ l, goodP e.path = true ∧ e.b.length ≤ 2048 ∧ (e.dir = true → e.b = [])
  | [], _, _, _, e, he => by cases he
  | x :: l, s, q, h, e, he => by
    simp only [goodFrom, Bool.and_eq_true] at h
    rcases List.mem_cons.1 he with rfl | he
    · obtain ⟨h1, _, h3, h4, _⟩ := okE_facts h.1; exact ⟨h1, h4, h3⟩
    · exact goodFrom_mem h.2 e he
theorem goodT_sm : ∀ L, goodT L = true → Sm L ∧ L.length ≤ 40 := fun L h => by
  simp only [goodT, Bool.and_eq_true, decide_eq_true_eq] at h
  refine ⟨⟨by omega, fun e he => ?_, fun e he => ?_⟩, h.1⟩
  · have := goodP_len (goodFrom_mem h.2.2 e he).1; omega
  · have := (goodFrom_mem h.2.2 e he).2.1; omega

theorem with_fail {L : List Ent} {e : Ent} (h : (withT L e).2 ≠ 0) : (withT L e).1 = L := by
  unfold withT at h ⊢
  split
  · rfl
  · rename_i h1
    rw [if_neg h1] at h
    split
    · rfl
    · rename_i h2
      rw [if_neg h2] at h
      dsimp only at h ⊢
      generalize (if findOk L e.path = true then L.set (findI L e.path) e else List.take (findI L e.path) L ++ e :: List.drop (findI L e.path) L) = M at h ⊢
      split
      · rfl
      · rename_i h3; rw [if_neg h3] at h; exact absurd rfl h
theorem done_fail {L : List Ent} {c : Chg} (h : (doneT L c).2 ≠ 0) : (doneT L c).1 = L := by
  unfold doneT at h ⊢
  split
  · rename_i h1; rw [if_pos h1] at h
    unfold putT at h ⊢
    split
    · rfl
    · rename_i h2; rw [if_neg h2] at h
      split
      · rfl
      · rename_i h3; rw [if_neg h3] at h; exact with_fail h
  · rename_i h1; rw [if_neg h1] at h
    split
    · rename_i h1; rw [if_pos h1] at h
      unfold makeT at h ⊢
      split
      · rfl
      · rename_i h2; rw [if_neg h2] at h
        split
        · rename_i h3; rw [if_pos h3] at h; exact with_fail h
        · rfl
    · rename_i h1; rw [if_neg h1] at h
      split
      · rename_i h1; rw [if_pos h1] at h
        unfold removeT at h ⊢
        split
        · rfl
        · rename_i h2; rw [if_neg h2] at h
          split
          · rfl
          · rename_i h3; rw [if_neg h3] at h; exact absurd rfl h
      · rename_i h1; rw [if_neg h1] at h
        split
        · rename_i h1; rw [if_pos h1] at h
          unfold moveT at h ⊢
          split
          · rfl
          · rename_i h2; rw [if_neg h2] at h
            split
            · rfl
            · rename_i h3; rw [if_neg h3] at h
              split
              · rfl
              · rename_i h4; rw [if_neg h4] at h
                split
                · rfl
                · rename_i h5; rw [if_neg h5] at h
                  split
                  · rfl
                  · rename_i h6; rw [if_neg h6] at h
                    dsimp only at h ⊢
                    split
                    · rfl
                    · rename_i h7; rw [if_neg h7] at h; exact absurd rfl h
        · rfl

theorem fall_append (keep : List Int) (torn : Int) (c : Chg) : ∀ (a : List Chg) (L : List Ent) (k : Nat), fallT keep torn L k (a ++ [c]) =
    if ((k + a.length : Nat) : Int) ∈ keep ∧ (doneT (fallT keep torn L k a) (tearC c torn)).2 = 0 then (doneT (fallT keep torn L k a) (tearC c torn)).1 else fallT keep torn L k a
  | [], L, k => rfl
  | x :: a, L, k => by
    rw [List.cons_append, fallT, fallT, fall_append keep torn c a]
    rw [show k + 1 + a.length = k + (x :: a).length from by simp; omega]

theorem tear_neg (c : Chg) : tearC c (-1) = c := by rw [tearC, if_neg fun h => absurd h.2 (by decide)]
/-- What holds of a disk on which things were done, and nothing was synced. -/
structure AI (k : Nat) (d : Dsk) : Prop where
  off : d.off = false
  good : goodT d.now = true
  last : d.last = []
  wl : d.waits.length ≤ k
  ws : ∀ c ∈ d.waits, c.Sm
  rep : ∀ keep : List Int, (∀ i : Nat, i < d.waits.length → (i : Int) ∈ keep) → fallT keep (-1) [] 0 d.waits = d.now
theorem done_sm (hG : ∀ L c, goodT L = true → (doneT L c).2 = 0 → goodT (doneT L c).1 = true) {L : List Ent} (c : Chg) (h : goodT L = true) : Sm (doneT L c).1 := by
  by_cases h1 : (doneT L c).2 = 0
  · exact (goodT_sm _ (hG L c h h1)).1
  · rw [done_fail h1]; exact (goodT_sm _ h).1
theorem AI.step (hG : ∀ L c, goodT L = true → (doneT L c).2 = 0 → goodT (doneT L c).1 = true) {k : Nat} {d : Dsk} (h : AI k d) {c : Chg} (hc : c.Sm) : AI (k + 1) (doD d c).1 := by
  have ho : ¬ d.off = true := by rw [h.off]; decide
  by_cases h1 : (doneT d.now c).2 ≠ 0
  · rw [doD, if_neg ho, if_pos h1]; exact { h with wl := by have := h.wl; dsimp only; omega }
  · by_cases h2 : d.quota < bytesT (doneT d.now c).1 ∧ bytesT d.now < bytesT (doneT d.now c).1
    · rw [doD, if_neg ho, if_neg h1, if_pos h2]; exact { h with wl := by have := h.wl; dsimp only; omega }
    · rw [doD, if_neg ho, if_neg h1, if_neg h2]
      have h1 : (doneT d.now c).2 = 0 := by omega
      refine ⟨h.off, hG _ _ h.good h1, h.last, by have := h.wl; simp; omega, fun x hx => ?_, fun keep hk => ?_⟩
      · rcases List.mem_append.1 hx with hx | hx
        · exact h.ws x hx
        · simp at hx; subst hx; exact hc
      · have hk' : ∀ i : Nat, i < d.waits.length → (i : Int) ∈ keep := fun i hi => hk i (by simp; omega)
        have := h.rep keep hk'
        dsimp only
        rw [fall_append, this, tear_neg, if_pos ⟨by simpa using hk d.waits.length (by simp), h1⟩]
def dA : Dsk := ⟨16384, [], [], [], false, 0⟩
theorem AI.init : AI 0 dA := ⟨rfl, rfl, rfl, Nat.le_refl _, (fun _ h => by cases h), (fun _ _ => rfl)⟩
theorem doD_fail {d : Dsk} {c : Chg} (h : (doD d c).2 ≠ 0) : (doD d c).1 = d := by
  unfold doD at h ⊢
  split
  · rfl
  · rename_i h1; rw [if_neg h1] at h
    split
    · rfl
    · rename_i h2; rw [if_neg h2] at h
      split
      · rfl
      · rename_i h3; rw [if_neg h3] at h; exact absurd rfl h
theorem doD_ok {d : Dsk} {c : Chg} (h : (doD d c).2 = 0) : (doD d c).1.waits = d.waits ++ [c] := by
  unfold doD at h ⊢
  split
  · rename_i h1; rw [if_pos h1] at h; exact absurd h (show ¬ (15 : Int) = 0 from by decide)
  · rename_i h1; rw [if_neg h1] at h
    split
    · rename_i h2; rw [if_pos h2] at h; exact absurd h h2
    · rename_i h2; rw [if_neg h2] at h
      split
      · rename_i h3; rw [if_pos h3] at h; exact absurd h (show ¬ (9 : Int) = 0 from by decide)
      · rfl
end Go.Tm
namespace Go.Tm
open Go Go.Av

theorem bl_irr : ∀ a, Op.bytesLess a a = false
  | [] => rfl
  | x :: a => by simp [Op.bytesLess, bl_irr a]
theorem bl_trans : ∀ {a b c}, Op.bytesLess a b = true → Op.bytesLess b c = true → Op.bytesLess a c = true
  | [], [], _, h, _ => by simp [Op.bytesLess] at h
  | _ :: _, [], _, h, _ => by simp [Op.bytesLess] at h
  | _, _ :: _, [], _, h => by simp [Op.bytesLess] at h
  | [], _ :: _, _ :: _, _, _ => by simp [Op.bytesLess]
  | x :: a, y :: b, z :: c, h, h' => by
    simp only [Op.bytesLess, Bool.or_eq_true, Bool.and_eq_true, decide_eq_true_eq, beq_iff_eq, UInt8.lt_iff_toNat_lt, ← UInt8.toNat_inj] at h h' ⊢
    rcases h with h | ⟨h1, h2⟩ <;> rcases h' with h' | ⟨h1', h2'⟩
    · left; omega
    · left; omega
    · left; omega
    · right; exact ⟨by omega, bl_trans h2 h2'⟩
theorem bl_tri : ∀ {a b}, Op.bytesLess a b = false → a ≠ b → Op.bytesLess b a = true
  | [], [], _, h => absurd rfl h
  | [], _ :: _, h, _ => by simp [Op.bytesLess] at h
  | _ :: _, [], _, _ => by simp [Op.bytesLess]
  | x :: a, y :: b, h, hne => by
    have h0 : ¬ (x.toNat < y.toNat ∨ (x.toNat = y.toNat ∧ Op.bytesLess a b = true)) := fun hh => by
      have : Op.bytesLess (x :: a) (y :: b) = true := by
        simp only [Op.bytesLess, Bool.or_eq_true, Bool.and_eq_true, decide_eq_true_eq, beq_iff_eq, UInt8.lt_iff_toNat_lt, ← UInt8.toNat_inj]; exact hh
      rw [h] at this; cases this
    simp only [Op.bytesLess, Bool.or_eq_true, Bool.and_eq_true, decide_eq_true_eq, beq_iff_eq, UInt8.lt_iff_toNat_lt, ← UInt8.toNat_inj]
    by_cases e : x = y
    · subst e
      right
      refine ⟨rfl, bl_tri ?_ fun e => hne (by rw [e])⟩
      cases hb : Op.bytesLess a b with
      | false => rfl
      | true => exact absurd (.inr ⟨rfl, hb⟩) h0
    · have : x.toNat ≠ y.toNat := fun h => e (UInt8.toNat_inj.1 h)
      left; omega
theorem cmpS_zero {a b : List UInt8} : cmpS a b = 0 ↔ a = b := by
  unfold cmpS
  split
  · rename_i h
    refine ⟨fun h => by omega, fun e => ?_⟩
    subst e; rw [bl_irr] at h; cases h
  · split
    · rename_i h; simp [h]
    · rename_i h; simp [h]
theorem cmpS_neg {a b : List UInt8} : cmpS a b < 0 ↔ Op.bytesLess a b = true := by
  unfold cmpS
  split
  · rename_i h; simp [h]
  · rename_i h
    split <;> simp [h]
theorem cmpS_anti (a b : List UInt8) : cmpS b a = - cmpS a b := by
  unfold cmpS
  by_cases h1 : Op.bytesLess a b = true
  · have h2 : ¬ Op.bytesLess b a = true := fun h2 => by have := bl_trans h1 h2; rw [bl_irr] at this; cases this
    have h3 : ¬ b = a := fun e => by subst e; rw [bl_irr] at h1; cases h1
    rw [if_pos h1, if_neg h2, if_neg h3]; rfl
  · rw [if_neg h1]
    by_cases e : a = b
    · subst e; simp [h1]
    · rw [if_neg e, if_pos (bl_tri (by simpa using h1) e)]
theorem cmpL_zero : ∀ {a b : List (List UInt8)}, cmpL a b = 0 ↔ a = b
  | [], [] => by simp [cmpL]
  | [], _ :: _ => by simp [cmpL]
  | _ :: _, [] => by simp [cmpL]
  | x :: a, y :: b => by
    rw [cmpL]
    split
    · rename_i h
      refine ⟨fun h' => absurd h' h, fun e => ?_⟩
      simp at e; exact absurd (cmpS_zero.2 e.1) h
    · rename_i h
      have h : x = y := cmpS_zero.1 (by omega)
      rw [cmpL_zero]; simp [h]
theorem cmpL_anti : ∀ (a b : List (List UInt8)), cmpL b a = - cmpL a b
  | [], [] => by simp [cmpL]
  | [], _ :: _ => by simp [cmpL]
  | _ :: _, [] => by simp [cmpL]
  | x :: a, y :: b => by
    rw [cmpL, cmpL, cmpS_anti x y]
    by_cases h : cmpS x y = 0
    · rw [if_neg (by omega), if_neg (by omega)]; exact cmpL_anti a b
    · rw [if_pos (by omega), if_pos h]
theorem cmpL_trans : ∀ {a b c : List (List UInt8)}, cmpL a b < 0 → cmpL b c < 0 → cmpL a c < 0
  | [], [], _, h, _ => by simp [cmpL] at h
  | _ :: _, [], _, h, _ => by simp [cmpL] at h
  | _, _ :: _, [], _, h => by simp [cmpL] at h
  | [], _ :: _, _ :: _, _, _ => by simp [cmpL]
  | x :: a, y :: b, z :: c, h, h' => by
    rw [cmpL] at h h' ⊢
    by_cases h1 : cmpS x y = 0
    · have e := cmpS_zero.1 h1
      subst e
      rw [if_neg (by omega)] at h
      by_cases h2 : cmpS x z = 0
      · rw [if_neg (by omega)] at h' ⊢; exact cmpL_trans h h'
      · rw [if_pos h2] at h' ⊢; exact h'
    · rw [if_pos h1] at h
      by_cases h2 : cmpS y z = 0
      · have e := cmpS_zero.1 h2
        subst e
        rw [if_pos h1]; exact h
      · rw [if_pos h2] at h'
        have := cmpS_neg.2 (bl_trans (cmpS_neg.1 h) (cmpS_neg.1 h'))
        rw [if_pos (by omega)]; exact this

/-- What was cut, put together again. -/
def joinB : List (List UInt8) → List UInt8
  | [] => []
  | [x] => x
  | x :: r => x ++ 47 :: joinB r
theorem joinB_split : ∀ s, joinB (splitB s) = s
  | [] => rfl
  | c :: s => by
    by_cases hc : c = 47
    · subst hc
      have e : splitB (47 :: s) = [] :: splitB s := by simp [splitB]
      rw [e]
      cases hs : splitB s with
      | nil => exact absurd hs (splitB_ne s)
      | cons x r =>
        have := joinB_split s
        rw [hs] at this
        show [] ++ 47 :: joinB (x :: r) = _
        rw [this]; rfl
    · obtain ⟨x, r, h1, h2⟩ := splitB_cons (s := s) hc
      have := joinB_split s
      rw [h1] at this
      rw [h2]
      cases r with
      | nil => simp only [joinB] at this ⊢; rw [this]
      | cons y r => simp only [joinB] at this ⊢; rw [List.cons_append, this]
theorem splitB_inj {a b : List UInt8} (h : splitB a = splitB b) : a = b := by
  have := congrArg joinB h
  rwa [joinB_split, joinB_split] at this
theorem cmpP_zero {a b : List UInt8} : cmpP a b = 0 ↔ a = b := by
  unfold cmpP
  rw [cmpL_zero]
  exact ⟨splitB_inj, fun h => by rw [h]⟩
theorem cmpP_anti (a b : List UInt8) : cmpP b a = - cmpP a b := cmpL_anti _ _
theorem cmpP_trans {a b c : List UInt8} (h : cmpP a b < 0) (h' : cmpP b c < 0) : cmpP a c < 0 := cmpL_trans h h'

theorem splitB_app (b : List UInt8) : ∀ a : List UInt8, splitB (a ++ 47 :: b) = splitB a ++ splitB b
  | [] => by simp [splitB]
  | c :: a => by
    have ih := splitB_app b a
    by_cases hc : c = 47
    · subst hc
      have e : ∀ s, splitB (47 :: s) = [] :: splitB s := fun s => by simp [splitB]
      rw [List.cons_append, e, e, ih]; rfl
    · obtain ⟨x, r, h1, h2⟩ := splitB_cons (s := a) hc
      obtain ⟨x', r', h1', h2'⟩ := splitB_cons (s := a ++ 47 :: b) hc
      rw [List.cons_append, h2', h2]
      rw [h1', h1, List.cons_append] at ih
      simp only [List.cons.injEq] at ih
      rw [ih.1, ih.2]; rfl
theorem splitB_none : ∀ {b : List UInt8}, 47 ∉ b → splitB b = [b]
  | [], _ => rfl
  | c :: b, h => by
    have hc : c ≠ 47 := fun e => h (by rw [e]; exact List.mem_cons_self)
    obtain ⟨x, r, h1, h2⟩ := splitB_cons (s := b) hc
    have := splitB_none (b := b) fun hm => h (List.mem_cons_of_mem _ hm)
    rw [h1] at this
    simp only [List.cons.injEq] at this
    rw [h2, this.1, this.2]
theorem lastTo_spec (s : List UInt8) (c : UInt8) : ∀ k, k ≤ s.length → (lastTo s c k = -1 ∧ ∀ j, j < k → s.getD j 0 ≠ c) ∨ ∃ i : Nat, lastTo s c k = i ∧ i < k ∧ s.getD i 0 = c ∧ ∀ j, i < j → j < k → s.getD j 0 ≠ c
  | 0, _ => .inl ⟨rfl, fun j h => by omega⟩
  | k + 1, hk => by
    rw [lastTo]
    split
    · rename_i h; exact .inr ⟨k, rfl, by omega, h, fun j h1 h2 => by omega⟩
    · rename_i h
      rcases lastTo_spec s c k (by omega) with ⟨h1, h2⟩ | ⟨i, h1, h2, h3, h4⟩
      · refine .inl ⟨h1, fun j hj => ?_⟩
        by_cases e : j = k
        · subst e; exact h
        · exact h2 j (by omega)
      · refine .inr ⟨i, h1, by omega, h3, fun j h5 h6 => ?_⟩
        by_cases e : j = k
        · subst e; exact h
        · exact h4 j h5 (by omega)
/-- A path: one name, or those of its Up and a last one. -/
theorem split_up (p : List UInt8) : (upOf p = [] ∧ splitB p = [p]) ∨ splitB p = splitB (upOf p) ++ [baseOf p] := by
  rcases lastTo_spec p 47 p.length (Nat.le_refl _) with ⟨h1, h2⟩ | ⟨i, h1, h2, h3, h4⟩
  · left
    have e : lastIdx p 47 = -1 := h1
    refine ⟨by rw [upOf, e]; rfl, splitB_none fun hm => ?_⟩
    obtain ⟨j, hj, he⟩ := List.getElem_of_mem hm
    exact h2 j hj (by simp [List.getD, hj, he])
  · right
    have e : lastIdx p 47 = i := h1
    have e1 : upOf p = p.take i := by rw [upOf, e]; rfl
    have e2 : baseOf p = p.drop (i + 1) := by rw [baseOf, e]; congr 1
    have e3 : p[i] = 47 := by simpa [List.getD, h2] using h3
    have e4 : p = p.take i ++ 47 :: p.drop (i + 1) := by rw [← e3, ← List.drop_eq_getElem_cons h2, List.take_append_drop]
    rw [e1, e2]
    conv => lhs; rw [e4]
    rw [splitB_app, splitB_none (b := p.drop (i + 1))]
    intro hm
    obtain ⟨j, hj, he⟩ := List.getElem_of_mem hm
    rw [List.getElem_drop] at he
    simp at hj
    exact h4 (i + 1 + j) (by omega) (by omega) (by simp [List.getD, show i + 1 + j < p.length by omega, he])
theorem cmpL_app : ∀ (a : List (List UInt8)) (y : List UInt8), cmpL a (a ++ [y]) < 0
  | [], y => by simp [cmpL]
  | x :: a, y => by
    rw [List.cons_append, cmpL, if_neg (by rw [cmpS_zero.2 rfl]; decide)]; exact cmpL_app a y
theorem up_less {p : List UInt8} (h : upOf p ≠ []) : cmpP (upOf p) p < 0 := by
  rcases split_up p with ⟨h1, _⟩ | h1
  · exact absurd h1 h
  · unfold cmpP; rw [h1]; exact cmpL_app _ _
theorem goodP_ne {p : List UInt8} (h : goodP p = true) : p ≠ [] := by
  rintro rfl
  revert h; decide
/-- A path's Up is a path, or none. -/
theorem goodP_up {p : List UInt8} (h : goodP p = true) : upOf p = [] ∨ goodP (upOf p) = true := by
  rcases split_up p with ⟨h1, _⟩ | h1
  · exact .inl h1
  · right
    simp only [goodP, Bool.and_eq_true, decide_eq_true_eq] at h ⊢
    rw [h1, List.length_append, List.all_append, Bool.and_eq_true] at h
    exact ⟨by omega, h.2.1⟩
end Go.Tm
namespace Go.Tm
open Go Go.Av

abbrev Lt (a b : Ent) : Prop := cmpP a.path b.path < 0
theorem Lt.irr (a : Ent) : ¬ Lt a a := fun h => by
  have := cmpP_zero.2 (rfl : a.path = a.path)
  unfold Lt at h; omega
theorem Lt.asym {a b : Ent} (h : Lt a b) : ¬ Lt b a := fun h' => by
  have := cmpP_anti a.path b.path
  unfold Lt at h h'; omega
structure GoodL (L : List Ent) : Prop where
  sorted : L.Pairwise Lt
  ok : ∀ e ∈ L, goodP e.path = true ∧ e.b.length ≤ 2048 ∧ (e.dir = true → e.b = [])
  up : ∀ e ∈ L, upOf e.path = [] ∨ ∃ d ∈ L, d.path = upOf e.path ∧ d.dir = true
def Rel (s : Seen) (A : List Ent) : Prop := ∀ p, lookB s p = true ↔ (p = [] ∨ ∃ d ∈ A, d.path = p ∧ d.dir = true)
theorem lookB_upd (k : List UInt8) (v : Bool) (p : List UInt8) : ∀ s : Seen, lookB (updB s k v) p = if p = k then v else lookB s p
  | [] => by simp [updB, lookB]
  | x :: s => by
    have ih := lookB_upd k v p s
    simp only [updB]
    split
    · rename_i h
      have h : k = x.1 := by simpa using h
      by_cases e : p = k
      · simp [lookB, e]
      · have : ¬ p = x.1 := fun e' => e (e'.trans h.symm)
        simp [lookB, e, this]
    · rename_i h
      have h : ¬ k = x.1 := by simpa using h
      simp only [lookB, ih]
      by_cases e : p = x.1
      · have : ¬ p = k := fun e' => h (e'.symm.trans e)
        have h' : ¬ x.1 = k := fun e' => h e'.symm
        simp [e, h']
      · simp [e]
theorem Rel.upd {s : Seen} {A : List Ent} (h : Rel s A) {e : Ent} (h1 : e.path ≠ []) (h2 : ∀ a ∈ A, a.path ≠ e.path) : Rel (updB s e.path e.dir) (A ++ [e]) := fun p => by
  rw [lookB_upd]
  split
  · rename_i hp
    subst hp
    constructor
    · intro hd; exact .inr ⟨e, by simp, rfl, hd⟩
    · rintro (hp | ⟨d, hd, hp, hdd⟩)
      · exact absurd hp h1
      · rcases List.mem_append.1 hd with hd | hd
        · exact absurd hp (h2 d hd)
        · simp at hd; subst hd; exact hdd
  · rename_i hp
    rw [h p]
    constructor
    · rintro (hp | ⟨d, hd, hp, hdd⟩)
      · exact .inl hp
      · exact .inr ⟨d, List.mem_append_left _ hd, hp, hdd⟩
    · rintro (hp | ⟨d, hd, hp', hdd⟩)
      · exact .inl hp
      · rcases List.mem_append.1 hd with hd | hd
        · exact .inr ⟨d, hd, hp', hdd⟩
        · simp at hd; subst hd; exact absurd hp'.symm hp
theorem sorted_last {A : List Ent} {x : Ent} (h : A.Pairwise Lt) (hx : A.getLast? = some x) : ∀ a ∈ A, a = x ∨ Lt a x := by
  intro a ha
  obtain ⟨B, rfl⟩ := List.getLast?_eq_some_iff.1 hx
  rcases List.mem_append.1 ha with ha | ha
  · exact .inr ((List.pairwise_append.1 h).2.2 a ha x (by simp))
  · simp at ha; exact .inl ha
theorem goodFrom_iff : ∀ (L A : List Ent) (s : Seen) (q : Option (List UInt8)), Rel s A → q = (A.getLast?).map (·.path) → GoodL A → (goodFrom s q L = true ↔ GoodL (A ++ L))
  | [], A, s, q, _, _, hA => by simp [goodFrom, hA]
  | e :: L, A, s, q, hr, hq, hA => by
    rw [goodFrom, Bool.and_eq_true]
    constructor
    · rintro ⟨h1, h2⟩
      obtain ⟨k1, k2, k3, k4, k5⟩ := okE_facts h1
      have hlt : ∀ a ∈ A, Lt a e := fun a ha => by
        cases hl : A.getLast? with
        | none => rw [List.getLast?_eq_none_iff] at hl; subst hl; cases ha
        | some x =>
          have hx : cmpP x.path e.path < 0 := k5 x.path (by rw [hq, hl]; rfl)
          rcases sorted_last hA.sorted hl a ha with rfl | h
          · exact hx
          · exact cmpP_trans h hx
      have hA' : GoodL (A ++ [e]) := by
        refine ⟨List.pairwise_append.2 ⟨hA.sorted, List.pairwise_singleton _ _, fun a ha b hb => by simp at hb; subst hb; exact hlt a ha⟩, fun x hx => ?_, fun x hx => ?_⟩
        · rcases List.mem_append.1 hx with hx | hx
          · exact hA.ok x hx
          · simp at hx; subst hx; exact ⟨k1, k4, k3⟩
        · rcases List.mem_append.1 hx with hx | hx
          · rcases hA.up x hx with h | ⟨d, hd, h⟩
            · exact .inl h
            · exact .inr ⟨d, List.mem_append_left _ hd, h⟩
          · simp at hx; subst hx
            rcases (hr _).1 k2 with h | ⟨d, hd, h⟩
            · exact .inl h
            · exact .inr ⟨d, List.mem_append_left _ hd, h⟩
      have := (goodFrom_iff L (A ++ [e]) _ _ (hr.upd (goodP_ne k1) fun a ha heq => Lt.irr a (by have := hlt a ha; unfold Lt at this ⊢; rw [← heq] at this; exact this)) (by simp) hA').1 h2
      simpa using this
    · intro h
      have hs := List.pairwise_append.1 h.sorted
      have hlt : ∀ a ∈ A, Lt a e := fun a ha => hs.2.2 a ha e (by simp)
      have hs2 := List.pairwise_cons.1 hs.2.1
      obtain ⟨k1, k4, k3⟩ := h.ok e (by simp)
      have hup : upOf e.path = [] ∨ ∃ d ∈ A, d.path = upOf e.path ∧ d.dir = true := by
        rcases h.up e (by simp) with hu | ⟨d, hd, hp, hdd⟩
        · exact .inl hu
        · by_cases hne : upOf e.path = []
          · exact .inl hne
          · have hl : Lt d e := by unfold Lt; rw [hp]; exact up_less hne
            rcases List.mem_append.1 hd with hd | hd
            · exact .inr ⟨d, hd, hp, hdd⟩
            · rcases List.mem_cons.1 hd with rfl | hd
              · exact absurd hl (Lt.irr _)
              · exact absurd hl (Lt.asym (hs2.1 d hd))
      have hA' : GoodL (A ++ [e]) := by
        refine ⟨List.pairwise_append.2 ⟨hA.sorted, List.pairwise_singleton _ _, fun a ha b hb => by simp at hb; subst hb; exact hlt a ha⟩, fun x hx => h.ok x (by
          rcases List.mem_append.1 hx with hx | hx
          · exact List.mem_append_left _ hx
          · simp at hx; subst hx; simp), fun x hx => ?_⟩
        rcases List.mem_append.1 hx with hx | hx
        · rcases hA.up x hx with h | ⟨d, hd, h⟩
          · exact .inl h
          · exact .inr ⟨d, List.mem_append_left _ hd, h⟩
        · simp at hx; subst hx
          rcases hup with h | ⟨d, hd, h⟩
          · exact .inl h
          · exact .inr ⟨d, List.mem_append_left _ hd, h⟩
      refine ⟨okE_true k1 ((hr _).2 hup) (fun hd => by rw [k3 hd]; rfl) k4 fun x hx => ?_, ?_⟩
      · rw [hq] at hx
        cases hl : A.getLast? with
        | none => rw [hl] at hx; cases hx
        | some y => rw [hl] at hx; cases hx; exact hlt y (List.mem_of_getLast? hl)
      · refine (goodFrom_iff L (A ++ [e]) _ _ (hr.upd (goodP_ne k1) fun a ha heq => Lt.irr a (by have := hlt a ha; unfold Lt at this ⊢; rw [← heq] at this; exact this)) (by simp) hA').2 ?_
        simpa using h
theorem goodT_iff (L : List Ent) : goodT L = true ↔ L.length ≤ 40 ∧ cnt L ≤ 16384 ∧ GoodL L := by
  have key := goodFrom_iff L [] [([], true)] none (fun p => by
    simp only [lookB]
    constructor
    · intro h; split at h
      · rename_i hp; exact .inl (by simpa using hp)
      · cases h
    · rintro (rfl | ⟨d, hd, _⟩)
      · rfl
      · cases hd) rfl ⟨List.Pairwise.nil, (fun _ h => by cases h), (fun _ h => by cases h)⟩
  rw [goodT, Bool.and_eq_true, Bool.and_eq_true, decide_eq_true_eq, decide_eq_true_eq, key, List.nil_append]

theorem cmpAt_at (l : List Ent) (p : List UInt8) {k : Nat} (h : k < l.length) : cmpAt l p k = cmpP (l[k]).path p := by simp [cmpAt, List.getD, h]
/- THE SEARCH. -/
theorem find_lt {L : List Ent} (hs : L.Pairwise Lt) (p : List UInt8) {j : Nat} (hj : j < L.length) (h : j < findI L p) : cmpP (L[j]).path p < 0 := by
  have h1 := (bs_split (cmpAt L p) 0 L.length L.length (Nat.zero_le _) (Nat.le_refl _) (fun h => by omega) (fun h => by omega)).1 (show 0 < findI L p by omega)
  have hi := findI_le L p
  have h1 : cmpP (L[findI L p - 1]).path p < 0 := by
    rw [← cmpAt_at L p]; exact h1
  by_cases e : j = findI L p - 1
  · subst e; exact h1
  · exact cmpP_trans (List.pairwise_iff_getElem.1 hs j (findI L p - 1) hj (by omega) (by omega)) h1
theorem find_ge {L : List Ent} (p : List UInt8) (h : findI L p < L.length) : 0 ≤ cmpP (L[findI L p]).path p := by
  have h1 := (bs_split (cmpAt L p) 0 L.length L.length (Nat.zero_le _) (Nat.le_refl _) (fun h => by omega) (fun h => by omega)).2 h
  rw [← cmpAt_at L p]; exact h1
theorem find_gt {L : List Ent} (hs : L.Pairwise Lt) (p : List UInt8) {j : Nat} (hj : j < L.length) (h : findI L p < j) : 0 < cmpP (L[j]).path p := by
  have h1 := find_ge (L := L) p (by omega)
  have h2 : cmpP (L[findI L p]).path (L[j]).path < 0 := List.pairwise_iff_getElem.1 hs _ _ (by omega) hj h
  have h3 := cmpP_anti (L[findI L p]).path p
  by_cases e : cmpP (L[findI L p]).path p = 0
  · have e' := cmpP_zero.1 e
    rw [e'] at h2
    have := cmpP_anti p (L[j]).path
    omega
  · have := cmpP_trans (show cmpP p (L[findI L p]).path < 0 by omega) h2
    have h5 := cmpP_anti p (L[j]).path
    omega
theorem findOk_get {L : List Ent} {p : List UInt8} (h : findOk L p = true) : ∃ hi : findI L p < L.length, (L[findI L p]).path = p := by
  simp only [findOk, Bool.and_eq_true, decide_eq_true_eq] at h
  refine ⟨h.1, cmpP_zero.1 ?_⟩
  have := h.2
  unfold cmpAt at this
  simpa [List.getD, h.1] using this
theorem findOk_iff {L : List Ent} (hs : L.Pairwise Lt) (p : List UInt8) : findOk L p = true ↔ ∃ e ∈ L, e.path = p := by
  constructor
  · intro h
    obtain ⟨hi, h⟩ := findOk_get h
    exact ⟨_, List.getElem_mem hi, h⟩
  · rintro ⟨e, he, rfl⟩
    obtain ⟨j, hj, rfl⟩ := List.getElem_of_mem he
    have hz := cmpP_zero.2 (rfl : (L[j]).path = (L[j]).path)
    have h1 : ¬ j < findI L (L[j]).path := fun h => by have := find_lt hs (L[j]).path hj h; omega
    have h2 : ¬ findI L (L[j]).path < j := fun h => by have := find_gt hs (L[j]).path hj h; omega
    have e : findI L (L[j]).path = j := by omega
    simp only [findOk, e, hj, decide_true, Bool.true_and, decide_eq_true_eq]
    unfold cmpAt
    simpa [List.getD, hj] using hz
/-- The entry of a path is one. -/
theorem sorted_inj {L : List Ent} (hs : L.Pairwise Lt) {a b : Ent} (ha : a ∈ L) (hb : b ∈ L) (h : a.path = b.path) : a = b := by
  obtain ⟨i, hi, rfl⟩ := List.getElem_of_mem ha
  obtain ⟨j, hj, rfl⟩ := List.getElem_of_mem hb
  rcases Nat.lt_trichotomy i j with e | e | e
  · have : Lt (L[i]) (L[j]) := List.pairwise_iff_getElem.1 hs i j hi hj e
    unfold Lt at this; rw [h, cmpP_zero.2 rfl] at this; omega
  · subst e; rfl
  · have : Lt (L[j]) (L[i]) := List.pairwise_iff_getElem.1 hs j i hj hi e
    unfold Lt at this; rw [h, cmpP_zero.2 rfl] at this; omega
theorem findOk_mem {L : List Ent} (hs : L.Pairwise Lt) {e : Ent} (he : e ∈ L) : L.getD (findI L e.path) default = e := by
  obtain ⟨hi, h⟩ := findOk_get ((findOk_iff hs e.path).2 ⟨e, he, rfl⟩)
  rw [show L.getD (findI L e.path) default = L[findI L e.path] from by simp [List.getD, hi]]
  exact sorted_inj hs (List.getElem_mem hi) he h
end Go.Tm
