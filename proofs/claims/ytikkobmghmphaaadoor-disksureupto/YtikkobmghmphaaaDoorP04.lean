/- Part 4 of the proof: what the operations of the model do to values as Lean sees them, and plain laws. -/
import Derived.Test.YtikkobmghmphaaaDoorP03
namespace Go.Av
open Go

/-- What is still to be done: code; the end of a block; a loop's head, where this must hold. -/
inductive Fr where
  | code (c : Code)
  | blk (id : Nat)
  | inv (I : Env → Hp → Nat → Prop)

def unw : List Fr → Nat → Option (List Fr)
  | [], _ => none
  | .blk k :: s, id => match Nat.beq id k with | true => some s | false => unw s id
  | .code _ :: s, id => unw s id
  | .inv _ :: s, id => unw s id

def kOf (P : Program) (n n0 : Nat) : List Fr → Kont → Kont
  | [], K => K
  | .code c :: s, K => kseq (W P n n0 c (kOf P n n0 s K)) (kOf P n n0 s K)
  | .blk id :: s, K => kblk id (kOf P n n0 s K)
  | .inv I :: s, K => kseq I (kOf P n n0 s K)

def Wst (P : Program) (n n0 : Nat) (s : List Fr) (K : Kont) (env : Env) (hp : Hp) (nx : Nat) : Prop := kOf P n n0 s K .normal env hp nx

section
variable {P : Program} {n n0 : Nat} {env : Env} {hp : Hp} {nx : Nat} {K : Kont} {s s' : List Fr}

theorem kOf_exit : ∀ {s : List Fr} {id : Nat} {s' : List Fr}, unw s id = some s' → Wst P n n0 s' K env hp nx → kOf P n n0 s K (.exit id) env hp nx
  | [], id, s', h, _ => by simp [unw] at h
  | .code c :: s, id, s', h, hw => by simp only [kOf, kseq]; exact kOf_exit (s := s) h hw
  | .inv I :: s, id, s', h, hw => by simp only [kOf, kseq]; exact kOf_exit (s := s) h hw
  | .blk k :: s, id, s', h, hw => by
    simp only [unw] at h
    simp only [kOf, kblk]
    cases hb : Nat.beq id k
    · rw [hb] at h; exact kOf_exit (s := s) h hw
    · rw [hb] at h; cases h; exact hw
theorem kOf_ret : ∀ {s : List Fr}, K .ret env hp nx → kOf P n n0 s K .ret env hp nx
  | [], h => h
  | .code c :: s, h => by simp only [kOf, kseq]; exact kOf_ret (s := s) h
  | .inv I :: s, h => by simp only [kOf, kseq]; exact kOf_ret (s := s) h
  | .blk k :: s, h => by simp only [kOf, kblk]; exact kOf_ret (s := s) h

/-- Where the walk stands. -/
inductive Cfg where
  | st (s : List Fr) (env : Env) (hp : Hp) (nx : Nat)
  | rg (ops : Array Oper) (l : List Oper) (s : List Fr) (env : Env) (hp : Hp) (nx : Nat)

def Wc (P : Program) (n n0 : Nat) (K : Kont) : Cfg → Prop
  | .st s env hp nx => Wst P n n0 s K env hp nx
  | .rg ops l s env hp nx => Wo P n n0 ops l (kOf P n n0 s K) env hp nx

/-- One step, if the program that walks knows it. -/
def stepC (T : FTab) (n : Nat) : Cfg → Option Cfg
  | .st [] _ _ _ => none
  | .st (.blk _ :: s) env hp nx => some (.st s env hp nx)
  | .st (.inv _ :: _) _ _ _ => none
  | .st (.code c :: s) env hp nx => match c with
    | .skip => some (.st s env hp nx)
    | .label _ => some (.st s env hp nx)
    | .seq a b => some (.st (.code a :: .code b :: s) env hp nx)
    | .block id b => some (.st (.code b :: .blk id :: s) env hp nx)
    | .exit id => match unw s id with | some s' => some (.st s' env hp nx) | none => none
    | .cond c x y => match evO env c with
      | some (.bool true) => some (.st (.code x :: s) env hp nx)
      | some (.bool false) => some (.st (.code y :: s) env hp nx)
      | _ => none
    | .region _ ops false => some (.rg ops ops.toList s env hp nx)
    | _ => none
  | .rg _ [] s env hp nx => some (.st s env hp nx)
  | .rg ops (o :: l) s env hp nx => match wantA ops env o with
    | some true => match stepA T o env hp nx with
      | some (av, hp', nx') => match o.dst with
        | some d => match Nat.blt d n with | true => some (.rg ops l s ((d, av) :: env) hp' nx') | false => none
        | none => some (.rg ops l s env hp' nx')
      | none => none
    | some false => match o.dst with
      | some d => match Nat.blt d n with | true => some (.rg ops l s ((d, .tuple []) :: env) hp nx) | false => none
      | none => some (.rg ops l s env hp nx)
    | none => none

def runC (T : FTab) (n : Nat) : Nat → Cfg → Cfg
  | 0, c => c
  | k + 1, c => match stepC T n c with
    | some c' => runC T n k c'
    | none => c

theorem W_region' {id : Nat} {ops : Array Oper} (h : Wo P n n0 ops ops.toList K env hp nx) : W P n n0 (.region id ops false) K env hp nx :=
  fun C ρ w a hs => wp_region_list (h C ρ w a hs)

theorem stepC_sound {T : FTab} (hT : FTabOk P T) {c c' : Cfg} (h : stepC T n c = some c') (hc : Wc P n n0 K c') : Wc P n n0 K c := by
  unfold stepC at h
  split at h <;> try (cases h; done)
  · cases h; exact hc
  · rename_i c s env hp nx
    split at h <;> try (cases h; done)
    · cases h; exact W_skip hc
    · cases h; exact W_label hc
    · cases h; exact W_seq hc
    · cases h; exact W_block hc
    · split at h <;> try (cases h; done)
      rename_i hu
      cases h; exact W_exit (kOf_exit hu hc)
    · split at h <;> try (cases h; done)
      · rename_i hb; cases h; exact W_cond_true hb hc
      · rename_i hb; cases h; exact W_cond_false hb hc
    · cases h; exact W_region' hc
  · cases h; exact Wo_nil hc
  · rename_i ops o l s env hp nx
    split at h <;> try (cases h; done)
    · rename_i hw
      split at h <;> try (cases h; done)
      rename_i av hp' nx' hst
      have ho := stepA_sound (n := n) (n0 := n0) hT hst
      split at h
      · rename_i d hd
        split at h <;> try (cases h; done)
        rename_i hdn
        cases h; exact Wo_step ho hw hd hdn hc
      · rename_i hd
        cases h; exact Wo_step0 ho hw hd hc
    · rename_i hw
      split at h
      · rename_i d hd
        split at h <;> try (cases h; done)
        rename_i hdn
        cases h; exact Wo_off hw hd hdn hc
      · rename_i hd
        cases h; exact Wo_off0 hw hd hc

theorem runC_sound {T : FTab} (hT : FTabOk P T) : ∀ (k : Nat) {c : Cfg}, Wc P n n0 K (runC T n k c) → Wc P n n0 K c
  | 0, c, h => h
  | k + 1, c, h => by
    simp only [runC] at h
    cases hs : stepC T n c with
    | none => rw [hs] at h; exact h
    | some c' => rw [hs] at h; exact stepC_sound hT hs (runC_sound hT k h)

/-- AS FAR AS IT GOES BY ITSELF. -/
theorem go {T : FTab} (hT : FTabOk P T) {c c' : Cfg} (k : Nat) (h : runC T n k c = c') (hc : Wc P n n0 K c') : Wc P n n0 K c :=
  runC_sound hT k (by rw [h]; exact hc)

theorem go_rg {T : FTab} (hT : FTabOk P T) {c : Cfg} (k : Nat) {ops l s env hp nx} (h : runC T n k c = .rg ops l s env hp nx) (hc : Wc P n n0 K (.rg ops l s env hp nx)) : Wc P n n0 K c := go hT k h hc
theorem go_st {T : FTab} (hT : FTabOk P T) {c : Cfg} (k : Nat) {s env hp nx} (h : runC T n k c = .st s env hp nx) (hc : Wc P n n0 K (.st s env hp nx)) : Wc P n n0 K c := go hT k h hc

/-- Out of a guard's or a test's two ways. -/
theorem c_split {ops : Array Oper} {l : List Oper} (t : Nat) {b : Bool} (h : get env t = some (.sb b)) (ht : b = true → Wc P n n0 K (.rg ops l s ((t, .bool true) :: env) hp nx))
    (hf : b = false → Wc P n n0 K (.rg ops l s ((t, .bool false) :: env) hp nx)) : Wc P n n0 K (.rg ops l s env hp nx) := Wo_split h ht hf
theorem c_cond {c : Operand} {x y : Code} {b : Bool} (hc : evO env c = some (.sb b)) (ht : b = true → Wc P n n0 K (.st (.code x :: s) env hp nx)) (hf : b = false → Wc P n n0 K (.st (.code y :: s) env hp nx)) :
    Wc P n n0 K (.st (.code (.cond c x y) :: s) env hp nx) := W_cond hc ht hf
theorem c_ret (h : K .ret env hp nx) : Wc P n n0 K (.st (.code .ret :: s) env hp nx) := W_ret (kOf_ret h)
theorem c_end (h : K .normal env hp nx) : Wc P n n0 K (.st [] env hp nx) := h
theorem c_inv {I : Env → Hp → Nat → Prop} (h : I env hp nx) : Wc P n n0 K (.st (.inv I :: s) env hp nx) := h

theorem c_op {ops : Array Oper} {o : Oper} {l : List Oper} {d : Nat} {av : AV} {hp' : Hp} {nx' : Nat} (ho : OpS P n n0 o env hp nx av hp' nx') (hw : wantA ops env o = some true)
    (hd : o.dst = some d) (hdn : Nat.blt d n = true) (h : Wc P n n0 K (.rg ops l s ((d, av) :: env) hp' nx')) : Wc P n n0 K (.rg ops (o :: l) s env hp nx) := Wo_step ho hw hd hdn h
theorem c_op0 {ops : Array Oper} {o : Oper} {l : List Oper} {av : AV} {hp' : Hp} {nx' : Nat} (ho : OpS P n n0 o env hp nx av hp' nx') (hw : wantA ops env o = some true)
    (hd : o.dst = none) (h : Wc P n n0 K (.rg ops l s env hp' nx')) : Wc P n n0 K (.rg ops (o :: l) s env hp nx) := Wo_step0 ho hw hd h

theorem c_call {ops : Array Oper} {o : Oper} {l : List Oper} {c : Call} {x : Operand} {f g : FuncId} {caps as : List AV} {r : AV} {d : Nat} (hc : PureC P g (as ++ caps) r) (ho : o.op = .call c) (hcal : c.callee = .value x)
    (hx : evO env x = some (.func (.func f) [] caps)) (has : evL env c.args.toList = some as) (hcf : CallsTo P f g)
    (hw : wantA ops env o = some true) (hd : o.dst = some d) (hdn : Nat.blt d n = true) (hnid : AV.nids (as ++ caps) = true) 
    (h : Wc P n n0 K (.rg ops l s ((d, r) :: env) hp nx)) : Wc P n n0 K (.rg ops (o :: l) s env hp nx) :=
  Wo_pure ho hcal hx (by rw [evL_mapM]; exact has) hcf hc hw hd hdn hnid h
theorem c_callS {ops : Array Oper} {o : Oper} {l : List Oper} {c : Call} {x : Operand} {f g : FuncId} {caps as as' : List AV} {r : AV} {d : Nat} (hc : PureC P g as' r) (ho : o.op = .call c) (hcal : c.callee = .value x)
    (hx : evO env x = some (.func (.func f) [] caps)) (has : evL env c.args.toList = some as) (hcf : CallsTo P f g) (hsn : AV.snaps hp (as ++ caps) = as')
    (hcl : closedL hp) (hsc : r.scal = true) (hw : wantA ops env o = some true) (hd : o.dst = some d) (hdn : Nat.blt d n = true) (hnid : AV.nids as' = true) 
    (h : Wc P n n0 K (.rg ops l s ((d, r) :: env) hp nx)) : Wc P n n0 K (.rg ops (o :: l) s env hp nx) :=
  Wo_pureS ho hcal hx (by rw [evL_mapM]; exact has) hcf hsn hc hcl hsc hw hd hdn hnid h

/-- Other words for a temporary's value. -/
theorem c_say {ops : Array Oper} {l : List Oper} (t : Nat) {av : AV} (av' : AV) (ht : get env t = some av) (hq : av = av') (h : Wc P n n0 K (.rg ops l s ((t, av') :: env) hp nx)) : Wc P n n0 K (.rg ops l s env hp nx) :=
  fun C ρ w a hs => h C ρ w a (hs.say ht fun v hv => by subst hq; exact hv)
theorem c_eptr {ops : Array Oper} {l : List Oper} (t : Nat) {id sz idx sub} (ht : get env t = some (.eptr id sz idx sub)) (h : Wc P n n0 K (.rg ops l s ((t, .ptr id sz idx sub) :: env) hp nx)) : Wc P n n0 K (.rg ops l s env hp nx) :=
  fun C ρ w a hs => h C ρ w a (hs.say ht fun v hv => by simpa only [VR] using hv)

/-- A loop. -/
theorem c_loop {ι : Type} {c : Code} (E : ι → Env) (H : ι → Hp) (nx0 : Nat) (μ : ι → Nat) (i0 : ι) (m : List Nat) (h0 : Emb m n0 nx0 (E i0) (H i0) env hp nx)
    (round : ∀ i, Wc P n n0 K (.st (.code c :: .inv (fun env hp nx => ∃ j m, μ j < μ i ∧ Emb m n0 nx0 (E j) (H j) env hp nx) :: s) (E i) (H i) nx0)) :
    Wc P n n0 K (.st (.code (.loop c) :: s) env hp nx) := by
  refine W_loop E H nx0 μ i0 m h0 fun i => ?_
  refine W.mono (round i) ?_
  intro e env hp nx h
  cases e <;> simpa only [kOf, kseq] using h

theorem PureC.of_c {T : Tab} (hT : TabOk P T) {f : FuncId} {fn : Func} {c : Code} {args : List AV} {r : AV} (hf : P.funcs[f]? = some fn) (hb : fn.body = some c) {k : Nat} (hk : fn.ntmps = k) (hn : Nat.ble args.length k = true) (hr : r.nid = true)
    (h : Wc P k 0 (kfin T fn fun r' _ _ => r' = r) (.st [.code c] (enumE 0 args) [] 0)) : PureC P f args r := by
  subst hk
  refine PureC.of_W hT hf hb hn hr (W.mono h ?_)
  intro e env hp nx h
  cases e <;> simpa only [kOf, kseq] using h
end
/-- A table by number. -/
inductive Tr where
  | nil
  | node (l : Tr) (k : Nat) (v : FI) (r : Tr)
def Tr.find : Tr → Nat → Option FI
  | .nil, _ => none
  | .node l k v r, t => match Nat.beq t k with
    | true => some v
    | false => match Nat.blt t k with
      | true => l.find t
      | false => r.find t
def Tr.Ok (P : Program) : Tr → Prop
  | .nil => True
  | .node l k v r => l.Ok P ∧ FOk P k v ∧ r.Ok P
theorem Tr.ok_find {P : Program} : ∀ {tr : Tr}, tr.Ok P → FTabOk P tr.find
  | .nil, _, t, i, h => by simp [Tr.find] at h
  | .node l k v r, ⟨hl, hk, hr⟩, t, i, h => by
    simp only [Tr.find] at h
    split at h
    · rename_i e
      have e := Nat.eq_of_beq_eq_true e
      cases h; subst e; exact hk
    · split at h
      · exact Tr.ok_find hl t i h
      · exact Tr.ok_find hr t i h
theorem FTab.tab {P : Program} {T : FTab} (h : FTabOk P T) : TabOk P (fun t => (T t).map FI.ti) := fun t i hi => by
  simp only [Option.map_eq_some_iff] at hi
  obtain ⟨f, h1, rfl⟩ := hi
  exact (h t f h1).ok

end Go.Av
namespace Go.Av
open Go

/-- A contract's name in its caller's words. -/
def mg (m : List Nat) (nx : Nat) (i : Nat) : Nat := match m[i]? with | some k => k | none => Nat.add nx (Nat.sub i m.length)
def renH (m : Nat → Nat) : Hp → Hp
  | [] => []
  | (i, b) :: l => (m i, b.ren m) :: renH m l
def deadH : List Nat → Hp → Hp
  | [], hp => hp
  | i :: l, hp => (i, .dead) :: deadH l hp
def appH : Hp → Hp → Hp
  | [], hp => hp
  | x :: l, hp => x :: appH l hp

/-- The caller's memory behind the call. -/
def backH (m : List Nat) (nx : Nat) (hp hp' : Hp) : Hp := appH (renH (mg m nx) hp') (deadH m hp)

theorem get_renH {m : Nat → Nat} (hm : ∀ i j, m i = m j → i = j) : ∀ (h : Hp) (i : Nat), get (renH m h) (m i) = (get h i).map (Blk.ren m)
  | [], i => rfl
  | (k, b) :: l, i => by
    rw [renH, get_cons, get_cons, get_renH hm l i]
    by_cases e : k = i
    · subst e; simp
    · rw [if_neg e, if_neg (fun h => e (hm _ _ h))]
theorem get_renH_none {m : Nat → Nat} {j : Nat} (hj : ∀ i, m i ≠ j) : ∀ (h : Hp), get (renH m h) j = none
  | [] => rfl
  | (k, b) :: l => by rw [renH, get_cons, if_neg (hj k), get_renH_none hj l]
theorem get_appH : ∀ (a b : Hp) (i : Nat), get (appH a b) i = match get a i with | some x => some x | none => get b i
  | [], b, i => rfl
  | (k, x) :: l, b, i => by
    rw [appH, get_cons, get_cons, get_appH l b i]
    by_cases e : k = i <;> simp [e]
theorem get_deadH : ∀ (m : List Nat) (hp : Hp) (i : Nat), get (deadH m hp) i = if i ∈ m then some .dead else get hp i
  | [], hp, i => by simp [deadH]
  | k :: l, hp, i => by
    rw [deadH, get_cons, get_deadH l hp i]
    by_cases e : k = i
    · subst e; simp
    · rw [if_neg e]
      have : ¬ i = k := fun h => e h.symm
      simp [this]

theorem live_ren {b : Blk} {m : Nat → Nat} {b' : Blk} (h : live (some (b.ren m)) = some b') : live (some b) = some b ∧ b' = b.ren m := by
  cases b <;> simp [Blk.ren, live] at h ⊢ <;> exact h.symm

theorem get_backH {m : List Nat} {nx : Nat} {hp hp' : Hp} (hinj : ∀ i j, mg m nx i = mg m nx j → i = j) {id : Nat} {b : Blk} (h : getB (backH m nx hp hp') id = some b) :
    (∃ i b0, id = mg m nx i ∧ getB hp' i = some b0 ∧ b = b0.ren (mg m nx)) ∨ (id ∉ m ∧ getB hp id = some b) := by
  unfold getB backH at h
  rw [get_appH] at h
  by_cases he : ∃ i, mg m nx i = id
  · obtain ⟨i, rfl⟩ := he
    rw [get_renH hinj] at h
    cases hg : get hp' i with
    | some b0 =>
      rw [hg] at h
      simp only [Option.map_some] at h
      obtain ⟨h1, h2⟩ := live_ren h
      exact .inl ⟨i, b0, rfl, by unfold getB; rw [hg]; exact h1, h2⟩
    | none =>
      rw [hg] at h
      simp only [Option.map_none] at h
      rw [get_deadH] at h
      split at h
      · simp [live] at h
      · rename_i hni; exact .inr ⟨hni, h⟩
  · rw [get_renH_none (fun i hi => he ⟨i, hi⟩)] at h
    simp only at h
    rw [get_deadH] at h
    split at h
    · simp [live] at h
    · rename_i hni; exact .inr ⟨hni, h⟩


theorem getB_backH {m : List Nat} {nx : Nat} {h hp' : Hp} {id : Nat} : getB (backH m nx h hp') id = match get (renH (mg m nx) hp') id with | some x => live (some x) | none => if id ∈ m then none else getB h id := by
  unfold getB backH
  rw [get_appH]
  cases get (renH (mg m nx) hp') id with
  | some x => rfl
  | none =>
    simp only
    rw [get_deadH]
    split <;> rfl
end Go.Av
namespace Go.Av
open Go

section
variable {P : Program} {n n0 : Nat} {env : Env} {hp : Hp} {nx : Nat} {K : Kont} {s : List Fr}

/-- An operation, or a call, that leaves what was there alone. -/
def OpQ (P : Program) (n n0 : Nat) (o : Oper) (env : Env) (hp : Hp) (nx : Nat) (av : AV) : Prop :=
  ∀ C ρ w a, SRel C n n0 env hp nx ρ w a → ∀ (Kr : Act → World → Prop) (Q : Exit → Act → World → Prop),
    (∀ v w', Pres (fun _ => False) w w' → VR w' (XX C.ex hp ρ) ρ av v → Kr (a.put o.dst v) w') → o.wp P a w Kr Q

/-- What an operation, or a call, does: the memory may turn. -/
def OpE (P : Program) (n n0 : Nat) (o : Oper) (env : Env) (hp : Hp) (nx : Nat) (R : AV → Hp → Nat → Prop) : Prop :=
  ∀ C ρ w a, SRel C n n0 env hp nx ρ w a → ∀ (Kr : Act → World → Prop) (Q : Exit → Act → World → Prop),
    (∀ v w' ρ' av hp' nx', R av hp' nx' → SRel C n n0 env hp' nx' ρ' w' a → VR w' (XX C.ex hp' ρ') ρ' av v → (∀ x u, VR w (XX C.ex hp ρ) ρ x u → VR w' (XX C.ex hp' ρ') ρ' x u) → Kr (a.put o.dst v) w') → o.wp P a w Kr Q

/-- As OpE; and the names that there were stay where they are. -/
def OpR (P : Program) (n n0 : Nat) (o : Oper) (env : Env) (hp : Hp) (nx : Nat) (R : AV → Hp → Nat → Prop) : Prop :=
  ∀ C ρ w a, SRel C n n0 env hp nx ρ w a → ∀ (Kr : Act → World → Prop) (Q : Exit → Act → World → Prop),
    (∀ v w' ρ' av hp' nx', R av hp' nx' → SRel C n n0 env hp' nx' ρ' w' a → VR w' (XX C.ex hp' ρ') ρ' av v → (∀ x u, VR w (XX C.ex hp ρ) ρ x u → VR w' (XX C.ex hp' ρ') ρ' x u) → (∀ i, i < nx → ρ' i = ρ i) → Kr (a.put o.dst v) w') → o.wp P a w Kr Q
theorem OpR.e {o : Oper} {R : AV → Hp → Nat → Prop} (h : OpR P n n0 o env hp nx R) : OpE P n n0 o env hp nx R :=
  fun C ρ w a hs Kr Q hk => h C ρ w a hs Kr Q fun v w' ρ' av hp' nx' h1 h2 h3 h4 _ => hk v w' ρ' av hp' nx' h1 h2 h3 h4
theorem OpR.mono {o : Oper} {R R' : AV → Hp → Nat → Prop} (h : OpR P n n0 o env hp nx R) (hR : ∀ av hp nx, R av hp nx → R' av hp nx) : OpR P n n0 o env hp nx R' :=
  fun C ρ w a hs Kr Q hk => h C ρ w a hs Kr Q fun v w' ρ' av hp' nx' h1 h2 h3 h4 h5 => hk v w' ρ' av hp' nx' (hR _ _ _ h1) h2 h3 h4 h5

theorem OpS.e {o : Oper} {av : AV} {hp' : Hp} {nx' : Nat} (h : OpS P n n0 o env hp nx av hp' nx') : OpE P n n0 o env hp nx (fun a h x => a = av ∧ h = hp' ∧ x = nx') := by
  intro C ρ w a hs Kr Q hk
  obtain ⟨v, w', ρ', hrun, hs', hv, _, hkeep⟩ := h C ρ w a hs
  have := hk v w' ρ' av hp' nx' ⟨rfl, rfl, rfl⟩ hs' hv hkeep
  unfold Oper.wp
  rcases hrun with hrun | ⟨hrun, rfl⟩
  · rw [hrun]; exact this
  · rw [hrun]; exact this

theorem OpS.q {o : Oper} {av : AV} (h : OpS P n n0 o env hp nx av hp nx) : OpQ P n n0 o env hp nx av := by
  intro C ρ w a hs Kr Q hk
  obtain ⟨v, w', ρ', hrun, hs', hv, hw, _⟩ := h C ρ w a hs
  obtain ⟨rfl, rfl⟩ := hw rfl
  unfold Oper.wp
  rcases hrun with hrun | ⟨hrun, rfl⟩
  · rw [hrun]; exact hk v w' (Pres.refl _ _) hv
  · rw [hrun]; exact hk _ w' (Pres.refl _ _) hv

theorem OpQ.call {o : Oper} {c : Call} {x : Operand} {f g : FuncId} {caps as : List AV} {r : AV} (hc : PureC P g (as ++ caps) r) (ho : o.op = .call c) (hcal : c.callee = .value x)
    (hx : evO env x = some (.func (.func f) [] caps)) (has : evL env c.args.toList = some as) (hcf : CallsTo P f g) (hnid : AV.nids (as ++ caps) = true) : OpQ P n n0 o env hp nx r := by
  intro C ρ w a hs Kr Q hk
  unfold Oper.wp
  obtain ⟨argv, hrun, hv⟩ := run_call (P := P) hs ho hcal hx hcf (by rw [evL_mapM]; exact has)
  rw [hrun]
  simp only [Oper.upon]
  refine (hc w (XX C.ex hp ρ) argv ?_ (VRs_nid _ _ hnid hv)).mono ?_
  · rintro b (hb | ⟨id, bb, base, h1, h2⟩)
    · exact hs.exo b hb
    · exact (hs.own id bb b base h1 h2).2.2
  · rintro e w' ⟨v, rfl, hP, hv'⟩
    exact hk v w' hP (VR_none hv')

theorem OpQ.callS {o : Oper} {c : Call} {x : Operand} {f g : FuncId} {caps as as' : List AV} {r : AV} (hc : PureC P g as' r) (ho : o.op = .call c) (hcal : c.callee = .value x)
    (hx : evO env x = some (.func (.func f) [] caps)) (has : evL env c.args.toList = some as) (hcf : CallsTo P f g) (hsn : AV.snaps hp (as ++ caps) = as') (hcl : closedL hp) (hsc : r.scal = true)
    (hnid : AV.nids as' = true) : OpQ P n n0 o env hp nx r := by
  intro C ρ w a hs Kr Q hk
  unfold Oper.wp
  obtain ⟨argv, hrun, hv⟩ := run_call (P := P) hs ho hcal hx hcf (by rw [evL_mapM]; exact has)
  rw [hrun]
  simp only [Oper.upon]
  have hv2 := snaps_sound hs.toHRel (hp0 := hp) (fun _ _ h => h) hcl (X' := fun _ => False) (fun _ _ h => h.elim) (fun _ _ _ _ _ _ h => h) _ _ hv
  rw [hsn] at hv2
  refine (hc w (fun _ => False) argv (fun _ h => h.elim) (VRs_nid _ _ hnid hv2)).mono ?_
  rintro e w' ⟨v, rfl, hP, hv'⟩
  exact hk v w' hP (VR_scal hsc hv')

/-- Less is said of what is owned. -/
theorem SRel.drop {C ρ w a} (hs : SRel C n n0 env hp nx ρ w a) {hp2 : Hp} {env2 : Env} (hsub : ∀ id b, getB hp2 id = some b → getB hp id = some b)
    (henv : ∀ t av, get env2 t = some av → ∃ v, a.tmps[t]? = some v ∧ VR w (XX C.ex hp ρ) ρ av v) :
    SRel { C with ex := fun r => XX C.ex hp ρ r ∧ ¬ Owned hp2 ρ r } n n0 env2 hp2 nx ρ w a ∧
      (∀ r, XX (fun r => XX C.ex hp ρ r ∧ ¬ Owned hp2 ρ r) hp2 ρ r ↔ XX C.ex hp ρ r) := by
  have hiff : ∀ r, XX (fun r => XX C.ex hp ρ r ∧ ¬ Owned hp2 ρ r) hp2 ρ r ↔ XX C.ex hp ρ r := by
    intro r
    constructor
    · rintro (h | ⟨id, b, base, h1, h2⟩)
      · exact h.1
      · exact .inr ⟨id, b, base, hsub id b h1, h2⟩
    · intro h
      by_cases ho : Owned hp2 ρ r
      · exact .inr ho
      · exact .inl ⟨h, ho⟩
  have hm : ∀ (X : AV) (v : Value), VR w (XX C.ex hp ρ) ρ X v → VR w (XX (fun r => XX C.ex hp ρ r ∧ ¬ Owned hp2 ρ r) hp2 ρ) ρ X v :=
    fun X v => VR.mono (Pres.refl (fun _ => False) w) (fun _ _ h => h.elim) (fun r _ h => (hiff r).1 h) (fun _ _ h => h) X v
  refine ⟨{ blk := fun id b h => ?_, inj := fun id id' b b' r base base' h1 h2 => hs.inj id id' b b' r base base' (hsub _ _ h1) (hsub _ _ h2), own := fun id b r base h1 h2 => ?_, exo := fun r hr => ?_, fresh := hs.fresh, pres := hs.pres, base := hs.base, le := hs.le, env := fun t av ht => ?_, size := hs.size, defers := hs.defers }, hiff⟩
  · obtain ⟨p, h1, h2⟩ := hs.blk id b (hsub id b h)
    exact ⟨p, h1, BR.mono (Pres.refl (fun _ => False) w) (fun _ _ h => h.elim) (fun r _ h => (hiff r).1 h) (fun _ _ h => h) b p (fun _ _ _ => rfl) h2⟩
  · have := hs.own id b r base (hsub id b h1) h2
    exact ⟨this.1, fun h => h.2 ⟨id, b, base, h1, h2⟩, this.2.2⟩
  · rcases hr.1 with h | ⟨id, b, base, h1, h2⟩
    · exact hs.exo r h
    · exact (hs.own id b r base h1 h2).2.2
  · obtain ⟨v, h1, h2⟩ := henv t av ht
    exact ⟨v, h1, hm av v h2⟩

/- A REGION WHOSE ORDER IS OPEN. -/
inductive Kd where
  | off
  | p
  | q
  | al (mk : Nat → AV) (blk : Blk)
  | ef (hp : Hp) (nx : Nat)
  | rn (m : List Nat) (nxc : Nat) (hp : Hp) (nx : Nat)

structure Rec where
  kd : Kd
  dst : Option Nat
  av : AV

def isP : Kd → Bool
  | .off | .p => true
  | _ => false
def isEf : Kd → Bool
  | .ef _ _ => true
  | .rn _ _ _ _ => true
  | _ => false
def isAl : Kd → Bool
  | .al _ _ => true
  | _ => false
def isE : Kd → Bool
  | .ef _ _ => true
  | _ => false

/-- The sayings of the chosen operations. -/
def bnd (sel : Nat → Bool) : Nat → List Rec → Env → Env
  | _, [], e => e
  | k, r :: l, e => bnd sel (Nat.succ k) l (match sel k, r.dst with
    | true, some d => (d, r.av) :: e
    | _, _ => e)
/-- Their blocks; what they have done. -/
def hpB (sel : Nat → Bool) (nx0 : Nat) : Nat → List Rec → Hp → Hp
  | _, [], h => h
  | k, r :: l, h => hpB sel nx0 (Nat.succ k) l (match sel k, r.kd with
    | true, .al _ b => (Nat.add nx0 k, b) :: h
    | true, .ef hp _ => hp
    | true, .rn m nxc hp _ => backH m nxc h hp
    | _, _ => h)
def nxB (sel : Nat → Bool) : Nat → List Rec → Nat → Nat
  | _, [], x => x
  | k, r :: l, x => nxB sel (Nat.succ k) l (match sel k, r.kd with
    | true, .ef _ y => y
    | true, .rn _ _ _ y => y
    | _, _ => x)

def maskOf (ms : List Nat) (o : Oper) : Nat :=
  o.after.toList.foldl (fun m e => match Region.binds .any e with
    | true => Nat.lor m (Nat.lor (Nat.shiftLeft 1 e.on) ((ms[e.on]?).getD 0))
    | false => m) 0

def dstsOf (l : List Oper) : List Nat := l.filterMap (·.dst)
def strip (ds : List Nat) : Env → Env
  | [] => []
  | (t, v) :: r => match ds.any (Nat.beq t ·) with | true => strip ds r | false => (t, v) :: strip ds r

def forceN {β : Type} (m : Nat) (k : Nat → β) : β := match m with | 0 => k 0 | m + 1 => k (m + 1)
theorem forceN_eq {β : Type} (m : Nat) (k : Nat → β) : forceN m k = k m := by cases m <;> rfl
/-- Does every operation that writes t come behind operation i? -/
def keepB (i t : Nat) : List Oper → List Nat → Bool
  | [], _ => true
  | o :: l, ms => forceN (maskOf ms o) fun m => (match o.dst with
    | some d => match Nat.beq d t with | true => Nat.testBit m i | false => true
    | none => true) && keepB i t l (ms ++ [m])
/-- What stands in the temporaries when operation i comes up. -/
def stripK (ds : List Nat) (l : List Oper) (i : Nat) : Env → Env
  | [] => []
  | (t, v) :: r => match ds.any (Nat.beq t ·) with
    | true => match keepB i t l [] with | true => (t, v) :: stripK ds l i r | false => stripK ds l i r
    | false => (t, v) :: stripK ds l i r

/-- All but what only names temporaries has come up before. -/
def allB (f : Rec → Bool) (m : Nat) : Nat → List Rec → Bool
  | _, [] => true
  | k, r :: l => (f r || Nat.testBit m k) && allB f m (Nat.succ k) l

/-- No name of a block that may or may not be there. -/
def okM (mm : List Nat) (nx0 m : Nat) : Nat → List Rec → Bool
  | _, [] => true
  | k, r :: l => (!isAl r.kd || (Nat.testBit m k || !(mm.any (Nat.beq (Nat.add nx0 k))))) && okM mm nx0 m (Nat.succ k) l

def FactK (P : Program) (n n0 : Nat) (ops : Array Oper) (nx0 N : Nat) (env0 : Env) (hp0 : Hp) (acc : List Rec) (m : Nat) (o : Oper) (r : Rec) : Prop :=
  r.dst = o.dst ∧ (match o.dst with | some d => Nat.blt d n | none => true) = true ∧
  match r.kd with
  | .off => wantA ops (bnd (Nat.testBit m) 0 acc env0) o = some false ∧ r.av = .tuple []
  | .p => wantA ops (bnd (Nat.testBit m) 0 acc env0) o = some true ∧ ∀ hp nx, OpQ P n n0 o (bnd (Nat.testBit m) 0 acc env0) hp nx r.av
  | .q => wantA ops (bnd (Nat.testBit m) 0 acc env0) o = some true ∧ allB (fun r => !isEf r.kd) m 0 acc = true ∧
      OpQ P n n0 o (bnd (Nat.testBit m) 0 acc env0) (hpB (Nat.testBit m) nx0 0 acc hp0) (nxB (fun _ => true) 0 acc (Nat.add nx0 N)) r.av
  | .al mk blk => wantA ops (bnd (Nat.testBit m) 0 acc env0) o = some true ∧ (acc.all fun r => !isEf r.kd) = true ∧ r.av = mk (Nat.add nx0 acc.length) ∧
      ∀ hp nx, OpAl P n n0 o (bnd (Nat.testBit m) 0 acc env0) hp nx mk blk
  | .ef hp' nx' => wantA ops (bnd (Nat.testBit m) 0 acc env0) o = some true ∧ allB (fun r => isP r.kd) m 0 acc = true ∧
      OpE P n n0 o (bnd (Nat.testBit m) 0 acc env0) (hpB (fun _ => true) nx0 0 acc hp0) (nxB (fun _ => true) 0 acc (Nat.add nx0 N)) (fun a h x => a = r.av ∧ h = hp' ∧ x = nx')
  | .rn mm nxc hp' nx' => wantA ops (bnd (Nat.testBit m) 0 acc env0) o = some true ∧ allB (fun r => isP r.kd || isAl r.kd) m 0 acc = true ∧ nxc = nxB (fun _ => true) 0 acc (Nat.add nx0 N) ∧ Nat.ble (Nat.add nx0 N) nxc = true ∧ Nat.ble nxc nx' = true ∧ okM mm nx0 m 0 acc = true ∧
      ∀ h, (∀ id ∈ mm, getB h id = getB (hpB (Nat.testBit m) nx0 0 acc hp0) id) → OpR P n n0 o (bnd (Nat.testBit m) 0 acc env0) h nxc (fun a h' x => a = r.av ∧ h' = backH mm nxc h hp' ∧ x = nx')

def Facts (P : Program) (n n0 : Nat) (ops : Array Oper) (nx0 N : Nat) (E : Nat → Env) (hp0 : Hp) (fin : List Rec → Prop) : List Oper → List Nat → List Rec → Prop
  | [], _, acc => fin acc
  | o :: l, ms, acc => ∃ r, FactK P n n0 ops nx0 N (E ms.length) hp0 acc (maskOf ms o) o r ∧ Facts P n n0 ops nx0 N E hp0 fin l (ms ++ [maskOf ms o]) (acc ++ [r])

/-- The masks of a region's operations. -/
def masks : List Oper → List Nat → List Nat
  | [], ms => ms
  | o :: l, ms => masks l (ms ++ [maskOf ms o])

theorem masks_len : ∀ (l : List Oper) (ms : List Nat), (masks l ms).length = ms.length + l.length
  | [], ms => by simp [masks]
  | o :: l, ms => by simp [masks, masks_len l]; omega
theorem masks_pre : ∀ (l : List Oper) (ms : List Nat) (i : Nat), i < ms.length → (masks l ms)[i]? = ms[i]?
  | [], ms, i, h => rfl
  | o :: l, ms, i, h => by rw [masks, masks_pre l _ i (by simp; omega), List.getElem?_append_left h]
theorem masks_get : ∀ (l : List Oper) (ms : List Nat) (i : Nat) (o : Oper), l[i]? = some o → (masks l ms)[ms.length + i]? = some (maskOf ((masks l ms).take (ms.length + i)) o)
  | [], ms, i, o, h => by simp at h
  | o' :: l, ms, 0, o, h => by
    simp at h; subst h
    have ht : (masks (o' :: l) ms).take ms.length = ms := by
      apply List.ext_getElem?
      intro k
      rw [List.getElem?_take]
      split
      · rename_i hk; exact masks_pre _ _ _ hk
      · rename_i hk; rw [List.getElem?_eq_none (by omega)]
    rw [Nat.add_zero, ht, masks, masks_pre l _ _ (by simp)]
    simp
  | o' :: l, ms, i + 1, o, h => by
    simp at h
    have := masks_get l (ms ++ [maskOf ms o']) i o h
    simp only [List.length_append, List.length_cons, List.length_nil] at this
    rw [masks, show ms.length + (i + 1) = ms.length + (0 + 1) + i from by omega]
    exact this

theorem Facts.out {ops : Array Oper} {nx0 N : Nat} {E : Nat → Env} {hp0 : Hp} {fin : List Rec → Prop} : ∀ {l : List Oper} {ms : List Nat} {acc : List Rec}, Facts P n n0 ops nx0 N E hp0 fin l ms acc → ms.length = acc.length →
    ∃ R : List Rec, R.take acc.length = acc ∧ R.length = acc.length + l.length ∧ fin R ∧
      ∀ i o, l[i]? = some o → ∃ r, R[acc.length + i]? = some r ∧ FactK P n n0 ops nx0 N (E (acc.length + i)) hp0 (R.take (acc.length + i)) (((masks l ms)[acc.length + i]?).getD 0) o r
  | [], ms, acc, h, hl => ⟨acc, by simp, by simp, h, fun i o hi => by simp at hi⟩
  | o :: l, ms, acc, ⟨r, h1, h2⟩, hl => by
    obtain ⟨R, g1, g2, g3, g4⟩ := Facts.out h2 (by simp [hl])
    simp only [List.length_append, List.length_cons, List.length_nil] at g1 g2 g4
    have hacc : R.take acc.length = acc := by
      have := congrArg (List.take acc.length) g1
      rw [List.take_take, Nat.min_eq_left (by omega)] at this
      simpa using this
    refine ⟨R, hacc, by simp [g2]; omega, g3, fun i o' hi => ?_⟩
    cases i with
    | zero =>
      simp at hi; subst hi
      have hr : R[acc.length]? = some r := by
        have : (R.take (acc.length + (0 + 1)))[acc.length]? = some r := by rw [g1]; simp
        rw [List.getElem?_take] at this
        split at this
        · exact this
        · cases this
      refine ⟨r, hr, ?_⟩
      rw [Nat.add_zero, hacc]
      rw [hl] at h1
      have hm := masks_get (o :: l) ms 0 o rfl
      rw [Nat.add_zero, hl] at hm
      have ht : (masks (o :: l) ms).take acc.length = ms := by
        apply List.ext_getElem?
        intro k
        rw [List.getElem?_take]
        split
        · rename_i hk; exact masks_pre _ _ _ (by omega)
        · rename_i hk; rw [List.getElem?_eq_none (by omega)]
      rw [hm, ht]
      exact h1
    | succ i =>
      simp at hi
      obtain ⟨r', k1, k2⟩ := g4 i o' hi
      rw [show acc.length + (0 + 1) + i = acc.length + (i + 1) from by omega] at k1 k2
      exact ⟨r', k1, k2⟩
end
end Go.Av
namespace Go.Av
open Go

section
variable {P : Program} {n n0 : Nat} {env : Env} {hp : Hp} {nx : Nat} {K : Kont} {s : List Fr}

theorem get_bnd {sel : Nat → Bool} : ∀ {l : List Rec} {k : Nat} {e : Env} {t av}, get (bnd sel k l e) t = some av →
    (∃ (j : Nat) (r : Rec), l[j]? = some r ∧ sel (k + j) = true ∧ r.dst = some t ∧ r.av = av) ∨ get e t = some av
  | [], k, e, t, av, h => .inr h
  | r :: l, k, e, t, av, h => by
    rcases get_bnd (l := l) (k := Nat.succ k) h with ⟨j, r', h1, h2, h3⟩ | h2
    · exact .inl ⟨j + 1, r', by simpa using h1, by rw [show k + (j + 1) = Nat.succ k + j from by omega]; exact h2, h3⟩
    · clear h
      split at h2
      · rename_i d hs hd
        rw [get_cons] at h2
        split at h2
        · rename_i e'; subst e'; cases h2
          exact .inl ⟨0, r, rfl, hs, hd, rfl⟩
        · exact .inr h2
      · exact .inr h2

def noHp : Kd → Bool
  | .off | .p | .q => true
  | _ => false

theorem hpB_skip {sel : Nat → Bool} {nx0 : Nat} : ∀ {l : List Rec} {k : Nat} {h : Hp} {x : Nat}, (∀ (j : Nat) r, l[j]? = some r → sel (k + j) = true → noHp r.kd = true) → hpB sel nx0 k l h = h ∧ nxB sel k l x = x
  | [], k, h, x, _ => ⟨rfl, rfl⟩
  | r :: l, k, h, x, hh => by
    have h0 := hh 0 r rfl
    have ih := hpB_skip (sel := sel) (nx0 := nx0) (l := l) (k := Nat.succ k) (h := h) (x := x) (fun j r' hj hs => hh (j + 1) r' (by simpa using hj) (by rw [show k + (j + 1) = Nat.succ k + j from by omega]; exact hs))
    rw [Nat.add_zero] at h0
    simp only [hpB, nxB]
    cases hs : sel k with
    | false => simpa using ih
    | true =>
      have h1 := h0 hs
      cases hk : r.kd <;> rw [hk] at h1 <;> simp [noHp] at h1 <;> simpa using ih

theorem hpB_congr {sel sel' : Nat → Bool} {nx0 : Nat} : ∀ {l : List Rec} {k : Nat} {h : Hp} {x : Nat}, (∀ (j : Nat) r, l[j]? = some r → noHp r.kd = false → sel (k + j) = sel' (k + j)) → hpB sel nx0 k l h = hpB sel' nx0 k l h ∧ nxB sel k l x = nxB sel' k l x
  | [], k, h, x, _ => ⟨rfl, rfl⟩
  | r :: l, k, h, x, hh => by
    have h0 := hh 0 r rfl
    rw [Nat.add_zero] at h0
    have ih := fun (h : Hp) (x : Nat) => hpB_congr (sel := sel) (sel' := sel') (nx0 := nx0) (l := l) (k := Nat.succ k) (h := h) (x := x) (fun j r' hj hs => by
      rw [show Nat.succ k + j = k + (j + 1) from by omega]; exact hh (j + 1) r' (by simpa using hj) hs)
    simp only [hpB, nxB]
    cases hk : r.kd with
    | off => cases sel k <;> cases sel' k <;> exact ⟨(ih h x).1, (ih h x).2⟩
    | p => cases sel k <;> cases sel' k <;> exact ⟨(ih h x).1, (ih h x).2⟩
    | q => cases sel k <;> cases sel' k <;> exact ⟨(ih h x).1, (ih h x).2⟩
    | al mk b => rw [h0 (by rw [hk]; rfl)]; exact ih _ _
    | ef hp' nx' => rw [h0 (by rw [hk]; rfl)]; exact ih _ _
    | rn mm nxc hp' nx' => rw [h0 (by rw [hk]; rfl)]; exact ih _ _

theorem hpB_append {sel : Nat → Bool} {nx0 : Nat} : ∀ {a b : List Rec} {k : Nat} {h : Hp} {x : Nat}, hpB sel nx0 k (a ++ b) h = hpB sel nx0 (k + a.length) b (hpB sel nx0 k a h) ∧ nxB sel k (a ++ b) x = nxB sel (k + a.length) b (nxB sel k a x)
  | [], b, k, h, x => ⟨rfl, rfl⟩
  | r :: a, b, k, h, x => by
    have ih := fun (h : Hp) (x : Nat) => hpB_append (sel := sel) (nx0 := nx0) (a := a) (b := b) (k := Nat.succ k) (h := h) (x := x)
    simp only [List.cons_append, hpB, nxB, List.length_cons]
    rw [show k + (a.length + 1) = Nat.succ k + a.length from by omega]
    exact ⟨(ih _ x).1, (ih h _).2⟩

/-- The block that an operation has made under this name. -/
def alAt (sel : Nat → Bool) (nx0 k : Nat) (l : List Rec) (id : Nat) : Option Blk :=
  if nx0 + k ≤ id then match l[id - (nx0 + k)]? with
    | some r => match r.kd with
      | .al _ b => if sel (id - nx0) = true then some b else none
      | _ => none
    | none => none
  else none

theorem getB_hpB {sel : Nat → Bool} {nx0 : Nat} : ∀ {l : List Rec} {k : Nat} {h : Hp} {id : Nat}, (∀ (j : Nat) r, l[j]? = some r → sel (k + j) = true → isEf r.kd = false) →
    getB (hpB sel nx0 k l h) id = match alAt sel nx0 k l id with | some b => live (some b) | none => getB h id
  | [], k, h, id, _ => by simp [hpB, alAt]
  | r :: l, k, h, id, hh => by
    have h0 := hh 0 r rfl
    rw [Nat.add_zero] at h0
    rw [show hpB sel nx0 k (r :: l) h = hpB sel nx0 (Nat.succ k) l (hpB sel nx0 k [r] h) from rfl]
    rw [getB_hpB (l := l) (k := Nat.succ k) (fun j r' hj hs => hh (j + 1) r' (by simpa using hj) (by rw [show k + (j + 1) = Nat.succ k + j from by omega]; exact hs))]
    have hrest : id ≠ nx0 + k → getB (hpB sel nx0 k [r] h) id = getB h id := by
      intro hne
      simp only [hpB]
      cases hs : sel k with
      | false => rfl
      | true =>
        have h2 := h0 hs
        cases hk : r.kd <;> rw [hk] at h2 <;> simp [isEf] at h2 <;> simp only
        rw [getB_cons, if_neg (by show ¬ nx0 + k = id; omega)]
    unfold alAt
    by_cases h1 : nx0 + Nat.succ k ≤ id
    · rw [if_pos h1, if_pos (show nx0 + k ≤ id by omega)]
      have e : id - (nx0 + k) = (id - (nx0 + Nat.succ k)) + 1 := by omega
      rw [e]
      simp only [List.getElem?_cons_succ]
      rw [hrest (by omega)]
    · rw [if_neg h1]
      by_cases h2 : nx0 + k ≤ id
      · have e : id = nx0 + k := by omega
        subst e
        rw [if_pos (Nat.le_refl _)]
        simp only [Nat.sub_self, List.getElem?_cons_zero, Nat.add_sub_cancel_left, hpB]
        cases hs : sel k with
        | false => cases hk : r.kd <;> simp
        | true =>
          have h3 := h0 hs
          cases hk : r.kd <;> rw [hk] at h3 <;> simp [isEf] at h3 <;> simp
          rw [getB_cons, if_pos rfl]
      · rw [if_neg h2]
        simp only
        exact hrest (by omega)

theorem allB_get {f : Rec → Bool} {m : Nat} : ∀ {l : List Rec} {k : Nat}, allB f m k l = true → ∀ (j : Nat) r, l[j]? = some r → f r = true ∨ Nat.testBit m (k + j) = true
  | [], k, _, j, r, h => by simp at h
  | x :: l, k, hh, j, r, h => by
    simp only [allB, Bool.and_eq_true, Bool.or_eq_true] at hh
    cases j with
    | zero => simp at h; subst h; exact hh.1
    | succ j => rw [show k + (j + 1) = Nat.succ k + j from by omega]; exact allB_get hh.2 j r (by simpa using h)

theorem HRel.ext {C ρ w} {hp' : Hp} (h : HRel C n0 hp nx ρ w) (he : ∀ id, getB hp' id = getB hp id) : HRel C n0 hp' nx ρ w := by
  have e : getB hp' = getB hp := funext he
  have eX : XX C.ex hp' ρ = XX C.ex hp ρ := by unfold XX; rw [e]
  exact ⟨fun id b hb => by rw [eX]; exact h.blk id b (he id ▸ hb), fun id id' b b' r base base' h1 h2 => h.inj id id' b b' r base base' (he id ▸ h1) (he id' ▸ h2), fun id b r base h1 => h.own id b r base (he id ▸ h1), h.exo, h.fresh, h.pres, h.base, h.le⟩

theorem mask_bit {ms : List Nat} {o : Oper} {j : Nat} (h : Nat.testBit (maskOf ms o) j = true) : ∃ e ∈ o.after, Region.binds .any e = true ∧ (j = e.on ∨ Nat.testBit ((ms[e.on]?).getD 0) j = true) := by
  have key : ∀ (l : List Edge) (m : Nat), Nat.testBit (l.foldl (fun m e => match Region.binds .any e with
      | true => Nat.lor m (Nat.lor (Nat.shiftLeft 1 e.on) ((ms[e.on]?).getD 0))
      | false => m) m) j = true → Nat.testBit m j = true ∨ ∃ e ∈ l, Region.binds .any e = true ∧ (j = e.on ∨ Nat.testBit ((ms[e.on]?).getD 0) j = true) := by
    intro l
    induction l with
    | nil => intro m h; exact .inl h
    | cons e l ih =>
      intro m h
      rw [List.foldl_cons] at h
      rcases ih _ h with h | ⟨e', h1, h2⟩
      · cases hb : Region.binds .any e with
        | false => rw [hb] at h; exact .inl h
        | true =>
          rw [hb] at h
          simp only at h
          have h' : (m ||| (1 <<< e.on ||| (ms[e.on]?).getD 0)).testBit j = true := h
          simp only [Nat.testBit_or, Bool.or_eq_true] at h'
          rcases h' with h' | h' | h'
          · exact .inl h'
          · refine .inr ⟨e, List.mem_cons_self, hb, .inl ?_⟩
            rw [Nat.one_shiftLeft, Nat.testBit_two_pow] at h'
            exact (of_decide_eq_true h').symm
          · exact .inr ⟨e, List.mem_cons_self, hb, .inr h'⟩
      · exact .inr ⟨e', List.mem_cons_of_mem _ h1, h2⟩
  rcases key _ _ h with h | ⟨e, h1, h2⟩
  · simp at h
  · exact ⟨e, by simpa using h1, h2⟩

theorem get_strip {ds : List Nat} : ∀ {e : Env} {t av}, get (strip ds e) t = some av → get e t = some av ∧ ∀ d ∈ ds, d ≠ t
  | [], t, av, h => by simp [strip, get] at h
  | (k, v) :: r, t, av, h => by
    simp only [strip] at h
    split at h
    · rename_i hb
      obtain ⟨h1, h2⟩ := get_strip h
      refine ⟨?_, h2⟩
      rw [get_cons, if_neg ?_]
      · exact h1
      · intro e; subst e
        rw [List.any_eq_true] at hb
        obtain ⟨d, hd, he⟩ := hb
        exact h2 d hd (Nat.eq_of_beq_eq_true he).symm
    · rename_i hb
      rw [get_cons] at h
      split at h
      · rename_i e; subst e; cases h
        refine ⟨by rw [get_cons, if_pos rfl], fun d hd e => ?_⟩
        subst e
        rw [Bool.eq_false_iff] at hb
        exact hb (by rw [List.any_eq_true]; exact ⟨d, hd, Nat.beq_refl d⟩)
      · rename_i hne
        obtain ⟨h1, h2⟩ := get_strip h
        exact ⟨by rw [get_cons, if_neg hne]; exact h1, h2⟩

def edgesB : Nat → List Oper → Bool
  | _, [] => true
  | k, o :: l => (o.after.toList.all fun e => !Region.binds .any e || Nat.blt e.on k) && edgesB (Nat.succ k) l
theorem edgesB_get : ∀ {l : List Oper} {k : Nat}, edgesB k l = true → ∀ (i : Nat) o, l[i]? = some o → ∀ e ∈ o.after, Region.binds .any e = true → e.on < k + i
  | [], k, _, i, o, h => by simp at h
  | x :: l, k, hh, i, o, h => by
    simp only [edgesB, Bool.and_eq_true] at hh
    cases i with
    | zero =>
      simp at h; subst h
      intro e he hb
      have := List.all_eq_true.1 hh.1 e (by simpa using he)
      simp only [hb, Bool.not_true, Bool.false_or] at this
      have := this; simp [Nat.blt] at this; omega
    | succ i =>
      rw [show k + (i + 1) = Nat.succ k + i from by omega]
      exact edgesB_get hh.2 i o (by simpa using h)

theorem nodup_dsts : ∀ {l : List Oper}, nodupB (dstsOf l) = true → ∀ (i j : Nat) oi oj d, l[i]? = some oi → l[j]? = some oj → oi.dst = some d → oj.dst = some d → i = j
  | [], _, i, j, oi, oj, d, h, _, _, _ => by simp at h
  | x :: l, hh, i, j, oi, oj, d, h1, h2, h3, h4 => by
    have hmem : ∀ (k : Nat) o, l[k]? = some o → o.dst = some d → d ∈ dstsOf l := fun k o hk ho => by
      simp only [dstsOf, List.mem_filterMap]; exact ⟨o, List.mem_of_getElem? hk, ho⟩
    have hsub : nodupB (dstsOf l) = true ∧ (∀ d', x.dst = some d' → d' ∉ dstsOf l) := by
      cases hx : x.dst with
      | none => simp only [dstsOf, List.filterMap_cons, hx] at hh; exact ⟨hh, fun d' h => by cases h⟩
      | some d' =>
        simp only [dstsOf, List.filterMap_cons, hx, nodupB, Bool.and_eq_true, Bool.not_eq_true', List.any_eq_false] at hh
        refine ⟨hh.2, fun d'' h hm => ?_⟩
        cases h
        exact hh.1 d' hm (Nat.beq_refl d')
    cases i with
    | zero =>
      cases j with
      | zero => rfl
      | succ j =>
        simp at h1 h2; subst h1
        exact (hsub.2 d h3 (hmem j oj h2 h4)).elim
    | succ i =>
      cases j with
      | zero =>
        simp at h1 h2; subst h2
        exact (hsub.2 d h4 (hmem i oi h1 h3)).elim
      | succ j =>
        simp at h1 h2
        have := nodup_dsts hsub.1 i j oi oj d h1 h2 h3 h4
        omega
end
end Go.Av
namespace Go.Av
open Go

section
variable {P : Program} {n n0 : Nat} {env : Env} {hp : Hp} {nx : Nat} {K : Kont} {s : List Fr}

theorem hpB_app {sel : Nat → Bool} {nx0 : Nat} (a b : List Rec) (k : Nat) (h : Hp) : hpB sel nx0 k (a ++ b) h = hpB sel nx0 (k + a.length) b (hpB sel nx0 k a h) := (hpB_append (x := 0)).1
theorem nxB_app {sel : Nat → Bool} (a b : List Rec) (k : Nat) (x : Nat) : nxB sel k (a ++ b) x = nxB sel (k + a.length) b (nxB sel k a x) := (hpB_append (nx0 := 0) (h := [])).2

def mkOf (l : List Oper) (i : Nat) : Nat := ((masks l [])[i]?).getD 0

structure DF (P : Program) (n n0 : Nat) (l : List Oper) (nx : Nat) (E : Nat → Env) (hp0 : Hp) (R : List Rec) : Prop where
  len : R.length = l.length
  fk : ∀ i o, l[i]? = some o → ∃ r, R[i]? = some r ∧ FactK P n n0 l.toArray nx l.length (E i) hp0 (R.take i) (mkOf l i) o r
  edges : edgesB 0 l = true
  dst : nodupB (dstsOf l) = true

variable {l : List Oper} {E : Nat → Env} {hp0 : Hp} {R : List Rec} {sel sel' : Nat → Bool} {i : Nat} {o : Oper} {r : Rec}

def Closed (l : List Oper) (sel : Nat → Bool) : Prop := ∀ i, i < l.length → sel i = true → ∀ j, Nat.testBit (mkOf l i) j = true → sel j = true

theorem mask_sub (hD : DF P n n0 l nx E hp0 R) (hc : Closed l sel) (ho : l[i]? = some o) (he : ∀ e ∈ o.after, Region.binds .any e = true → sel e.on = true) (j : Nat) (hj : Nat.testBit (mkOf l i) j = true) : sel j = true := by
  have hil : i < l.length := (List.getElem?_eq_some_iff.1 ho).1
  have hm := masks_get l [] i o ho
  simp only [List.length_nil, Nat.zero_add] at hm
  rw [mkOf, hm] at hj
  obtain ⟨e, h1, h2, h3⟩ := mask_bit hj
  have hlt := edgesB_get hD.edges i o ho e h1 h2
  have hs := he e h1 h2
  rcases h3 with rfl | h3
  · exact hs
  · rw [List.getElem?_take, if_pos (by omega)] at h3
    exact hc e.on (by omega) hs j h3

theorem DF.recd (hD : DF P n n0 l nx E hp0 R) (hi : R[i]? = some r) : ∃ o, l[i]? = some o ∧ FactK P n n0 l.toArray nx l.length (E i) hp0 (R.take i) (mkOf l i) o r := by
  have hlt : i < l.length := by rw [← hD.len]; exact (List.getElem?_eq_some_iff.1 hi).1
  obtain ⟨r', h1, h2⟩ := hD.fk i _ (List.getElem?_eq_getElem hlt)
  rw [hi] at h1; cases h1
  exact ⟨_, List.getElem?_eq_getElem hlt, h2⟩

theorem take_get {α : Type} {R : List α} {i j : Nat} {r : α} (h : R[j]? = some r) (hj : j < i) : (R.take i)[j]? = some r := by
  rw [List.getElem?_take, if_pos hj]; exact h
theorem get_of_take {α : Type} {R : List α} {i j : Nat} {r : α} (h : (R.take i)[j]? = some r) : R[j]? = some r ∧ j < i := by
  rw [List.getElem?_take] at h
  split at h
  · exact ⟨h, by assumption⟩
  · cases h

theorem noEf_al (hD : DF P n n0 l nx E hp0 R) (hi : R[i]? = some r) {mk b} (hk : r.kd = .al mk b) {j : Nat} {r' : Rec} (hj : R[j]? = some r') (hlt : j < i) : isEf r'.kd = false := by
  obtain ⟨o, _, hf⟩ := hD.recd hi
  simp only [FactK, hk] at hf
  have := List.all_eq_true.1 hf.2.2.2.1 r' (List.mem_of_getElem? (take_get hj hlt))
  simpa using this

/-- Behind what is not yet done nothing is done that must come later. -/
theorem later1 (hD : DF P n n0 l nx E hp0 R) (hc : Closed l sel) (hi : R[i]? = some r) (hs : sel i = false) (hp : isP r.kd = false) (ha : isAl r.kd = false) {k : Nat} {r' : Rec} (hk : R[k]? = some r') (hik : i < k) (hsk : sel k = true) : isEf r'.kd = false := by
  obtain ⟨o, ho, hf⟩ := hD.recd hk
  cases hkd : r'.kd with
  | ef hp' nx' =>
    simp only [FactK, hkd] at hf
    rcases allB_get hf.2.2.2.1 i r (take_get hi hik) with h | h
    · rw [hp] at h; cases h
    · have := hc k (List.getElem?_eq_some_iff.1 ho).1 hsk _ h
      rw [Nat.zero_add, hs] at this; cases this
  | rn mm nxc hp' nx' =>
    simp only [FactK, hkd] at hf
    rcases allB_get hf.2.2.2.1 i r (take_get hi hik) with h | h
    · rw [hp, ha] at h; cases h
    · have := hc k (List.getElem?_eq_some_iff.1 ho).1 hsk _ h
      rw [Nat.zero_add, hs] at this; cases this
  | _ => rfl
theorem laterA (hD : DF P n n0 l nx E hp0 R) (hc : Closed l sel) (hi : R[i]? = some r) (hs : sel i = false) (hp : isP r.kd = false) {k : Nat} {r' : Rec} (hk : R[k]? = some r') (hik : i < k) (hsk : sel k = true) : isE r'.kd = false := by
  obtain ⟨o, ho, hf⟩ := hD.recd hk
  cases hkd : r'.kd with
  | ef hp' nx' =>
    simp only [FactK, hkd] at hf
    rcases allB_get hf.2.2.2.1 i r (take_get hi hik) with h | h
    · rw [hp] at h; cases h
    · have := hc k (List.getElem?_eq_some_iff.1 ho).1 hsk _ h
      rw [Nat.zero_add, hs] at this; cases this
  | _ => rfl
theorem ef_nP {k : Kd} (h : isEf k = true) : isP k = false ∧ isAl k = false := by cases k <;> simp [isEf] at h <;> exact ⟨rfl, rfl⟩
theorem later2 (hD : DF P n n0 l nx E hp0 R) (hc : Closed l sel) (hi : R[i]? = some r) (hs : sel i = false) (hp : isEf r.kd = true) {k : Nat} {r' : Rec} (hk : R[k]? = some r') (hik : i < k) (hsk : sel k = true) : isP r'.kd = true := by
  have hp' := ef_nP hp
  have h1 := later1 hD hc hi hs hp'.1 hp'.2 hk hik hsk
  obtain ⟨o, ho, hf⟩ := hD.recd hk
  cases hkd : r'.kd with
  | ef hp' nx' => rw [hkd] at h1; cases h1
  | rn mm nxc hp' nx' => rw [hkd] at h1; cases h1
  | off => rfl
  | p => rfl
  | al mk b =>
    have := noEf_al hD hk hkd hi hik
    rw [hp] at this; cases this
  | q =>
    simp only [FactK, hkd] at hf
    rcases allB_get hf.2.2.2.1 i r (take_get hi hik) with h | h
    · rw [hp] at h; cases h
    · have := hc k (List.getElem?_eq_some_iff.1 ho).1 hsk _ h
      rw [Nat.zero_add, hs] at this; cases this

theorem nxB_skip {sel : Nat → Bool} : ∀ {l : List Rec} {k : Nat} {x : Nat}, (∀ (j : Nat) r, l[j]? = some r → sel (k + j) = true → isEf r.kd = false) → nxB sel k l x = x
  | [], k, x, _ => rfl
  | r :: l, k, x, hh => by
    have h0 := hh 0 r rfl
    have ih := nxB_skip (sel := sel) (l := l) (k := Nat.succ k) (x := x) (fun j r' hj hs => hh (j + 1) r' (by simpa using hj) (by rw [show k + (j + 1) = Nat.succ k + j from by omega]; exact hs))
    rw [Nat.add_zero] at h0
    simp only [nxB]
    cases hs : sel k with
    | false => simpa using ih
    | true =>
      have h1 := h0 hs
      cases hk : r.kd <;> rw [hk] at h1 <;> simp [isEf] at h1 <;> simpa using ih

theorem split_at {α : Type} {R : List α} {i : Nat} {r : α} (hi : R[i]? = some r) : R = R.take i ++ r :: R.drop (i + 1) := by
  obtain ⟨h1, h2⟩ := List.getElem?_eq_some_iff.1 hi
  rw [← h2, ← List.drop_eq_getElem_cons h1, List.take_append_drop]

/-- Where the memory that an operation sees differs from the memory that is. -/
theorem hpB_ef {sel : Nat → Bool} {nx0 : Nat} {R : List Rec} {e : Nat} {r : Rec} {hp' : Hp} {nx' : Nat} {h : Hp} {x : Nat} (he : R[e]? = some r) (hk : r.kd = .ef hp' nx') (hs : sel e = true) :
    hpB sel nx0 0 R h = hpB sel nx0 (e + 1) (R.drop (e + 1)) hp' ∧ nxB sel 0 R x = nxB sel (e + 1) (R.drop (e + 1)) nx' := by
  have hlen : (R.take e).length = e := by have := (List.getElem?_eq_some_iff.1 he).1; simp; omega
  have e1 := split_at he
  constructor
  · conv => lhs; rw [e1]
    rw [hpB_app, hlen, Nat.zero_add]
    simp only [hpB, hs, hk]
  · conv => lhs; rw [e1]
    rw [nxB_app, hlen, Nat.zero_add]
    simp only [nxB, hs, hk]

theorem sub_noEf (hlow : ∀ id b, getB hp0 id = some b → id < nx) {m : Nat} (hm : ∀ j, Nat.testBit m j = true → sel j = true) (hacc : ∀ (j : Nat) r, (R.take i)[j]? = some r → isEf r.kd = false) (hR : ∀ (j : Nat) r, R[j]? = some r → sel j = true → isEf r.kd = false)
    (id : Nat) (b : Blk) (h : getB (hpB (Nat.testBit m) nx 0 (R.take i) hp0) id = some b) : getB (hpB sel nx 0 R hp0) id = some b := by
  rw [getB_hpB (fun j r hj _ => hacc j r hj)] at h
  rw [getB_hpB (fun j r hj hs => hR j r hj (by rw [Nat.zero_add] at hs; exact hs))]
  cases ha : alAt (Nat.testBit m) nx 0 (R.take i) id with
  | some b' =>
    rw [ha] at h
    have : alAt sel nx 0 R id = some b' := by
      unfold alAt at ha ⊢
      split at ha
      · rename_i hle
        rw [if_pos hle]
        split at ha
        · rename_i r hr
          rw [(get_of_take hr).1]
          simp only
          split at ha
          · split at ha
            · rename_i hb
              cases ha
              rw [if_pos (hm _ hb)]
            · cases ha
          · cases ha
        · cases ha
      · cases ha
    rw [this]; exact h
  | none =>
    rw [ha] at h
    have := hlow id b h
    have : alAt sel nx 0 R id = none := by unfold alAt; rw [if_neg (by omega)]
    rw [this]; exact h

/-- Behind the first effect, what one sees is there for all. -/
theorem hpB_mono {sel1 sel2 : Nat → Bool} {nx0 : Nat} : ∀ {l : List Rec} {k : Nat} {h1 h2 : Hp}, (∀ (j : Nat) r, l[j]? = some r → isAl r.kd = false) → (∀ (j : Nat) r, l[j]? = some r → isEf r.kd = true → sel1 (k + j) = sel2 (k + j)) →
    (∀ id b, getB h1 id = some b → getB h2 id = some b) → ∀ id b, getB (hpB sel1 nx0 k l h1) id = some b → getB (hpB sel2 nx0 k l h2) id = some b
  | [], k, h1, h2, _, _, hh, id, b, h => hh id b h
  | r :: l, k, h1, h2, ha, he, hh, id, b, h => by
    have a0 := ha 0 r rfl
    have e0 := he 0 r rfl
    rw [Nat.add_zero] at e0
    have ih := fun (g1 g2 : Hp) (hg : ∀ id b, getB g1 id = some b → getB g2 id = some b) => hpB_mono (sel1 := sel1) (sel2 := sel2) (nx0 := nx0) (l := l) (k := Nat.succ k) (h1 := g1) (h2 := g2) (fun j r' hj => ha (j + 1) r' (by simpa using hj))
      (fun j r' hj hs => by rw [show Nat.succ k + j = k + (j + 1) from by omega]; exact he (j + 1) r' (by simpa using hj) hs) hg id b
    simp only [hpB] at h ⊢
    cases hk : r.kd with
    | off => rw [hk] at h; cases hs1 : sel1 k <;> cases hs2 : sel2 k <;> rw [hs1] at h <;> exact ih _ _ hh h
    | p => rw [hk] at h; cases hs1 : sel1 k <;> cases hs2 : sel2 k <;> rw [hs1] at h <;> exact ih _ _ hh h
    | q => rw [hk] at h; cases hs1 : sel1 k <;> cases hs2 : sel2 k <;> rw [hs1] at h <;> exact ih _ _ hh h
    | al mk b => rw [hk] at a0; cases a0
    | ef hp' nx' =>
      rw [hk] at h
      rw [e0 (by rw [hk]; rfl)] at h
      cases hs : sel2 k <;> rw [hs] at h
      · exact ih _ _ hh h
      · exact ih _ _ (fun _ _ h => h) h
    | rn mm nxc hp' nx' =>
      rw [hk] at h
      rw [e0 (by rw [hk]; rfl)] at h
      cases hs : sel2 k <;> rw [hs] at h
      · exact ih _ _ hh h
      · refine ih _ _ (fun id b hb => ?_) h
        rw [getB_backH] at hb ⊢
        cases hg : get (renH (mg mm nxc) hp') id with
        | some x => rw [hg] at hb; exact hb
        | none =>
          rw [hg] at hb
          simp only at hb ⊢
          split at hb
          · cases hb
          · rename_i hn; rw [if_neg hn]; exact hh id b hb

/-- The same at one name. -/
theorem hpB_at {sel1 sel2 : Nat → Bool} {nx0 id : Nat} : ∀ {l : List Rec} {k : Nat} {h1 h2 : Hp}, (∀ (j : Nat) r, l[j]? = some r → noHp r.kd = false → sel1 (k + j) = sel2 (k + j) ∨ (isAl r.kd = true ∧ id ≠ nx0 + (k + j))) →
    getB h1 id = getB h2 id → getB (hpB sel1 nx0 k l h1) id = getB (hpB sel2 nx0 k l h2) id
  | [], k, h1, h2, _, hh => hh
  | r :: l, k, h1, h2, he, hh => by
    have e0 := he 0 r rfl
    rw [Nat.add_zero] at e0
    have ih := fun (g1 g2 : Hp) (hg : getB g1 id = getB g2 id) => hpB_at (sel1 := sel1) (sel2 := sel2) (nx0 := nx0) (id := id) (l := l) (k := Nat.succ k) (h1 := g1) (h2 := g2)
      (fun j r' hj hs => by rw [show Nat.succ k + j = k + (j + 1) from by omega]; exact he (j + 1) r' (by simpa using hj) hs) hg
    simp only [hpB]
    cases hk : r.kd with
    | off => cases hs1 : sel1 k <;> cases hs2 : sel2 k <;> exact ih _ _ hh
    | p => cases hs1 : sel1 k <;> cases hs2 : sel2 k <;> exact ih _ _ hh
    | q => cases hs1 : sel1 k <;> cases hs2 : sel2 k <;> exact ih _ _ hh
    | al mk b =>
      rcases e0 (by rw [hk]; rfl) with e | ⟨_, e⟩
      · rw [e]
        cases hs : sel2 k
        · exact ih _ _ hh
        · refine ih _ _ ?_
          rw [getB_cons, getB_cons, hh]
      · have c1 : ∀ h : Hp, getB ((Nat.add nx0 k, b) :: h) id = getB h id := fun h => by rw [getB_cons, if_neg (by show ¬ nx0 + k = id; omega)]
        cases hs1 : sel1 k <;> cases hs2 : sel2 k
        · exact ih _ _ hh
        · exact ih _ _ (by rw [c1]; exact hh)
        · exact ih _ _ (by rw [c1]; exact hh)
        · exact ih _ _ (by rw [c1, c1]; exact hh)
    | ef hp' nx' =>
      rcases e0 (by rw [hk]; rfl) with e | ⟨e, _⟩
      · rw [e]
        cases hs : sel2 k
        · exact ih _ _ hh
        · exact ih _ _ rfl
      · rw [hk] at e; cases e
    | rn mm nxc hp' nx' =>
      rcases e0 (by rw [hk]; rfl) with e | ⟨e, _⟩
      · rw [e]
        cases hs : sel2 k
        · exact ih _ _ hh
        · refine ih _ _ ?_
          rw [getB_backH, getB_backH, hh]
      · rw [hk] at e; cases e
theorem mg_ne {m : List Nat} {nx id : Nat} (h1 : id ∉ m) (h2 : id < nx) (i : Nat) : mg m nx i ≠ id := by
  unfold mg
  cases hm : m[i]? with
  | some k => exact fun e => h1 (e ▸ List.mem_of_getElem? hm)
  | none => show nx + (i - m.length) ≠ id; omega
/-- What nobody touches. -/
theorem hpB_stay {sel : Nat → Bool} {nx0 id : Nat} : ∀ {l : List Rec} {k : Nat} {h : Hp}, (∀ (j : Nat) r, l[j]? = some r → sel (k + j) = true → isE r.kd = false ∧ (isAl r.kd = true → id ≠ nx0 + (k + j)) ∧ (∀ m nxc hp' y, r.kd = .rn m nxc hp' y → id ∉ m ∧ id < nxc)) →
    getB (hpB sel nx0 k l h) id = getB h id
  | [], k, h, _ => rfl
  | r :: l, k, h, he => by
    have e0 := he 0 r rfl
    rw [Nat.add_zero] at e0
    have ih := fun (g : Hp) => hpB_stay (sel := sel) (nx0 := nx0) (id := id) (l := l) (k := Nat.succ k) (h := g)
      (fun j r' hj hs => by rw [show Nat.succ k + j = k + (j + 1) from by omega] at hs ⊢; exact he (j + 1) r' (by simpa using hj) hs)
    simp only [hpB]
    rw [ih]
    cases hs : sel k with
    | false => rfl
    | true =>
      obtain ⟨g1, g2, g3⟩ := e0 hs
      cases hk : r.kd with
      | off => rfl
      | p => rfl
      | q => rfl
      | al mk b => rw [hk] at g2; simp only; rw [getB_cons, if_neg (by have := g2 rfl; show ¬ nx0 + k = id; omega)]
      | ef _ _ => rw [hk] at g1; cases g1
      | rn m nxc hp' y =>
        obtain ⟨k1, k2⟩ := g3 m nxc hp' y hk
        simp only
        rw [getB_backH, get_renH_none (mg_ne k1 k2)]
        simp only
        rw [if_neg k1]
theorem nxB_congr {sel sel' : Nat → Bool} : ∀ {l : List Rec} {k x : Nat}, (∀ (j : Nat) r, l[j]? = some r → isEf r.kd = true → sel (k + j) = sel' (k + j)) → nxB sel k l x = nxB sel' k l x
  | [], k, x, _ => rfl
  | r :: l, k, x, hh => by
    have h0 := hh 0 r rfl
    rw [Nat.add_zero] at h0
    have ih := fun (x : Nat) => nxB_congr (sel := sel) (sel' := sel') (l := l) (k := Nat.succ k) (x := x) (fun j r' hj hs => by
      rw [show Nat.succ k + j = k + (j + 1) from by omega]; exact hh (j + 1) r' (by simpa using hj) hs)
    simp only [nxB]
    cases hk : r.kd with
    | ef _ _ => rw [h0 (by rw [hk]; rfl)]; exact ih _
    | rn _ _ _ _ => rw [h0 (by rw [hk]; rfl)]; exact ih _
    | _ => cases sel k <;> cases sel' k <;> exact ih _

/-- What comes behind what is not yet done adds nothing to the names' end. -/
theorem nxB_post (hD : DF P n n0 l nx E hp0 R) (hc : Closed l sel) (hi : R[i]? = some r) (hs : sel i = false) (hp : isP r.kd = false) (ha : isAl r.kd = false)
    (hall : ∀ (j : Nat) r', (R.take i)[j]? = some r' → isEf r'.kd = true → sel j = true) (x : Nat) : nxB (fun _ => true) 0 (R.take i) x = nxB sel 0 R x := by
  have hil : i < R.length := (List.getElem?_eq_some_iff.1 hi).1
  have hlen : (R.take i).length = i := by simp; omega
  have e1 : R = R.take i ++ R.drop i := (List.take_append_drop i R).symm
  have sk := nxB_skip (sel := sel) (l := R.drop i) (k := i) (x := nxB sel 0 (R.take i) x) fun j r' hj hsj => by
    rw [List.getElem?_drop] at hj
    cases j with
    | zero => rw [Nat.add_zero, hs] at hsj; cases hsj
    | succ j => exact later1 hD hc hi hs hp ha hj (by omega) hsj
  conv => rhs; rw [e1]
  rw [nxB_app, hlen, Nat.zero_add, sk]
  exact nxB_congr fun j r' hj he => by rw [Nat.zero_add]; exact (hall j r' hj he).symm

theorem sub_q (hD : DF P n n0 l nx E hp0 R) (hc : Closed l sel) (hlow : ∀ id b, getB hp0 id = some b → id < nx) (hi : R[i]? = some r) (hs : sel i = false) (hk : r.kd = .q)
    (hm : ∀ j, Nat.testBit (mkOf l i) j = true → sel j = true) (hall : allB (fun r => !isEf r.kd) (mkOf l i) 0 (R.take i) = true) :
    (∀ id b, getB (hpB (Nat.testBit (mkOf l i)) nx 0 (R.take i) hp0) id = some b → getB (hpB sel nx 0 R hp0) id = some b) ∧ nxB (fun _ => true) 0 (R.take i) (nx + l.length) = nxB sel 0 R (nx + l.length) := by
  have hp : isP r.kd = false := by rw [hk]; rfl
  have ha : isAl r.kd = false := by rw [hk]; rfl
  have hil : i < R.length := (List.getElem?_eq_some_iff.1 hi).1
  have hlen : (R.take i).length = i := by simp; omega
  have hbit : ∀ (j : Nat) r', (R.take i)[j]? = some r' → isEf r'.kd = true → Nat.testBit (mkOf l i) j = true := fun j r' hj he => by
    rcases allB_get hall j r' hj with h | h
    · rw [he] at h; cases h
    · rw [Nat.zero_add] at h; exact h
  refine ⟨?_, nxB_post hD hc hi hs hp ha (fun j r' hj he => hm j (hbit j r' hj he)) _⟩
  by_cases hex : ∃ (e : Nat) (r' : Rec), (R.take i)[e]? = some r' ∧ isEf r'.kd = true
  · -- the first of them
    obtain ⟨e, re, hre, hee, hfirst⟩ : ∃ (e : Nat) (r' : Rec), (R.take i)[e]? = some r' ∧ isEf r'.kd = true ∧ ∀ (j : Nat) r'', j < e → (R.take i)[j]? = some r'' → isEf r''.kd = false := by
      obtain ⟨e, re, h1, h2⟩ := hex
      induction e using Nat.strongRecOn generalizing re with
      | ind e ih =>
        by_cases hh : ∃ (j : Nat) (r'' : Rec), j < e ∧ (R.take i)[j]? = some r'' ∧ isEf r''.kd = true
        · obtain ⟨j, r'', g1, g2, g3⟩ := hh
          exact ih j g1 r'' g2 g3
        · refine ⟨e, re, h1, h2, fun j r'' g1 g2 => ?_⟩
          cases h3 : isEf r''.kd with
          | false => rfl
          | true => exact absurd ⟨j, r'', g1, g2, h3⟩ hh
    obtain ⟨hre', hei⟩ := get_of_take hre
    have noal : ∀ (j : Nat) r', R[j]? = some r' → e < j → isAl r'.kd = false := fun j r' hj hlt => by
      cases hk' : r'.kd with
      | al mk b =>
        have := noEf_al hD hj hk' hre' hlt
        rw [hee] at this; cases this
      | _ => rfl
    have hpost : hpB sel nx 0 R hp0 = hpB sel nx 0 (R.take i) hp0 := by
      have e1 : R = R.take i ++ R.drop i := (List.take_append_drop i R).symm
      have sk := hpB_skip (sel := sel) (nx0 := nx) (l := R.drop i) (k := i) (h := hpB sel nx 0 (R.take i) hp0) (x := 0) fun j r' hj hsj => by
        rw [List.getElem?_drop] at hj
        cases j with
        | zero => rw [Nat.add_zero, hs] at hsj; cases hsj
        | succ j =>
          have hne := later1 hD hc hi hs hp ha hj (by omega) hsj
          have hna := noal _ r' hj (by omega)
          cases hk' : r'.kd <;> rw [hk'] at hne hna <;> first | rfl | (cases hna; done) | (cases hne; done)
      conv => lhs; rw [e1]
      rw [hpB_app, hlen, Nat.zero_add]; exact sk.1
    rw [hpost]
    have hle : e ≤ i := by omega
    have hsplit : R.take i = R.take e ++ (R.take i).drop e := by
      have := (List.take_append_drop e (R.take i)).symm
      rw [List.take_take, Nat.min_eq_left hle] at this; exact this
    have hlene : (R.take e).length = e := by simp; omega
    intro id b h
    rw [hsplit, hpB_app, hlene, Nat.zero_add] at h ⊢
    refine hpB_mono (fun j r' hj => ?_) (fun j r' hj he => ?_) (fun id b h => ?_) id b h
    · rw [List.getElem?_drop] at hj
      cases j with
      | zero => rw [Nat.add_zero, hre] at hj; cases hj; exact (ef_nP hee).2
      | succ j => exact noal _ r' (get_of_take hj).1 (by omega)
    · rw [List.getElem?_drop] at hj
      rw [hbit _ r' hj he, hm _ (hbit _ r' hj he)]
    · have key := sub_noEf (sel := sel) (R := R.take e) (i := e) hlow hm (fun j r' hj => ?_) (fun j r' hj _ => ?_) id b (by rw [List.take_take, Nat.min_self]; exact h)
      · exact key
      · have hj := (get_of_take hj).1
        obtain ⟨g1, g2⟩ := get_of_take hj
        exact hfirst j r' g2 (take_get g1 (by omega))
      · obtain ⟨g1, g2⟩ := get_of_take hj
        exact hfirst j r' g2 (take_get g1 (by omega))
  · have hacc : ∀ (j : Nat) r', (R.take i)[j]? = some r' → isEf r'.kd = false := fun j r' hj => by
      cases h : isEf r'.kd with
      | false => rfl
      | true => exact absurd ⟨j, r', hj, h⟩ hex
    have hR : ∀ (j : Nat) r', R[j]? = some r' → sel j = true → isEf r'.kd = false := fun j r' hj hsj => by
      rcases Nat.lt_trichotomy j i with h | rfl | h
      · exact hacc j r' (take_get hj h)
      · rw [hs] at hsj; cases hsj
      · exact later1 hD hc hi hs hp ha hj h hsj
    exact sub_noEf hlow hm hacc hR

theorem okM_get {mm : List Nat} {nx0 m : Nat} : ∀ {l : List Rec} {k : Nat}, okM mm nx0 m k l = true → ∀ (j : Nat) r, l[j]? = some r → isAl r.kd = true → Nat.testBit m (k + j) = true ∨ nx0 + (k + j) ∉ mm
  | [], k, _, j, r, h, _ => by simp at h
  | x :: l, k, hh, j, r, h, ha => by
    simp only [okM, Bool.and_eq_true, Bool.or_eq_true, Bool.not_eq_true'] at hh
    cases j with
    | zero =>
      simp at h; subst h
      rcases hh.1 with h | h | h
      · rw [ha] at h; cases h
      · exact .inl h
      · rw [List.any_eq_false] at h
        exact .inr fun hm => h _ hm (Nat.beq_refl (nx0 + k))
    | succ j => rw [show k + (j + 1) = Nat.succ k + j from by omega]; exact okM_get hh.2 j r (by simpa using h) ha

/-- What a call sees of the memory that it is handed. -/
theorem same_rn (hD : DF P n n0 l nx E hp0 R) (hc : Closed l sel) (hi : R[i]? = some r) (hs : sel i = false) (hk : isEf r.kd = true)
    (hm : ∀ j, Nat.testBit (mkOf l i) j = true → sel j = true) (hall : allB (fun r => isP r.kd || isAl r.kd) (mkOf l i) 0 (R.take i) = true) {mm : List Nat} (hok : okM mm nx (mkOf l i) 0 (R.take i) = true) :
    hpB sel nx 0 R hp0 = hpB sel nx 0 (R.take i) hp0 ∧ nxB sel 0 R (nx + l.length) = nxB (fun _ => true) 0 (R.take i) (nx + l.length) ∧
      ∀ id ∈ mm, getB (hpB sel nx 0 R hp0) id = getB (hpB (Nat.testBit (mkOf l i)) nx 0 (R.take i) hp0) id := by
  have hil : i < R.length := (List.getElem?_eq_some_iff.1 hi).1
  have hlen : (R.take i).length = i := by simp; omega
  have e1 : R = R.take i ++ R.drop i := (List.take_append_drop i R).symm
  have hpost : hpB sel nx 0 R hp0 = hpB sel nx 0 (R.take i) hp0 := by
    have sk := hpB_skip (sel := sel) (nx0 := nx) (l := R.drop i) (k := i) (h := hpB sel nx 0 (R.take i) hp0) (x := 0) fun j r' hj hsj => by
      rw [List.getElem?_drop] at hj
      cases j with
      | zero => rw [Nat.add_zero, hs] at hsj; cases hsj
      | succ j =>
        have hne := later2 hD hc hi hs hk hj (by omega) hsj
        cases hk' : r'.kd <;> rw [hk'] at hne <;> first | rfl | cases hne
    conv => lhs; rw [e1]
    rw [hpB_app, hlen, Nat.zero_add]; exact sk.1
  have hbit : ∀ (j : Nat) r', (R.take i)[j]? = some r' → isP r'.kd = false → isAl r'.kd = false → Nat.testBit (mkOf l i) j = true := fun j r' hj h1 h2 => by
    rcases allB_get hall j r' hj with h | h
    · rw [h1, h2] at h; cases h
    · rw [Nat.zero_add] at h; exact h
  refine ⟨hpost, (nxB_post hD hc hi hs (ef_nP hk).1 (ef_nP hk).2 (fun j r' hj he => hm j (hbit j r' hj (ef_nP he).1 (ef_nP he).2)) _).symm, fun id hid => ?_⟩
  rw [hpost]
  refine hpB_at (fun j r' hj hno => ?_) rfl
  rw [Nat.zero_add]
  cases hb : Nat.testBit (mkOf l i) j with
  | true => exact .inl (hm j hb)
  | false =>
    cases ha : isAl r'.kd with
    | false =>
      have hP : isP r'.kd = false := by cases hk' : r'.kd <;> rw [hk'] at hno <;> simp [noHp] at hno <;> rfl
      rw [hbit j r' hj hP ha] at hb; cases hb
    | true =>
      rcases okM_get hok j r' hj ha with h | h
      · rw [Nat.zero_add, hb] at h; cases h
      · rw [Nat.zero_add] at h
        exact .inr ⟨rfl, fun e => h (e ▸ hid)⟩

/-- The fold, cut at one operation. -/
theorem hpB_cut {sel : Nat → Bool} {nx0 : Nat} {R : List Rec} {e : Nat} {r : Rec} {h : Hp} {x : Nat} (he : R[e]? = some r) :
    hpB sel nx0 0 R h = hpB sel nx0 (e + 1) (R.drop (e + 1)) (hpB sel nx0 e [r] (hpB sel nx0 0 (R.take e) h)) ∧ nxB sel 0 R x = nxB sel (e + 1) (R.drop (e + 1)) (nxB sel e [r] (nxB sel 0 (R.take e) x)) := by
  have hlen : (R.take e).length = e := by have := (List.getElem?_eq_some_iff.1 he).1; simp; omega
  have e1 := split_at he
  constructor
  · conv => lhs; rw [e1]
    rw [hpB_app, hlen, Nat.zero_add]; rfl
  · conv => lhs; rw [e1]
    rw [nxB_app, hlen, Nat.zero_add]; rfl
theorem nxB_ge {sel : Nat → Bool} {b : Nat} : ∀ {l : List Rec} {k x : Nat}, (∀ (j : Nat) r, l[j]? = some r → sel (k + j) = true → isE r.kd = false ∧ (∀ m nxc hp' y, r.kd = .rn m nxc hp' y → b ≤ y)) → b ≤ x → b ≤ nxB sel k l x
  | [], k, x, _, h => h
  | r :: l, k, x, hh, h => by
    have h0 := hh 0 r rfl
    rw [Nat.add_zero] at h0
    have ih := fun (x : Nat) (hx : b ≤ x) => nxB_ge (sel := sel) (b := b) (l := l) (k := Nat.succ k) (x := x) (fun j r' hj hs => hh (j + 1) r' (by simpa using hj) (by rw [show k + (j + 1) = Nat.succ k + j from by omega]; exact hs)) hx
    simp only [nxB]
    cases hs : sel k with
    | false => exact ih _ h
    | true =>
      obtain ⟨g1, g2⟩ := h0 hs
      cases hk : r.kd with
      | ef _ _ => rw [hk] at g1; cases g1
      | rn m nxc hp' y => exact ih _ (g2 m nxc hp' y hk)
      | _ => exact ih _ h

theorem same_ef (hD : DF P n n0 l nx E hp0 R) (hc : Closed l sel) (hi : R[i]? = some r) (hs : sel i = false) (hk : isEf r.kd = true)
    (hm : ∀ j, Nat.testBit (mkOf l i) j = true → sel j = true) (hall : allB (fun r => isP r.kd) (mkOf l i) 0 (R.take i) = true) :
    hpB sel nx 0 R hp0 = hpB (fun _ => true) nx 0 (R.take i) hp0 ∧ nxB sel 0 R (nx + l.length) = nxB (fun _ => true) 0 (R.take i) (nx + l.length) := by
  have hil : i < R.length := (List.getElem?_eq_some_iff.1 hi).1
  have hlen : (R.take i).length = i := by simp; omega
  have e1 : R = R.take i ++ R.drop i := (List.take_append_drop i R).symm
  have sk := fun h x => hpB_skip (sel := sel) (nx0 := nx) (l := R.drop i) (k := i) (h := h) (x := x) fun j r' hj hsj => by
    rw [List.getElem?_drop] at hj
    cases j with
    | zero => rw [Nat.add_zero, hs] at hsj; cases hsj
    | succ j =>
      have hne := later2 hD hc hi hs hk hj (by omega) hsj
      cases hk' : r'.kd <;> rw [hk'] at hne <;> first | rfl | cases hne
  have cg := hpB_congr (sel := sel) (sel' := fun _ => true) (nx0 := nx) (l := R.take i) (k := 0) (h := hp0) (x := nx + l.length) fun j r' hj hno => by
    rw [Nat.zero_add]
    refine hm j ?_
    rcases allB_get hall j r' hj with h | h
    · cases hk' : r'.kd <;> rw [hk'] at h hno <;> simp [isP, noHp] at h hno
    · rw [Nat.zero_add] at h; exact h
  constructor
  · conv => lhs; rw [e1]
    rw [hpB_app, hlen, Nat.zero_add, (sk _ 0).1]; exact cg.1
  · conv => lhs; rw [e1]
    rw [nxB_app, hlen, Nat.zero_add, (sk [] _).2]; exact cg.2
end
end Go.Av
