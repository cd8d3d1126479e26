/- Part 3 of the proof: what the operations of the model do to values as Lean sees them, and plain laws. -/
import Derived.Deep.LoopGhost
import Derived.Test.YtikkobmghmphaaaDoorP02
namespace Go.Av
open Go

mutual
def AV.ren (m : Nat → Nat) : AV → AV
  | .ptr id sz idx sub => .ptr (m id) sz idx sub
  | .eptr id sz idx sub => .eptr (m id) sz idx sub
  | .ref sz id off len => .ref sz (m id) off len
  | .refc sz id off len cap => .refc sz (m id) off len cap
  | .map id => .map (m id)
  | .func f a b => .func f (AV.rens m a) (AV.rens m b)
  | .iface t v => .iface t (v.ren m)
  | .agg cs => .agg (AV.rens m cs)
  | .tuple cs => .tuple (AV.rens m cs)
  | .bool b => .bool b
  | .sb b => .sb b
  | .int k n => .int k n
  | .str s => .str s
  | .nilp => .nilp
  | .fp cs => .fp cs
  | .nilsl => .nilsl
  | .sl sz l => .sl sz l
  | .nilmap => .nilmap
  | .nilfunc => .nilfunc
  | .niliface => .niliface
  | .junk => .junk
def AV.rens (m : Nat → Nat) : List AV → List AV
  | [] => []
  | a :: l => a.ren m :: AV.rens m l
end
theorem AV.rens_eq (m : Nat → Nat) : ∀ l, AV.rens m l = l.map (AV.ren m)
  | [] => rfl
  | a :: l => by rw [AV.rens, AV.rens_eq m l]; rfl

mutual
/-- No names of owned memory. -/
def AV.nid : AV → Bool
  | .ptr _ _ _ _ | .eptr _ _ _ _ | .ref _ _ _ _ | .refc _ _ _ _ _ | .map _ => false
  | .func _ a b => AV.nids a && AV.nids b
  | .iface _ v => v.nid
  | .agg cs => AV.nids cs
  | .tuple cs => AV.nids cs
  | _ => true
def AV.nids : List AV → Bool
  | [] => true
  | a :: l => a.nid && AV.nids l
end

def Blk.ren (m : Nat → Nat) : Blk → Blk
  | .arr sz els => .arr sz (AV.rens m els)
  | .mp ents => .mp (ents.map fun p => (p.1.ren m, p.2.ren m))
  | .siter s p => .siter s p
  | .dead => .dead

mutual
theorem VR_ren {w X} {ρ : Rho} (m : Nat → Nat) (ρ' : Rho) (h : ∀ i p, ρ (m i) = some p → ρ' i = some p) : ∀ (a : AV) (v : Value), VR w X ρ (a.ren m) v → VR w X ρ' a v
  | .ptr id sz idx sub, v => by simp only [VR, AV.ren]; rintro ⟨b, base, g, rfl⟩; exact ⟨b, base, h _ _ g, rfl⟩
  | .eptr id sz idx sub, v => by simp only [VR, AV.ren]; rintro ⟨b, base, g, rfl⟩; exact ⟨b, base, h _ _ g, rfl⟩
  | .ref sz id off len, v => by simp only [VR, AV.ren]; rintro ⟨p, a, c, g, r⟩; exact ⟨p, a, c, h _ _ g, r⟩
  | .refc sz id off len cap, v => by simp only [VR, AV.ren]; rintro ⟨p, a, g, r⟩; exact ⟨p, a, h _ _ g, r⟩
  | .map id, v => by simp only [VR, AV.ren]; rintro ⟨b, base, g, rfl⟩; exact ⟨b, base, h _ _ g, rfl⟩
  | .func f a b, v => by simp only [VR, AV.ren]; rintro ⟨fs, cs, rfl, g1, g2⟩; exact ⟨fs, cs, rfl, VRs_ren m ρ' h _ _ g1, VRs_ren m ρ' h _ _ g2⟩
  | .iface t x, v => by simp only [VR, AV.ren]; rintro ⟨u, rfl, g⟩; exact ⟨u, rfl, VR_ren m ρ' h x u g⟩
  | .agg cs, v => by simp only [VR, AV.ren]; rintro ⟨vs, rfl, g, g1⟩; exact ⟨vs, rfl, VRs_ren m ρ' h _ _ g, g1⟩
  | .tuple cs, v => by simp only [VR, AV.ren]; rintro ⟨vs, rfl, g⟩; exact ⟨vs, rfl, VRs_ren m ρ' h _ _ g⟩
  | .bool b, v => by simp only [VR, AV.ren]; exact id
  | .sb b, v => by simp only [VR, AV.ren]; exact id
  | .int k n, v => by simp only [VR, AV.ren]; exact id
  | .str s, v => by simp only [VR, AV.ren]; exact id
  | .nilp, v => by simp only [VR, AV.ren]; exact id
  | .fp cs, v => by simp only [VR, AV.ren]; exact id
  | .nilsl, v => by simp only [VR, AV.ren]; exact id
  | .sl sz l, v => by simp only [VR, AV.ren]; exact id
  | .nilmap, v => by simp only [VR, AV.ren]; exact id
  | .nilfunc, v => by simp only [VR, AV.ren]; exact id
  | .niliface, v => by simp only [VR, AV.ren]; exact id
  | .junk, v => by simp only [VR, AV.ren]; exact id
theorem VRs_ren {w X} {ρ : Rho} (m : Nat → Nat) (ρ' : Rho) (h : ∀ i p, ρ (m i) = some p → ρ' i = some p) : ∀ (a : List AV) (v : List Value), VRs w X ρ (AV.rens m a) v → VRs w X ρ' a v
  | [], v => by simp only [VRs, AV.rens]; exact id
  | a :: l, v => by
    simp only [VRs, AV.rens]; rintro ⟨x, r, rfl, g1, g2⟩
    exact ⟨x, r, rfl, VR_ren m ρ' h a x g1, VRs_ren m ρ' h l r g2⟩
end

mutual
theorem VR_ren' {w X} {ρ : Rho} (m : Nat → Nat) (ρ' : Rho) (h : ∀ i p, ρ i = some p → ρ' (m i) = some p) : ∀ (a : AV) (v : Value), VR w X ρ a v → VR w X ρ' (a.ren m) v
  | .ptr id sz idx sub, v => by simp only [VR, AV.ren]; rintro ⟨b, base, g, rfl⟩; exact ⟨b, base, h _ _ g, rfl⟩
  | .eptr id sz idx sub, v => by simp only [VR, AV.ren]; rintro ⟨b, base, g, rfl⟩; exact ⟨b, base, h _ _ g, rfl⟩
  | .ref sz id off len, v => by simp only [VR, AV.ren]; rintro ⟨p, a, c, g, r⟩; exact ⟨p, a, c, h _ _ g, r⟩
  | .refc sz id off len cap, v => by simp only [VR, AV.ren]; rintro ⟨p, a, g, r⟩; exact ⟨p, a, h _ _ g, r⟩
  | .map id, v => by simp only [VR, AV.ren]; rintro ⟨b, base, g, rfl⟩; exact ⟨b, base, h _ _ g, rfl⟩
  | .func f a b, v => by simp only [VR, AV.ren]; rintro ⟨fs, cs, rfl, g1, g2⟩; exact ⟨fs, cs, rfl, VRs_ren' m ρ' h _ _ g1, VRs_ren' m ρ' h _ _ g2⟩
  | .iface t x, v => by simp only [VR, AV.ren]; rintro ⟨u, rfl, g⟩; exact ⟨u, rfl, VR_ren' m ρ' h x u g⟩
  | .agg cs, v => by simp only [VR, AV.ren]; rintro ⟨vs, rfl, g, g1⟩; exact ⟨vs, rfl, VRs_ren' m ρ' h _ _ g, g1⟩
  | .tuple cs, v => by simp only [VR, AV.ren]; rintro ⟨vs, rfl, g⟩; exact ⟨vs, rfl, VRs_ren' m ρ' h _ _ g⟩
  | .bool b, v => by simp only [VR, AV.ren]; exact id
  | .sb b, v => by simp only [VR, AV.ren]; exact id
  | .int k n, v => by simp only [VR, AV.ren]; exact id
  | .str s, v => by simp only [VR, AV.ren]; exact id
  | .nilp, v => by simp only [VR, AV.ren]; exact id
  | .fp cs, v => by simp only [VR, AV.ren]; exact id
  | .nilsl, v => by simp only [VR, AV.ren]; exact id
  | .sl sz l, v => by simp only [VR, AV.ren]; exact id
  | .nilmap, v => by simp only [VR, AV.ren]; exact id
  | .nilfunc, v => by simp only [VR, AV.ren]; exact id
  | .niliface, v => by simp only [VR, AV.ren]; exact id
  | .junk, v => by simp only [VR, AV.ren]; exact id
theorem VRs_ren' {w X} {ρ : Rho} (m : Nat → Nat) (ρ' : Rho) (h : ∀ i p, ρ i = some p → ρ' (m i) = some p) : ∀ (a : List AV) (v : List Value), VRs w X ρ a v → VRs w X ρ' (AV.rens m a) v
  | [], v => by simp only [VRs, AV.rens]; exact id
  | a :: l, v => by
    simp only [VRs, AV.rens]; rintro ⟨x, r, rfl, g1, g2⟩
    exact ⟨x, r, rfl, VR_ren' m ρ' h a x g1, VRs_ren' m ρ' h l r g2⟩
end

mutual
theorem VR_nid {w X} {ρ ρ' : Rho} : ∀ (a : AV) (v : Value), a.nid = true → VR w X ρ a v → VR w X ρ' a v
  | .ptr id sz idx sub, v => by simp [AV.nid]
  | .eptr id sz idx sub, v => by simp [AV.nid]
  | .ref sz id off len, v => by simp [AV.nid]
  | .refc sz id off len cap, v => by simp [AV.nid]
  | .map id, v => by simp [AV.nid]
  | .func f a b, v => by
    simp only [VR, AV.nid, Bool.and_eq_true]; rintro ⟨h1, h2⟩ ⟨fs, cs, rfl, g1, g2⟩; exact ⟨fs, cs, rfl, VRs_nid _ _ h1 g1, VRs_nid _ _ h2 g2⟩
  | .iface t x, v => by simp only [VR, AV.nid]; rintro h ⟨u, rfl, g⟩; exact ⟨u, rfl, VR_nid x u h g⟩
  | .agg cs, v => by simp only [VR, AV.nid]; rintro h ⟨vs, rfl, g, g1⟩; exact ⟨vs, rfl, VRs_nid _ _ h g, g1⟩
  | .tuple cs, v => by simp only [VR, AV.nid]; rintro h ⟨vs, rfl, g⟩; exact ⟨vs, rfl, VRs_nid _ _ h g⟩
  | .bool b, v => by simp only [VR]; exact fun _ => id
  | .sb b, v => by simp only [VR]; exact fun _ => id
  | .int k n, v => by simp only [VR]; exact fun _ => id
  | .str s, v => by simp only [VR]; exact fun _ => id
  | .nilp, v => by simp only [VR]; exact fun _ => id
  | .fp cs, v => by simp only [VR]; exact fun _ => id
  | .nilsl, v => by simp only [VR]; exact fun _ => id
  | .sl sz l, v => by simp only [VR]; exact fun _ => id
  | .nilmap, v => by simp only [VR]; exact fun _ => id
  | .nilfunc, v => by simp only [VR]; exact fun _ => id
  | .niliface, v => by simp only [VR]; exact fun _ => id
  | .junk, v => by simp only [VR]; exact fun _ => id
theorem VRs_nid {w X} {ρ ρ' : Rho} : ∀ (a : List AV) (v : List Value), AV.nids a = true → VRs w X ρ a v → VRs w X ρ' a v
  | [], v => by simp only [VRs]; exact fun _ => id
  | a :: l, v => by
    simp only [VRs, AV.nids, Bool.and_eq_true]; rintro ⟨h1, h2⟩ ⟨x, r, rfl, g1, g2⟩
    exact ⟨x, r, rfl, VR_nid a x h1 g1, VRs_nid l r h2 g2⟩
end

/-- A call that only computes: what it makes of these arguments; nothing that was there turns. -/
def PureC (P : Program) (f : FuncId) (args : List AV) (r : AV) : Prop :=
  ∀ (w : World) (X : Nat → Prop) (argv : List Value), (∀ b, X b → b < w.heap.size) → VRs w X (fun _ => none) args argv →
    Calls P f argv.toArray w fun e w' => ∃ v, e = .returned v ∧ Pres (fun _ => False) w w' ∧ VR w' X (fun _ => none) r v

/-- A call over memory of its caller's. -/
def RunC (P : Program) (f : FuncId) (args : List AV) (hp : Hp) (n0 : Nat) (Q : AV → Hp → Nat → Prop) : Prop :=
  ∀ (C : Ctx) (w : World) (argv : List Value), C.w0 = w → HRel C n0 hp n0 C.ρ0 w → VRs w (XX C.ex hp C.ρ0) C.ρ0 args argv →
    Calls P f argv.toArray w fun e w' => ∃ v, e = .returned v ∧ ∃ r hp' nx' ρ', Q r hp' nx' ∧ HRel C n0 hp' nx' ρ' w' ∧ VR w' (XX C.ex hp' ρ') ρ' r v

def enumE : Nat → List AV → Env
  | _, [] => []
  | k, a :: l => (k, a) :: enumE (k + 1) l

theorem get_enumE : ∀ (l : List AV) (k t : Nat) (av : AV), get (enumE k l) t = some av → ∃ i, t = k + i ∧ l[i]? = some av
  | [], k, t, av, h => by simp [enumE, get] at h
  | a :: l, k, t, av, h => by
    rw [enumE, get_cons] at h
    split at h
    · rename_i e; cases h; exact ⟨0, by omega, rfl⟩
    · obtain ⟨i, h1, h2⟩ := get_enumE l (k + 1) t av h
      exact ⟨i + 1, by omega, by simpa using h2⟩

def resOne (T : Tab) (env : Env) (hp : Hp) : ResultVar → Option AV
  | .tmp t => get env t
  | .cell a ty => match get env a with
    | some (.ptr id sz idx 0) => match getB hp id, T ty with
      | some (.arr s els), some i => match Nat.beq s sz, Nat.beq i.size sz, els[idx]? with
        | true, true, some e => match (aggD i.desc == e.isAgg) with | true => some e | false => none
        | _, _, _ => none
      | _, _ => none
    | _ => none

def resA (T : Tab) (env : Env) (hp : Hp) : List ResultVar → Option AV
  | [r] => resOne T env hp r
  | rs => (rs.mapM (resOne T env hp)).map .tuple

section
variable {P : Program} {n n0 : Nat} {env : Env} {hp : Hp} {nx : Nat} {K : Kont}

def resSem (tmps : Array Value) : ResultVar → Sem Value
  | .tmp t => pure (tmps.getD t undef)
  | .cell a t => do loadVar t (← asAddr (tmps.getD a undef))

theorem resOne_sound {T : Tab} (hT : TabOk P T) {C ρ w a} (hs : SRel C n n0 env hp nx ρ w a) {rv : ResultVar} {r : AV} (h : resOne T env hp rv = some r) :
    ∃ v, (resSem a.tmps rv).run P w = .ok v w ∧ VR w (XX C.ex hp ρ) ρ r v := by
  cases rv with
  | tmp t =>
    simp only [resOne] at h
    obtain ⟨v, hv, g⟩ := hs.env t r h
    exact ⟨v, by simp [resSem, hv], g⟩
  | cell x ty =>
    simp only [resOne] at h
    split at h <;> try (cases h; done)
    rename_i id sz idx hx
    split at h <;> try (cases h; done)
    rename_i s els i hb ht
    split at h <;> try (cases h; done)
    rename_i e h1 h2 he
    split at h <;> try (cases h; done)
    rename_i h3
    cases h
    have h1 := Nat.eq_of_beq_eq_true h1
    have h2 := Nat.eq_of_beq_eq_true h2
    subst h1
    obtain ⟨v, hv, g⟩ := hs.env x _ hx
    simp only [VR] at g
    obtain ⟨b, base, g1, g2⟩ := g
    obtain ⟨u, k1, k2⟩ := whole_run (P := P) hs.toHRel (hT ty i ht) hb he h2 (by simpa using h3) g1
    have hev : a.tmps.getD x undef = v := by simp [hv]
    exact ⟨u, by simp only [resSem, hev, g2, asAddr, Sem.run_bind, Sem.run_pure, Result.andThen_ok]; exact k1, k2⟩

theorem mapM_length {α β : Type} {f : α → Option β} : ∀ {l : List α} {r : List β}, l.mapM f = some r → r.length = l.length
  | [], r, h => by simp at h; subst h; rfl
  | x :: l, r, h => by
    simp only [List.mapM_cons, Option.pure_def, Option.bind_eq_bind, Option.bind_eq_some_iff] at h
    obtain ⟨av, ha, r', hr', e⟩ := h
    simp at e; subst e
    simp [mapM_length hr']

def kfin (T : Tab) (fn : Func) (Q : AV → Hp → Nat → Prop) : Kont := fun e env hp nx =>
  match e with
  | .normal | .ret => ∃ r, resA T env hp fn.results.toList = some r ∧ Q r hp nx
  | _ => False

theorem res_sound {T : Tab} (hT : TabOk P T) {C ρ w a} (hs : SRel C n n0 env hp nx ρ w a) {fn : Func} {r : AV} (h : resA T env hp fn.results.toList = some r) :
    ∃ v, (results fn a.tmps).run P w = .ok v w ∧ VR w (XX C.ex hp ρ) ρ r v := by
  have hmap : ∀ (l : List ResultVar) (rs : List AV), l.mapM (resOne T env hp) = some rs →
      ∃ vs, (l.mapM (resSem a.tmps)).run P w = .ok vs w ∧ VRs w (XX C.ex hp ρ) ρ rs vs := by
    intro l
    induction l with
    | nil => intro rs h; simp at h; subst h; exact ⟨[], by simp, by simp [VRs]⟩
    | cons rv l ih =>
      intro rs h
      simp only [List.mapM_cons, Option.pure_def, Option.bind_eq_bind, Option.bind_eq_some_iff] at h
      obtain ⟨av, ha, r', hr', e⟩ := h
      simp at e; subst e
      obtain ⟨v, h1, h2⟩ := resOne_sound hT hs ha
      obtain ⟨vs, h3, h4⟩ := ih r' hr'
      refine ⟨v :: vs, ?_, by simp only [VRs]; exact ⟨v, vs, rfl, h2, h4⟩⟩
      rw [List.mapM_cons]
      simp only [Sem.run_bind, h1, h3, Result.andThen_ok, Sem.run_pure]
  have hres : results fn a.tmps = (do
      let vs ← fn.results.mapM (resSem a.tmps)
      pure (if h : vs.size = 1 then vs[0] else .tuple vs)) := rfl
  rw [hres, Array.mapM_eq_mapM_toList]
  unfold resA at h
  split at h
  · rename_i rv hrv
    obtain ⟨v, h1, h2⟩ := resOne_sound hT hs h
    refine ⟨v, ?_, h2⟩
    rw [hrv]
    simp only [Sem.run_bind, Sem.run_map, List.mapM_cons, List.mapM_nil, h1, Result.andThen_ok, Sem.run_pure]
    simp
  · rename_i hne
    simp only [Option.map_eq_some_iff] at h
    obtain ⟨rs, h, rfl⟩ := h
    obtain ⟨vs, h1, h2⟩ := hmap _ _ h
    refine ⟨.tuple vs.toArray, ?_, by simp only [VR]; exact ⟨_, rfl, h2⟩⟩
    simp only [Sem.run_bind, Sem.run_map, h1, Result.andThen_ok, Sem.run_pure]
    have hlen : vs.length ≠ 1 := by
      rw [h2.length, mapM_length h]
      intro h3
      match hl : fn.results.toList, h3 with
      | [x], _ => exact hne x hl
    rw [dif_neg (by simpa using hlen)]

theorem bodyPost_of {T : Tab} (hT : TabOk P T) {fn : Func} {C : Ctx} {Q : AV → Hp → Nat → Prop} {R : Ending → World → Prop}
    (hR : ∀ v w' r hp' nx' ρ', Q r hp' nx' → HRel C n0 hp' nx' ρ' w' → VR w' (XX C.ex hp' ρ') ρ' r v → R (.returned v) w') :
    ∀ e a w, lift C n n0 (kfin T fn Q) e a w → bodyPost P fn R e a w := by
  rintro e a w ⟨env, hp, nx, ρ, hk, hs⟩
  cases e <;> simp only [kfin] at hk <;> simp only [bodyPost]
  all_goals
    obtain ⟨r, h1, h2⟩ := hk
    obtain ⟨v, h3, h4⟩ := res_sound hT hs h1
    exact ⟨hs.defers, v, h3, hR v w r hp nx ρ h2 hs.toHRel h4⟩

theorem SRel.enter {C : Ctx} {hp : Hp} {w : World} {args : List AV} {argv : List Value} {ntmps : Nat} (h : HRel C n0 hp n0 C.ρ0 w) (hv : VRs w (XX C.ex hp C.ρ0) C.ρ0 args argv) (hn : args.length ≤ ntmps) :
    SRel C ntmps n0 (enumE 0 args) hp n0 C.ρ0 w { tmps := argv.toArray ++ Array.replicate (ntmps - argv.toArray.size) undef, defers := [] } := by
  have hl := hv.length
  refine { h with env := fun t av ht => ?_, size := by simp; omega, defers := rfl }
  obtain ⟨i, h1, h2⟩ := get_enumE args 0 t av ht
  obtain ⟨v, h3, h4⟩ := hv.get h2
  have : t = i := by omega
  subst this
  refine ⟨v, ?_, h4⟩
  have hlt := (List.getElem?_eq_some_iff.1 h3).1
  rw [Array.getElem?_append_left (by simpa using hlt)]
  simpa using h3

theorem RunC.of_W {T : Tab} (hT : TabOk P T) {f : FuncId} {fn : Func} {c : Code} {args : List AV} {Q : AV → Hp → Nat → Prop} (hf : P.funcs[f]? = some fn) (hb : fn.body = some c) (hn : Nat.ble args.length fn.ntmps = true)
    (h : W P fn.ntmps n0 c (kfin T fn Q) (enumE 0 args) hp n0) : RunC P f args hp n0 Q := by
  intro C w argv hw hr hv
  refine calls_of_wp hf hb (wp_mono (h C C.ρ0 w _ (SRel.enter hr hv (by simpa using hn))) ?_)
  refine bodyPost_of hT ?_
  intro v w' r hp' nx' ρ' hq hr' hv'
  exact ⟨v, rfl, r, hp', nx', ρ', hq, hr', hv'⟩

theorem PureC.of_W {T : Tab} (hT : TabOk P T) {f : FuncId} {fn : Func} {c : Code} {args : List AV} {r : AV} (hf : P.funcs[f]? = some fn) (hb : fn.body = some c) (hn : Nat.ble args.length fn.ntmps = true) (hr : r.nid = true)
    (h : W P fn.ntmps 0 c (kfin T fn fun r' _ _ => r' = r) (enumE 0 args) [] 0) : PureC P f args r := by
  intro w X argv hX hv
  let C : Ctx := { ex := X, O0 := fun _ => False, w0 := w, ρ0 := fun _ => none }
  have hH : HRel C 0 [] 0 C.ρ0 w := by
    refine ⟨?_, ?_, ?_, fun r hr => hX r hr, fun _ _ => rfl, Pres.refl _ _, fun i hi => by omega, Nat.le_refl _⟩
    · intro id b h; simp [getB, get, live] at h
    · intro id id' b b' r base base' h; simp [getB, get, live] at h
    · intro id b r base h; simp [getB, get, live] at h
  have hxx : ∀ b, XX C.ex [] C.ρ0 b → X b := by
    rintro b (h | ⟨id, bb, base, h, _⟩)
    · exact h
    · simp [getB, get, live] at h
  have hv' : VRs w (XX C.ex [] C.ρ0) C.ρ0 args argv := VRs.mono (Pres.refl (fun _ => False) w) (fun _ _ h => h.elim) (fun b _ h => hxx b h) (fun _ _ h => h) _ _ hv
  refine calls_of_wp hf hb (wp_mono (h C C.ρ0 w _ (SRel.enter hH hv' (by simpa using hn))) ?_)
  refine bodyPost_of hT ?_
  intro v w' r' hp' nx' ρ' hq hr' hv''
  subst hq
  refine ⟨v, rfl, hr'.pres, ?_⟩
  exact VR.mono (Pres.refl (fun _ => False) w') (fun _ _ h => h.elim) (fun b _ h => .inl h) (fun _ _ h => h) _ _ (VR_nid (ρ' := fun _ => none) _ _ hr hv'')
end
end Go.Av
namespace Go.Av
open Go

section
variable {P : Program} {n n0 : Nat} {env : Env} {hp : Hp} {nx : Nat} {K : Kont}

/-- The function that a call of number f enters. -/
def CallsTo (P : Program) (f g : FuncId) : Prop := ∀ (args : Array Value) (w : World), (callFunc f args).run P w = .ok (.enter g args) w

theorem run_call {C ρ w a} (hs : SRel C n n0 env hp nx ρ w a) {o : Oper} {c : Call} {x : Operand} {f g : FuncId} {caps as : List AV} (ho : o.op = .call c) (hcal : c.callee = .value x)
    (hx : evO env x = some (.func (.func f) [] caps)) (hcf : CallsTo P f g) (has : c.args.toList.mapM (evO env) = some as) :
    ∃ argv, (execOp a.eval o).run P w = .ok (.enter g argv.toArray) w ∧ VRs w (XX C.ex hp ρ) ρ (as ++ caps) argv := by
  have e1 := evO_sound hs hx
  simp only [VR] at e1
  obtain ⟨fs, cs, e1, e2, e3⟩ := e1
  simp only [VRs] at e2
  have hfs : fs = #[] := by simpa using e2
  subst hfs
  have hev := evMap hs _ _ has
  refine ⟨c.args.toList.map a.eval ++ cs.toList, ?_, hev.append e3⟩
  simp only [execOp, ho, resolve, hcal, e1, Deferred.ofValue, Sem.run_bind, Sem.run_pure, Result.andThen_ok, invoke]
  rw [hcf]
  congr 2
  apply Array.ext'
  simp

/-- A call that only computes. -/
theorem Wo_pure {ops : Array Oper} {o : Oper} {rest : List Oper} {c : Call} {x : Operand} {f g : FuncId} {caps as : List AV} {r : AV} {d : Nat} (ho : o.op = .call c) (hcal : c.callee = .value x)
    (hx : evO env x = some (.func (.func f) [] caps)) (has : c.args.toList.mapM (evO env) = some as) (hcf : CallsTo P f g) (hc : PureC P g (as ++ caps) r)
    (hw : wantA ops env o = some true) (hd : o.dst = some d) (hdn : Nat.blt d n = true) (hnid : AV.nids (as ++ caps) = true) 
    (h : Wo P n n0 ops rest K ((d, r) :: env) hp nx) : Wo P n n0 ops (o :: rest) K env hp nx := by
  intro C ρ w a hs
  have hwant := wantA_sound hs hw
  simp only [wpList, hwant, if_true]
  refine .inl ?_
  unfold Oper.wp
  obtain ⟨argv, hrun, hv⟩ := run_call (P := P) hs ho hcal hx hcf has
  rw [hrun]
  simp only [Oper.upon]
  refine (hc w (XX C.ex hp ρ) argv ?_ (VRs_nid _ _ hnid hv)).mono ?_
  · rintro b (hb | ⟨id, bb, base, h1, h2⟩)
    · exact hs.exo b hb
    · exact (hs.own id bb b base h1 h2).2.2
  · rintro e w' ⟨v, rfl, hP, hv'⟩
    simp only [hd]
    have hch := hs.change (fun _ => False) hP (fun _ _ h => h.elim) (ρ' := ρ) (hp' := hp) (nx' := nx) (fun _ _ h => h) (fun _ _ => rfl) (Nat.le_refl _) hs.fresh
      (fun id b hb => .inl ⟨hb, fun _ _ _ h => h⟩) hs.inj
    exact h C ρ w' _ (hch.1.put (by have := hdn; simp [Nat.blt] at this; omega) (VR_none hv'))

/-- Values that hold no memory. -/
def AV.scal : AV → Bool
  | .bool _ | .sb _ | .int _ _ | .str _ | .niliface | .nilp | .nilfunc | .nilmap | .nilsl => true
  | .tuple cs => cs.all fun c => match c with | .bool _ | .sb _ | .int _ _ | .str _ | .niliface | .nilp | .nilfunc | .nilmap | .nilsl => true | _ => false
  | _ => false

theorem VR_scal1 {w w' X X'} {ρ ρ' : Rho} {a : AV} {v : Value} (ha : (match a with | .bool _ | .sb _ | .int _ _ | .str _ | .niliface | .nilp | .nilfunc | .nilmap | .nilsl => true | _ => false) = true) (h : VR w X ρ a v) : VR w' X' ρ' a v := by
  cases a <;> simp at ha <;> simpa only [VR] using h

theorem VR_scal {w w' X X'} {ρ ρ' : Rho} {a : AV} {v : Value} (ha : a.scal = true) (h : VR w X ρ a v) : VR w' X' ρ' a v := by
  cases a <;> simp only [AV.scal] at ha <;> first | (exact VR_scal1 rfl h) | skip
  case tuple cs =>
    simp only [VR] at h ⊢
    obtain ⟨vs, rfl, h⟩ := h
    refine ⟨vs, rfl, VRs.mk h.length fun i x v hx hv => ?_⟩
    obtain ⟨u, hu, r⟩ := h.get hx
    rw [hu] at hv; cases hv
    exact VR_scal1 (List.all_eq_true.1 ha x (List.mem_of_getElem? hx)) r
  all_goals (cases ha)

mutual
/-- What is owned, read out. -/
def AV.snap (hp : Hp) : AV → AV
  | .ref sz id off len => match getB hp id with
    | some (.arr s els) => match Nat.beq s sz, Nat.ble (off + len) els.length with
      | true, true => .sl sz ((els.drop off).take len)
      | _, _ => .ref sz id off len
    | _ => .ref sz id off len
  | .refc sz id off len cap => match getB hp id with
    | some (.arr s els) => match Nat.beq s sz, Nat.ble (off + len) els.length with
      | true, true => .sl sz ((els.drop off).take len)
      | _, _ => .refc sz id off len cap
    | _ => .refc sz id off len cap
  | .ptr id sz idx sub => match getB hp id with
    | some (.arr s els) => match Nat.beq s sz, els[idx]? with
      | true, some e => .fp (e.cells.drop sub)
      | _, _ => .ptr id sz idx sub
    | _ => .ptr id sz idx sub
  | .agg cs => .agg (AV.snaps hp cs)
  | .iface t v => .iface t (v.snap hp)
  | .func f a b => .func f (AV.snaps hp a) (AV.snaps hp b)
  | .tuple cs => .tuple (AV.snaps hp cs)
  | .map id => .map id
  | .bool b => .bool b
  | .sb b => .sb b
  | .eptr id sz idx sub => .eptr id sz idx sub
  | .int k n => .int k n
  | .str s => .str s
  | .nilp => .nilp
  | .fp cs => .fp cs
  | .nilsl => .nilsl
  | .sl sz l => .sl sz l
  | .nilmap => .nilmap
  | .nilfunc => .nilfunc
  | .niliface => .niliface
  | .junk => .junk
def AV.snaps (hp : Hp) : List AV → List AV
  | [] => []
  | a :: l => a.snap hp :: AV.snaps hp l
end

/-- Do the elements read out name owned memory? -/
def closedB (hp : Hp) : Prop := ∀ id sz els, getB hp id = some (.arr sz els) → AV.nids els = true

theorem nids_iff : ∀ (l : List AV), AV.nids l = true ↔ ∀ a ∈ l, a.nid = true
  | [] => by simp [AV.nids]
  | a :: l => by simp [AV.nids, nids_iff l]

theorem VRs_ones {w X ρ} {e : AV} {ev : Value} (h : VR w X ρ e ev) : VRs w X ρ e.cells ev.cells.toList := h.cells

end
end Go.Av
namespace Go.Av
open Go

section
variable {P : Program} {n n0 : Nat} {env : Env} {hp : Hp} {nx : Nat} {K : Kont}

/-- The rows of a memory hold nothing that names owned memory. -/
def closedL : Hp → Prop
  | [] => True
  | (_, .arr _ els) :: r => AV.nids els = true ∧ closedL r
  | _ :: r => closedL r

theorem closedL_get : ∀ (hp : Hp), closedL hp → ∀ id sz els, getB hp id = some (.arr sz els) → AV.nids els = true
  | [], _, id, sz, els, h => by simp [getB, get, live] at h
  | (k, b) :: r, hc, id, sz, els, h => by
    rw [getB_cons] at h
    split at h
    · cases b <;> simp [live] at h
      obtain ⟨rfl, rfl⟩ := h
      exact hc.1
    · refine closedL_get r ?_ id sz els h
      cases b <;> first | exact hc.2 | exact hc

theorem ref_read {w : World} {X X' : Nat → Prop} {ρ : Rho} {sz b base : Nat} {els : List AV} (hbr : BR w X ρ (.arr sz els) (some (b, base))) (hc : AV.nids els = true)
    (hX : ∀ r, r < w.heap.size → X' r → X r) (hb : ¬ X' b) : ∃ evs, VRs w X' (fun _ => none) els evs ∧ (∀ ev ∈ evs, ev.cells.size = sz) ∧ ReadsAt w X' ⟨b, base, none⟩ (flat evs) := by
  obtain ⟨c, T, fz, evs, h1, h2, h3, h4, h5, h6⟩ := hbr
  refine ⟨evs, VRs_nid _ _ hc (VRs.mono (Pres.refl (fun _ => False) w) (fun _ _ h => h.elim) hX (fun _ _ h => h) _ _ h3), h4, rfl, fun j v hv => ?_, fun _ => hb, h6⟩
  rw [cell_eq h1]; exact h5 j v hv

mutual
theorem snap_sound {C ρ w} (hs : HRel C n0 hp nx ρ w) {hp0 : Hp} (h0 : ∀ id b, getB hp0 id = some b → getB hp id = some b) (hcl : closedL hp0) {X' : Nat → Prop}
    (hX : ∀ r, r < w.heap.size → X' r → XX C.ex hp ρ r) (hX2 : ∀ id b r base, getB hp0 id = some b → ρ id = some (some (r, base)) → ¬ X' r) :
    ∀ (a : AV) (v : Value), VR w (XX C.ex hp ρ) ρ a v → VR w X' ρ (a.snap hp0) v
  | .ref sz id off len, v, h => by
    have hdef : VR w X' ρ (.ref sz id off len) v := VR.mono (Pres.refl (fun _ => False) w) (fun _ _ h => h.elim) hX (fun _ _ h => h) _ _ h
    simp only [AV.snap]
    split <;> try exact hdef
    rename_i s els hb
    split <;> try exact hdef
    rename_i h1 h2
    have h1 := Nat.eq_of_beq_eq_true h1
    have h2 : off + len ≤ els.length := by simpa using h2
    subst h1
    obtain ⟨p, hp1, hbr⟩ := hs.blk id _ (h0 _ _ hb)
    simp only [VR] at h
    obtain ⟨p', ad, c, g1, rfl, g2, gsp, g3⟩ := h
    rw [g1] at hp1; cases hp1
    simp only [VR]
    rcases Nat.eq_zero_or_pos c with hc | hc
    · have hl : len = 0 := by omega
      subst hl; subst hc
      refine ⟨ad, 0, 0, [], rfl, by simp, Nat.le_refl _, by simp [VRs], by simp, ?_⟩
      cases ad with
      | none => simp
      | some ad => exact fun _ => ⟨gsp ad rfl, fun j x hx => by simp [flat] at hx, fun h => (h rfl).elim, fun x hx => by simp [flat] at hx⟩
    · obtain ⟨b, base, rfl, rfl, T, nn, g4, g5⟩ := g3 (by omega)
      obtain ⟨evs, k1, k2, k3⟩ := ref_read hbr (closedL_get _ hcl _ _ _ hb) hX (hX2 _ _ _ _ hb g1)
      refine ⟨_, len, c, (evs.drop off).take len, rfl, by simp; omega, g2, (k1.drop off).take len, fun ev he => k2 ev (List.mem_of_mem_drop (List.mem_of_mem_take he)), fun _ => ⟨rfl, fun j x hx => ?_, fun _ => hX2 _ _ _ _ hb g1, fun x hx => ?_⟩⟩
      · rw [← flat_take (sz := s) (fun ev he => k2 ev (List.mem_of_mem_drop he)), ← flat_drop k2, List.getElem?_take] at hx
        split at hx
        · rw [List.getElem?_drop] at hx
          have := k3.2.1 _ _ hx
          simpa [Nat.add_assoc] using this
        · cases hx
      · simp only [flat, List.mem_flatMap] at hx
        obtain ⟨ev, he, hx⟩ := hx
        exact k3.2.2.2 x (mem_flat (List.mem_of_mem_drop (List.mem_of_mem_take he)) hx)
  | .refc sz id off len cap, v, h0v => by
    have hdef : VR w X' ρ (.refc sz id off len cap) v := VR.mono (Pres.refl (fun _ => False) w) (fun _ _ h => h.elim) hX (fun _ _ h => h) _ _ h0v
    have h := VR_refc h0v
    simp only [AV.snap]
    split <;> try exact hdef
    rename_i s els hb
    split <;> try exact hdef
    rename_i h1 h2
    have h1 := Nat.eq_of_beq_eq_true h1
    have h2 : off + len ≤ els.length := by simpa using h2
    subst h1
    obtain ⟨p, hp1, hbr⟩ := hs.blk id _ (h0 _ _ hb)
    simp only [VR] at h
    obtain ⟨p', ad, c, g1, rfl, g2, gsp, g3⟩ := h
    rw [g1] at hp1; cases hp1
    simp only [VR]
    rcases Nat.eq_zero_or_pos c with hc | hc
    · have hl : len = 0 := by omega
      subst hl; subst hc
      refine ⟨ad, 0, 0, [], rfl, by simp, Nat.le_refl _, by simp [VRs], by simp, ?_⟩
      cases ad with
      | none => simp
      | some ad => exact fun _ => ⟨gsp ad rfl, fun j x hx => by simp [flat] at hx, fun h => (h rfl).elim, fun x hx => by simp [flat] at hx⟩
    · obtain ⟨b, base, rfl, rfl, T, nn, g4, g5⟩ := g3 (by omega)
      obtain ⟨evs, k1, k2, k3⟩ := ref_read hbr (closedL_get _ hcl _ _ _ hb) hX (hX2 _ _ _ _ hb g1)
      refine ⟨_, len, c, (evs.drop off).take len, rfl, by simp; omega, g2, (k1.drop off).take len, fun ev he => k2 ev (List.mem_of_mem_drop (List.mem_of_mem_take he)), fun _ => ⟨rfl, fun j x hx => ?_, fun _ => hX2 _ _ _ _ hb g1, fun x hx => ?_⟩⟩
      · rw [← flat_take (sz := s) (fun ev he => k2 ev (List.mem_of_mem_drop he)), ← flat_drop k2, List.getElem?_take] at hx
        split at hx
        · rw [List.getElem?_drop] at hx
          have := k3.2.1 _ _ hx
          simpa [Nat.add_assoc] using this
        · cases hx
      · simp only [flat, List.mem_flatMap] at hx
        obtain ⟨ev, he, hx⟩ := hx
        exact k3.2.2.2 x (mem_flat (List.mem_of_mem_drop (List.mem_of_mem_take he)) hx)
  | .ptr id sz idx sub, v, h => by
    have hdef : VR w X' ρ (.ptr id sz idx sub) v := VR.mono (Pres.refl (fun _ => False) w) (fun _ _ h => h.elim) hX (fun _ _ h => h) _ _ h
    simp only [AV.snap]
    split <;> try exact hdef
    rename_i s els hb
    split <;> try exact hdef
    rename_i e h1 he
    have h1 := Nat.eq_of_beq_eq_true h1
    subst h1
    obtain ⟨p, hp1, hbr⟩ := hs.blk id _ (h0 _ _ hb)
    simp only [VR] at h
    obtain ⟨b, base, g1, rfl⟩ := h
    rw [g1] at hp1; cases hp1
    obtain ⟨evs, k1, k2, k3⟩ := ref_read hbr (closedL_get _ hcl _ _ _ hb) hX (hX2 _ _ _ _ hb g1)
    obtain ⟨ev, hev, hvr⟩ := k1.get he
    have hm : ev ∈ evs := List.mem_of_getElem? hev
    simp only [VR]
    refine ⟨_, (ev.cells.toList.drop sub), rfl, hvr.cells.drop sub, rfl, fun j x hx => ?_, fun _ => hX2 _ _ _ _ hb g1, fun x hx => k3.2.2.2 x (mem_flat hm (List.mem_of_mem_drop hx))⟩
    rw [List.getElem?_drop] at hx
    have hj : sub + j < s := by
      rcases Nat.lt_or_ge (sub + j) ev.cells.toList.length with h | h
      · rw [← k2 ev hm]; simpa using h
      · rw [List.getElem?_eq_none h] at hx; cases hx
    have := k3.2.1 (idx * s + (sub + j)) x (by rw [flat_get k2 hev hj]; exact hx)
    simpa [Nat.add_assoc] using this
  | .agg cs, v, h => by
    simp only [VR, AV.snap] at h ⊢
    obtain ⟨vs, rfl, g, g1⟩ := h
    exact ⟨vs, rfl, snaps_sound hs h0 hcl hX hX2 _ _ g, g1⟩
  | .iface t x, v, h => by
    simp only [VR, AV.snap] at h ⊢
    obtain ⟨u, rfl, g⟩ := h
    exact ⟨u, rfl, snap_sound hs h0 hcl hX hX2 x u g⟩
  | .func f a b, v, h => by
    simp only [VR, AV.snap] at h ⊢
    obtain ⟨fs, cs, rfl, g1, g2⟩ := h
    exact ⟨fs, cs, rfl, snaps_sound hs h0 hcl hX hX2 _ _ g1, snaps_sound hs h0 hcl hX hX2 _ _ g2⟩
  | .tuple cs, v, h => by
    simp only [VR, AV.snap] at h ⊢
    obtain ⟨vs, rfl, g⟩ := h
    exact ⟨vs, rfl, snaps_sound hs h0 hcl hX hX2 _ _ g⟩
  | .map id, v, h => VR.mono (Pres.refl (fun _ => False) w) (fun _ _ h => h.elim) hX (fun _ _ h => h) _ _ h
  | .bool b, v, h => VR.mono (Pres.refl (fun _ => False) w) (fun _ _ h => h.elim) hX (fun _ _ h => h) _ _ h
  | .sb b, v, h => VR.mono (Pres.refl (fun _ => False) w) (fun _ _ h => h.elim) hX (fun _ _ h => h) _ _ h
  | .eptr id sz idx sub, v, h => VR.mono (Pres.refl (fun _ => False) w) (fun _ _ h => h.elim) hX (fun _ _ h => h) _ _ h
  | .int k n, v, h => VR.mono (Pres.refl (fun _ => False) w) (fun _ _ h => h.elim) hX (fun _ _ h => h) _ _ h
  | .str s, v, h => VR.mono (Pres.refl (fun _ => False) w) (fun _ _ h => h.elim) hX (fun _ _ h => h) _ _ h
  | .nilp, v, h => VR.mono (Pres.refl (fun _ => False) w) (fun _ _ h => h.elim) hX (fun _ _ h => h) _ _ h
  | .fp cs, v, h => VR.mono (Pres.refl (fun _ => False) w) (fun _ _ h => h.elim) hX (fun _ _ h => h) _ _ h
  | .nilsl, v, h => VR.mono (Pres.refl (fun _ => False) w) (fun _ _ h => h.elim) hX (fun _ _ h => h) _ _ h
  | .sl sz l, v, h => VR.mono (Pres.refl (fun _ => False) w) (fun _ _ h => h.elim) hX (fun _ _ h => h) _ _ h
  | .nilmap, v, h => VR.mono (Pres.refl (fun _ => False) w) (fun _ _ h => h.elim) hX (fun _ _ h => h) _ _ h
  | .nilfunc, v, h => VR.mono (Pres.refl (fun _ => False) w) (fun _ _ h => h.elim) hX (fun _ _ h => h) _ _ h
  | .niliface, v, h => VR.mono (Pres.refl (fun _ => False) w) (fun _ _ h => h.elim) hX (fun _ _ h => h) _ _ h
  | .junk, v, h => VR.mono (Pres.refl (fun _ => False) w) (fun _ _ h => h.elim) hX (fun _ _ h => h) _ _ h
theorem snaps_sound {C ρ w} (hs : HRel C n0 hp nx ρ w) {hp0 : Hp} (h0 : ∀ id b, getB hp0 id = some b → getB hp id = some b) (hcl : closedL hp0) {X' : Nat → Prop}
    (hX : ∀ r, r < w.heap.size → X' r → XX C.ex hp ρ r) (hX2 : ∀ id b r base, getB hp0 id = some b → ρ id = some (some (r, base)) → ¬ X' r) :
    ∀ (a : List AV) (v : List Value), VRs w (XX C.ex hp ρ) ρ a v → VRs w X' ρ (AV.snaps hp0 a) v
  | [], v, h => by simpa only [VRs, AV.snaps] using h
  | a :: l, v, h => by
    simp only [VRs, AV.snaps] at h ⊢
    obtain ⟨x, r, rfl, g1, g2⟩ := h
    exact ⟨x, r, rfl, snap_sound hs h0 hcl hX hX2 a x g1, snaps_sound hs h0 hcl hX hX2 l r g2⟩
end
end
end Go.Av
namespace Go.Av
open Go

section
variable {P : Program} {n n0 : Nat} {env : Env} {hp : Hp} {nx : Nat} {K : Kont}

theorem snaps_append (hp : Hp) : ∀ a b, AV.snaps hp (a ++ b) = AV.snaps hp a ++ AV.snaps hp b
  | [], b => rfl
  | x :: a, b => by simp only [List.cons_append, AV.snaps, snaps_append hp a b]

/-- A call that only computes, of what is owned too: its answer holds no memory. -/
theorem Wo_pureS {ops : Array Oper} {o : Oper} {rest : List Oper} {c : Call} {x : Operand} {f g : FuncId} {caps as as' : List AV} {r : AV} {d : Nat} (ho : o.op = .call c) (hcal : c.callee = .value x)
    (hx : evO env x = some (.func (.func f) [] caps)) (has : c.args.toList.mapM (evO env) = some as) (hcf : CallsTo P f g) (hsn : AV.snaps hp (as ++ caps) = as') (hc : PureC P g as' r)
    (hcl : closedL hp) (hsc : r.scal = true) (hw : wantA ops env o = some true) (hd : o.dst = some d) (hdn : Nat.blt d n = true) (hnid : AV.nids as' = true) 
    (h : Wo P n n0 ops rest K ((d, r) :: env) hp nx) : Wo P n n0 ops (o :: rest) K env hp nx := by
  intro C ρ w a hs
  have hwant := wantA_sound hs hw
  simp only [wpList, hwant, if_true]
  refine .inl ?_
  unfold Oper.wp
  obtain ⟨argv, hrun, hv⟩ := run_call (P := P) hs ho hcal hx hcf has
  rw [hrun]
  simp only [Oper.upon]
  have hv2 := snaps_sound hs.toHRel (hp0 := hp) (fun _ _ h => h) hcl (X' := fun _ => False) (fun _ _ h => h.elim) (fun _ _ _ _ _ _ h => h) _ _ hv
  rw [hsn] at hv2
  refine (hc w (fun _ => False) argv (fun _ h => h.elim) (VRs_nid _ _ hnid hv2)).mono ?_
  rintro e w' ⟨v, rfl, hP, hv'⟩
  simp only [hd]
  have hch := hs.change (fun _ => False) hP (fun _ _ h => h.elim) (ρ' := ρ) (hp' := hp) (nx' := nx) (fun _ _ h => h) (fun _ _ => rfl) (Nat.le_refl _) hs.fresh
    (fun id b hb => .inl ⟨hb, fun _ _ _ h => h⟩) hs.inj
  exact h C ρ w' _ (hch.1.put (by have := hdn; simp [Nat.blt] at this; omega) (VR_scal hsc hv'))

/-- New sayings of the environment, out of the old ones read out. -/
def frzOK (hp0 : Hp) (env : Env) : Env → Prop
  | [] => True
  | (t, av') :: r => (∃ av, get env t = some av ∧ av.snap hp0 = av') ∧ frzOK hp0 env r

theorem frzOK_get {hp0 : Hp} {env : Env} : ∀ {new : Env}, frzOK hp0 env new → ∀ t av', get (new ++ env) t = some av' → get env t = some av' ∨ ∃ av, get env t = some av ∧ av.snap hp0 = av'
  | [], _, t, av', h => .inl h
  | (k, x) :: r, hf, t, av', h => by
    rw [List.cons_append, get_cons] at h
    split at h
    · rename_i e; subst e; cases h
      exact .inr hf.1
    · exact frzOK_get hf.2 t av' h

/-- What is owned is given up: it is never written again. -/
theorem SRel.freeze {C ρ w a} (hs : SRel C n n0 env hp nx ρ w a) {id : Nat} {sz : Nat} {els : List AV} {new : Env} (hb : getB hp id = some (.arr sz els)) (hcl : AV.nids els = true)
    (hf : frzOK [(id, .arr sz els)] env new) : SRel C n n0 (new ++ env) ((id, .dead) :: hp) nx ρ w a := by
  have hold : ∀ i b, getB ((id, .dead) :: hp) i = some b → i ≠ id ∧ getB hp i = some b := fun i b h => by
    rw [getB_cons] at h
    split at h
    · simp [live] at h
    · rename_i h1; exact ⟨Ne.symm h1, h⟩
  have hXX : ∀ r, XX C.ex ((id, .dead) :: hp) ρ r → XX C.ex hp ρ r := by
    rintro r (h | ⟨i, b, base, h1, h2⟩)
    · exact .inl h
    · exact .inr ⟨i, b, base, (hold i b h1).2, h2⟩
  have h1 := hs.change (fun _ => False) (Pres.refl _ w) (fun _ _ h => h.elim) (ρ' := ρ) (hp' := (id, .dead) :: hp) (nx' := nx) (fun _ _ h => h) (fun _ _ => rfl) (Nat.le_refl _) hs.fresh
    (fun i b h => .inl ⟨(hold i b h).2, fun _ _ _ h => h⟩) (fun i i' b b' r base base' g1 g2 g3 g4 => hs.inj i i' b b' r base base' (hold i b g1).2 (hold i' b' g2).2 g3 g4)
  refine h1.1.envOf fun t av' ht => ?_
  rcases frzOK_get hf t av' ht with h | ⟨av, h, rfl⟩
  · exact h1.1.env t av' h
  · obtain ⟨v, hv, g⟩ := hs.env t av h
    refine ⟨v, hv, snap_sound hs.toHRel (hp0 := [(id, .arr sz els)]) (fun i b h => ?_) ⟨hcl, trivial⟩ (fun r _ h => hXX r h) (fun i b r base hi hr => ?_) av v g⟩
    · rw [getB_cons] at h
      split at h
      · rename_i e; subst e; simp only [live, Option.some.injEq] at h; subst h; exact hb
      · simp [getB, get, live] at h
    · rw [getB_cons] at hi
      split at hi
      · rename_i e; subst e
        rintro (h | ⟨i', b', base', k1, k2⟩)
        · exact (hs.own id _ r base hb hr).2.1 h
        · obtain ⟨k3, k4⟩ := hold i' b' k1
          exact k3 (hs.inj i' id b' _ r base' base k4 hb k2 hr)
      · simp [getB, get, live] at hi

theorem Wo_freeze {ops : Array Oper} {l : List Oper} (id : Nat) {sz : Nat} {els : List AV} (new : Env) (hb : getB hp id = some (.arr sz els)) (hcl : AV.nids els = true)
    (hf : frzOK [(id, .arr sz els)] env new) (h : Wo P n n0 ops l K (new ++ env) ((id, .dead) :: hp) nx) : Wo P n n0 ops l K env hp nx :=
  fun C ρ w a hs => h C ρ w a (hs.freeze hb hcl hf)
theorem W_freeze {c : Code} (id : Nat) {sz : Nat} {els : List AV} (new : Env) (hb : getB hp id = some (.arr sz els)) (hcl : AV.nids els = true)
    (hf : frzOK [(id, .arr sz els)] env new) (h : W P n n0 c K (new ++ env) ((id, .dead) :: hp) nx) : W P n n0 c K env hp nx :=
  fun C ρ w a hs => h C ρ w a (hs.freeze hb hcl hf)

/-- A nil slice is a slice of one's own. -/
theorem SRel.ownNil {C ρ w a} (hs : SRel C n n0 env hp nx ρ w a) (sz : Nat) {t : Nat} (ht : get env t = some .nilsl) :
    ∃ ρ', SRel C n n0 ((t, .ref sz nx 0 0) :: env) ((nx, .arr sz []) :: hp) (nx + 1) ρ' w a := by
  have hn := hs.fresh nx (Nat.le_refl _)
  have hold : ∀ i b, getB ((nx, .arr sz []) :: hp) i = some b → i = nx ∧ b = .arr sz [] ∨ i ≠ nx ∧ getB hp i = some b := fun i b h => by
    rw [getB_cons] at h
    split at h
    · rename_i h1; simp only [live, Option.some.injEq] at h; exact .inl ⟨h1.symm, h.symm⟩
    · rename_i h1; exact .inr ⟨Ne.symm h1, h⟩
  have h1 := hs.change (fun _ => False) (Pres.refl _ w) (fun _ _ h => h.elim) (ρ' := updR ρ nx none) (hp' := (nx, .arr sz []) :: hp) (nx' := nx + 1)
    (fun i p hi => by
      by_cases e : i = nx
      · subst e; rw [hn] at hi; cases hi
      · simp [updR, e, hi])
    (fun i hi => by have := hs.le; simp only [updR]; rw [if_neg (by omega)]) (by omega)
    (fun i hi => by simp only [updR]; rw [if_neg (by omega)]; exact hs.fresh i (by omega))
    (fun i b h => by
      rcases hold i b h with ⟨rfl, rfl⟩ | ⟨h1, h2⟩
      · exact .inr ⟨none, by simp [updR], rfl, fun r base h => by cases h⟩
      · exact .inl ⟨h2, fun _ _ _ h => h⟩)
    (fun i i' b b' r base base' g1 g2 g3 g4 => by
      rcases hold i b g1 with ⟨rfl, rfl⟩ | ⟨h1, h2⟩ <;> rcases hold i' b' g2 with ⟨rfl, rfl⟩ | ⟨h1', h2'⟩
      · rfl
      · simp [updR] at g3
      · simp [updR] at g4
      · simp only [updR, if_neg h1] at g3
        simp only [updR, if_neg h1'] at g4
        exact hs.inj i i' b b' r base base' h2 h2' g3 g4)
  refine ⟨_, h1.1.envOf fun t' av h => ?_⟩
  rw [get_cons] at h
  split at h
  · rename_i e; subst e; cases h
    obtain ⟨v, hv, g⟩ := hs.env _ _ ht
    simp only [VR] at g; subst g
    exact ⟨_, hv, by simp only [VR]; exact ⟨none, none, 0, by simp [updR], rfl, Nat.le_refl _, fun ad h => (by cases h), fun h => (h rfl).elim⟩⟩
  · exact h1.1.env _ _ h

theorem W_own {c : Code} (sz : Nat) {t : Nat} (ht : get env t = some .nilsl) (h : W P n n0 c K ((t, .ref sz nx 0 0) :: env) ((nx, .arr sz []) :: hp) (nx + 1)) : W P n n0 c K env hp nx :=
  fun C ρ w a hs => let ⟨ρ', hs'⟩ := hs.ownNil sz ht; h C ρ' w a hs'
theorem Wo_own {ops : Array Oper} {l : List Oper} (sz : Nat) {t : Nat} (ht : get env t = some .nilsl) (h : Wo P n n0 ops l K ((t, .ref sz nx 0 0) :: env) ((nx, .arr sz []) :: hp) (nx + 1)) : Wo P n n0 ops l K env hp nx :=
  fun C ρ w a hs => let ⟨ρ', hs'⟩ := hs.ownNil sz ht; h C ρ' w a hs'

/-- Other words for the same value. -/
theorem SRel.say {C ρ w a} (hs : SRel C n n0 env hp nx ρ w a) {t : Nat} {av av' : AV} (ht : get env t = some av) (h : ∀ v, VR w (XX C.ex hp ρ) ρ av v → VR w (XX C.ex hp ρ) ρ av' v) :
    SRel C n n0 ((t, av') :: env) hp nx ρ w a :=
  hs.envOf fun t' x hx => by
    rw [get_cons] at hx
    split at hx
    · rename_i e; subst e; cases hx
      obtain ⟨v, hv, g⟩ := hs.env _ _ ht
      exact ⟨v, hv, h v g⟩
    · exact hs.env _ _ hx
theorem VR_nil_sl {w X ρ} (sz : Nat) (v : Value) (h : VR w X ρ .nilsl v) : VR w X ρ (.sl sz []) v := by
  simp only [VR] at h ⊢; subst h
  exact ⟨none, 0, 0, [], rfl, rfl, Nat.le_refl _, by simp [VRs], by simp, by simp⟩
theorem W_nil {c : Code} (sz : Nat) {t : Nat} (ht : get env t = some .nilsl) (h : W P n n0 c K ((t, .sl sz []) :: env) hp nx) : W P n n0 c K env hp nx :=
  fun C ρ w a hs => h C ρ w a (hs.say ht fun v hv => VR_nil_sl sz v hv)
theorem Wo_nil_sl {ops : Array Oper} {l : List Oper} (sz : Nat) {t : Nat} (ht : get env t = some .nilsl) (h : Wo P n n0 ops l K ((t, .sl sz []) :: env) hp nx) : Wo P n n0 ops l K env hp nx :=
  fun C ρ w a hs => h C ρ w a (hs.say ht fun v hv => VR_nil_sl sz v hv)

/-- Names of owned memory: the i-th of a contract's, of a round's, is the m[i]-th of the walk's. -/
def mf (m : List Nat) (junk : Nat) (i : Nat) : Nat := match m[i]? with | some k => k | none => junk

def embE (m : List Nat) (nx : Nat) (env : Env) : Env → Prop
  | [] => True
  | (t, av) :: r => get env t = some (av.ren (mf m nx)) ∧ embE m nx env r
def embH (m : List Nat) (nx : Nat) (hp : Hp) : Hp → Prop
  | [] => True
  | (id, b) :: r => getB hp (mf m nx id) = some (b.ren (mf m nx)) ∧ embH m nx hp r
def baseOK : Nat → Nat → List Nat → Bool
  | 0, _, _ => true
  | _ + 1, _, [] => false
  | k + 1, i, x :: l => Nat.beq x i && baseOK k (i + 1) l
def nodupB : List Nat → Bool
  | [] => true
  | x :: l => !(l.any (Nat.beq x ·)) && nodupB l

structure Emb (m : List Nat) (n0 nx0 : Nat) (env0 : Env) (hp0 : Hp) (env : Env) (hp : Hp) (nx : Nat) : Prop where
  len : Nat.beq m.length nx0 = true
  base : baseOK n0 0 m = true
  nodup : nodupB m = true
  env : embE m nx env env0
  hp : embH m nx hp hp0

theorem baseOK_get : ∀ (k i : Nat) (m : List Nat), baseOK k i m = true → ∀ j, j < k → m[j]? = some (i + j)
  | 0, i, m, _, j, hj => by omega
  | k + 1, i, [], h, j, hj => by simp [baseOK] at h
  | k + 1, i, x :: l, h, j, hj => by
    simp only [baseOK, Bool.and_eq_true] at h
    have h1 := Nat.eq_of_beq_eq_true h.1
    cases j with
    | zero => simp [h1]
    | succ j => have := baseOK_get k (i + 1) l h.2 j (by omega); simp [this]; omega
theorem nodupB_get : ∀ (m : List Nat), nodupB m = true → ∀ (i j k : Nat), m[i]? = some k → m[j]? = some k → i = j
  | [], _, i, j, k, h, _ => by simp at h
  | x :: l, h, i, j, k, h1, h2 => by
    simp only [nodupB, Bool.and_eq_true, Bool.not_eq_true', List.any_eq_false] at h
    cases i with
    | zero =>
      cases j with
      | zero => rfl
      | succ j =>
        simp at h1 h2; subst h1
        exact (h.1 x (List.mem_of_getElem? h2) (Nat.beq_refl x)).elim
    | succ i =>
      cases j with
      | zero =>
        simp at h1 h2; subst h2
        exact (h.1 x (List.mem_of_getElem? h1) (Nat.beq_refl x)).elim
      | succ j => simp at h1 h2; have := nodupB_get l h.2 i j k h1 h2; omega
theorem embE_get {m nx env} : ∀ {env0 : Env}, embE m nx env env0 → ∀ t av, get env0 t = some av → get env t = some (av.ren (mf m nx))
  | [], _, t, av, h => by simp [get] at h
  | (k, x) :: r, he, t, av, h => by
    rw [get_cons] at h
    split at h
    · rename_i e; subst e; cases h; exact he.1
    · exact embE_get he.2 t av h
theorem embH_get {m nx hp} : ∀ {hp0 : Hp}, embH m nx hp hp0 → ∀ id b, getB hp0 id = some b → getB hp (mf m nx id) = some (b.ren (mf m nx))
  | [], _, t, av, h => by simp [getB, get, live] at h
  | (k, x) :: r, he, t, av, h => by
    rw [getB_cons] at h
    split at h
    · rename_i e; subst e
      have : x = av := by cases x <;> simp [live] at h <;> exact h
      subst this; exact he.1
    · exact embH_get he.2 t av h

def rhoM (m : List Nat) (ρ : Rho) : Rho := fun i => match m[i]? with | some k => ρ k | none => none

theorem mf_rho {m : List Nat} {nx : Nat} {ρ : Rho} (hn : ρ nx = none) : ∀ i p, ρ (mf m nx i) = some p → rhoM m ρ i = some p := by
  intro i p h
  unfold mf at h; unfold rhoM
  cases hm : m[i]? with
  | none => rw [hm] at h; simp only at h; rw [hn] at h; cases h
  | some k => rw [hm] at h; exact h

theorem VRs_mapren {w X} {ρ : Rho} {m : List Nat} {nx : Nat} (hn : ρ nx = none) (f : AV × AV → AV) (g : AV × AV → AV) (hfg : ∀ p, g p = (f p).ren (mf m nx)) : ∀ (l : List (AV × AV)) (vs : List Value),
    VRs w X ρ (l.map g) vs → VRs w X (rhoM m ρ) (l.map f) vs
  | [], vs, h => by simpa only [List.map_nil, VRs] using h
  | p :: l, vs, h => by
    simp only [List.map_cons, VRs] at h ⊢
    obtain ⟨v, r, rfl, h1, h2⟩ := h
    rw [hfg] at h1
    exact ⟨v, r, rfl, VR_ren _ _ (mf_rho hn) _ _ h1, VRs_mapren hn f g hfg l r h2⟩

theorem HRel.emb {C ρ w} {m : List Nat} {nx0 : Nat} {hp0 : Hp} (hs : HRel C n0 hp nx ρ w) (hlen : Nat.beq m.length nx0 = true) (hbase : baseOK n0 0 m = true) (hnd : nodupB m = true) (hh : embH m nx hp hp0) :
    HRel C n0 hp0 nx0 (rhoM m ρ) w ∧ (∀ r, XX C.ex hp0 (rhoM m ρ) r → XX C.ex hp ρ r) := by
  have hlen := Nat.eq_of_beq_eq_true hlen
  have hn := hs.fresh nx (Nat.le_refl _)
  have hid : ∀ id b, getB hp0 id = some b → ∃ k, m[id]? = some k ∧ mf m nx id = k ∧ getB hp k = some (b.ren (mf m nx)) := by
    intro id b h
    have h1 := embH_get hh id b h
    cases hm : m[id]? with
    | some k => have e : mf m nx id = k := by simp [mf, hm]
                exact ⟨k, rfl, e, by rw [e] at h1; exact h1⟩
    | none =>
      have e : mf m nx id = nx := by simp [mf, hm]
      rw [e] at h1
      obtain ⟨p, hp1, _⟩ := hs.blk nx _ h1
      rw [hn] at hp1; cases hp1
  have hXX : ∀ r, XX C.ex hp0 (rhoM m ρ) r → XX C.ex hp ρ r := by
    rintro r (h | ⟨id, b, base, h1, h2⟩)
    · exact .inl h
    · obtain ⟨k, h3, _, h4⟩ := hid id b h1
      simp only [rhoM, h3] at h2
      exact .inr ⟨k, _, base, h4, h2⟩
  refine ⟨⟨fun id b h => ?_, fun id id' b b' r base base' h1 h2 h3 h4 => ?_, fun id b r base h1 h2 => ?_, hs.exo, fun id hid' => ?_, hs.pres, fun i hi => ?_, ?_⟩, hXX⟩
  · obtain ⟨k, h1, h1', h2⟩ := hid id b h
    obtain ⟨p, h3, h4⟩ := hs.blk k _ h2
    refine ⟨p, by simp [rhoM, h1, h3], ?_⟩
    have hm : ∀ (X : AV) (v : Value), VR w (XX C.ex hp ρ) ρ X v → VR w (XX C.ex hp0 (rhoM m ρ)) ρ X v := fun X v => VR.mono (Pres.refl (fun _ => False) w) (fun _ _ h => h.elim) (fun r _ h => hXX r h) (fun _ _ h => h) X v
    have hms : ∀ (X : List AV) (v : List Value), VRs w (XX C.ex hp ρ) ρ X v → VRs w (XX C.ex hp0 (rhoM m ρ)) ρ X v := fun X v => VRs.mono (Pres.refl (fun _ => False) w) (fun _ _ h => h.elim) (fun r _ h => hXX r h) (fun _ _ h => h) X v
    cases b with
    | dead => simp only [Blk.ren] at h4; cases p <;> simp only [BR] at h4
    | siter s ps => simp only [Blk.ren] at h4; cases p <;> simp only [BR] at h4 ⊢ <;> exact h4
    | arr sz els =>
      simp only [Blk.ren] at h4
      cases p with
      | none => simp only [BR] at h4 ⊢; cases els with
        | nil => rfl
        | cons a l => simp [AV.rens] at h4
      | some p =>
        obtain ⟨b, base⟩ := p
        obtain ⟨c, T, fz, evs, k1, k2, k3, k4, k5, k6⟩ := h4
        exact ⟨c, T, fz, evs, k1, k2, VRs_ren _ _ (mf_rho hn) _ _ (hms _ _ k3), k4, k5, k6⟩
    | mp ents =>
      simp only [Blk.ren] at h4
      cases p with
      | none => simp only [BR] at h4
      | some p =>
        obtain ⟨b, base⟩ := p
        obtain ⟨es, clock, k1, k2, k3⟩ := h4
        rw [List.map_map] at k2 k3
        exact ⟨es, clock, k1, VRs_mapren hn _ _ (fun _ => rfl) _ _ (hms _ _ k2), VRs_mapren hn _ _ (fun _ => rfl) _ _ (hms _ _ k3)⟩
  · obtain ⟨k, g1, _, g2⟩ := hid id b h1
    obtain ⟨k', g1', _, g2'⟩ := hid id' b' h2
    simp only [rhoM, g1] at h3
    simp only [rhoM, g1'] at h4
    have := hs.inj k k' _ _ r base base' g2 g2' h3 h4
    subst this
    exact nodupB_get m hnd id id' k g1 g1'
  · obtain ⟨k, g1, _, g2⟩ := hid id b h1
    simp only [rhoM, g1] at h2
    exact hs.own k _ r base g2 h2
  · simp only [rhoM]
    rw [List.getElem?_eq_none (by omega)]
  · have := baseOK_get n0 0 m hbase i hi
    simp only [rhoM, this, Nat.zero_add]
    exact hs.base i hi
  · rcases Nat.lt_or_ge nx0 n0 with h | h
    · have := baseOK_get n0 0 m hbase nx0 h
      rw [List.getElem?_eq_none (by omega)] at this; cases this
    · exact h

theorem SRel.emb {C ρ w a} {m : List Nat} {nx0 : Nat} {env0 : Env} {hp0 : Hp} (hs : SRel C n n0 env hp nx ρ w a) (he : Emb m n0 nx0 env0 hp0 env hp nx) :
    SRel C n n0 env0 hp0 nx0 (rhoM m ρ) w a := by
  have h := hs.toHRel.emb he.len he.base he.nodup he.hp
  have hn := hs.fresh nx (Nat.le_refl _)
  refine { h.1 with env := fun t av ht => ?_, size := hs.size, defers := hs.defers }
  obtain ⟨v, hv, g⟩ := hs.env t _ (embE_get he.env t av ht)
  exact ⟨v, hv, VR_ren _ _ (mf_rho hn) _ _ (VR.mono (Pres.refl (fun _ => False) w) (fun _ _ h => h.elim) (fun r _ hr => h.2 r hr) (fun _ _ h => h) _ _ g)⟩

/-- What is known is said anew, in fewer words. -/
theorem W_emb {c : Code} (m : List Nat) (nx0 : Nat) (env0 : Env) (hp0 : Hp) (he : Emb m n0 nx0 env0 hp0 env hp nx) (h : W P n n0 c K env0 hp0 nx0) : W P n n0 c K env hp nx :=
  fun C _ w a hs => h C _ w a (hs.emb he)

/-- A loop: before each round the walk is where 'E i', 'H i' say. -/
theorem W_loop {ι : Type} {c : Code} (E : ι → Env) (H : ι → Hp) (nx0 : Nat) (μ : ι → Nat) (i0 : ι) (m : List Nat) (h0 : Emb m n0 nx0 (E i0) (H i0) env hp nx)
    (round : ∀ i, W P n n0 c (fun e env hp nx => match e with | .normal => ∃ j m, μ j < μ i ∧ Emb m n0 nx0 (E j) (H j) env hp nx | e => K e env hp nx) (E i) (H i) nx0) :
    W P n n0 (.loop c) K env hp nx := by
  intro C ρ w a hs
  refine wp_loop_ghost (fun k a w => ∃ i ρ, μ i = k ∧ SRel C n n0 (E i) (H i) nx0 ρ w a) (μ i0) ⟨i0, _, rfl, hs.emb h0⟩ ?_
  rintro k a w ⟨i, ρ, rfl, hs⟩
  refine wp_mono (round i C ρ w a hs) ?_
  rintro e a' w' ⟨env', hp', nx', ρ', hq, hs'⟩
  cases e <;> simp only at hq <;> simp only [Exit.then]
  case normal =>
    obtain ⟨j, m, hlt, he⟩ := hq
    exact ⟨μ j, hlt, j, _, rfl, hs'.emb he⟩
  all_goals exact ⟨env', hp', nx', ρ', hq, hs'⟩

/-- How a call ends, in its contract's words. -/
def kfinE (T : Tab) (fn : Func) (n0 : Nat) (r0 : AV) (hp0 : Hp) (nx0 : Nat) : Kont := fun e env hp nx =>
  match e with
  | .normal | .ret => ∃ r m, resA T env hp fn.results.toList = some r ∧ r = r0.ren (mf m nx) ∧ Emb m n0 nx0 [] hp0 env hp nx
  | _ => False

end
end Go.Av
namespace Go.Av
open Go
theorem TOk.mk' {P : Program} {t : TypeId} {d : TypeDesc} {f : TypeInfo} {s b : Nat} {z : Value} {za : AV} (hu : P.underlying t = some d) (hi : P.info? t = some f) (h1 : f.size = s) (h2 : f.bytes = b) (h3 : f.zero = some z)
    (h4 : cav 5 z = some za) (h5 : z.cells.size = s) (h6 : z.cells.toList.all Value.oneCell' = true) : TOk P t ⟨d, s, b, za⟩ :=
  ⟨hu, f, hi, h1, h2, z, h3, h5, fun c hc => List.all_eq_true.1 h6 c hc, fun _ _ => cav_sound _ _ _ h4⟩
end Go.Av
namespace Go.Av
open Go

/-- The fields of a struct, as the table tells them: offset, cells, 'a struct or an array?'. -/
def fldChk (P : Program) : List Field → List (Nat × Nat × Bool) → Prop
  | [], [] => True
  | f :: fs, (o, s, g) :: r => f.offset = o ∧ (∃ i, P.info? f.type = some i ∧ i.size = s) ∧ (∃ d, P.underlying f.type = some d ∧ aggD d = g) ∧ fldChk P fs r
  | _, _ => False

structure FI where
  ti : TI
  flds : List (Nat × Nat × Bool)

structure FOk (P : Program) (t : TypeId) (i : FI) : Prop where
  ok : TOk P t i.ti
  fl : i.flds ≠ [] → ∃ fs, i.ti.desc = .struct fs ∧ fldChk P fs.toList i.flds

theorem fldChk_get {P : Program} : ∀ {fs : List Field} {r : List (Nat × Nat × Bool)}, fldChk P fs r → ∀ {k : Nat} {o s : Nat} {g : Bool}, r[k]? = some (o, s, g) →
    ∃ fd : Field, fs[k]? = some fd ∧ fd.offset = o ∧ (∀ w, (sizeOf fd.type).run P w = .ok s w) ∧ (∀ w, (isAgg fd.type).run P w = .ok g w)
  | [], [], _, k, o, s, g, h => by simp at h
  | f :: fs, (o, s, g) :: r, ⟨h1, ⟨i, h2, h3⟩, ⟨d, h4, h5⟩, h6⟩, 0, o', s', g', h => by
    simp at h
    obtain ⟨rfl, rfl, rfl⟩ := h
    refine ⟨f, rfl, h1, fun w => by simp [sizeOf, typeInfo, h2, h3], fun w => ?_⟩
    unfold isAgg
    simp only [Sem.run_bind, run_underlying h4, Result.andThen_ok]
    subst h5
    cases d <;> simp [aggD]
  | f :: fs, (o, s, g) :: r, ⟨_, _, _, h6⟩, k + 1, o', s', g', h => by
    simp at h
    obtain ⟨fd, h1, h2⟩ := fldChk_get h6 h
    exact ⟨fd, by simpa using h1, h2⟩
  | [], _ :: _, h, _, _, _, _, _ => h.elim
  | _ :: _, [], h, _, _, _, _, _ => h.elim

abbrev FTab := TypeId → Option FI
def FTabOk (P : Program) (T : FTab) : Prop := ∀ t i, T t = some i → FOk P t i

section
variable {P : Program} {n n0 : Nat} {env : Env} {hp : Hp} {nx : Nat} {K : Kont}

theorem FOk.fld {t : TypeId} {i : FI} (h : FOk P t i) {k o s : Nat} {g : Bool} (hk : i.flds[k]? = some (o, s, g)) :
    ∃ (fs : Array Field) (fd : Field), i.ti.desc = .struct fs ∧ fs[k]? = some fd ∧ fd.offset = o ∧ (∀ w, (sizeOf fd.type).run P w = .ok s w) ∧ (∀ w, (isAgg fd.type).run P w = .ok g w) := by
  obtain ⟨fs, h1, h2⟩ := h.fl (by intro e; rw [e] at hk; simp at hk)
  obtain ⟨fd, h3, h4⟩ := fldChk_get h2 hk
  exact ⟨fs, fd, h1, by simpa using h3, h4⟩

theorem opf_fieldAddr_ptr {o : Oper} {t x f id sz idx sub off s g} {i : FI} (ho : o.op = .fieldAddr t x f) (hT : FOk P t i) (hf : i.flds[f]? = some (off, s, g))
    (hz : Nat.blt 0 s = true) (hx : evO env x = some (.ptr id sz idx sub)) : OpS P n n0 o env hp nx (.ptr id sz idx (Nat.add sub off)) hp nx :=
  .pure fun C ρ w st hs' => by
    obtain ⟨fs, fd, hd, hfd, rfl, hsz, _⟩ := hT.fld hf
    have e1 := evO_sound hs' hx
    simp only [VR] at e1
    obtain ⟨b, base, g1, e1⟩ := e1
    have hz : s ≠ 0 := by intro e; rw [e] at hz; cases hz
    refine ⟨.pointer (some ⟨b, base + (idx * sz + (sub + fd.offset)), none⟩), ?_, by simp only [VR]; exact ⟨b, base, g1, rfl⟩⟩
    simp only [execOp, ho, Instr.fieldAt, Instr.sureAddr, e1, Sem.run_bind, hT.ok.run_und, hd, hfd, fieldPlace, hsz, Sem.run_pure, Result.andThen_ok, if_neg hz, Addr_add]
    simp [Nat.add_assoc]
theorem opf_fieldAddr_eptr {o : Oper} {t x f id sz idx sub off s g} {i : FI} (ho : o.op = .fieldAddr t x f) (hT : FOk P t i) (hf : i.flds[f]? = some (off, s, g))
    (hz : Nat.blt 0 s = true) (hx : evO env x = some (.eptr id sz idx sub)) : OpS P n n0 o env hp nx (.eptr id sz idx (Nat.add sub off)) hp nx :=
  .pure fun C ρ w st hs' => by
    obtain ⟨fs, fd, hd, hfd, rfl, hsz, _⟩ := hT.fld hf
    have e1 := evO_sound hs' hx
    simp only [VR] at e1
    obtain ⟨b, base, g1, e1⟩ := e1
    have hz : s ≠ 0 := by intro e; rw [e] at hz; cases hz
    refine ⟨.pointer (some ⟨b, base + (idx * sz + (sub + fd.offset)), none⟩), ?_, by simp only [VR]; exact ⟨b, base, g1, rfl⟩⟩
    simp only [execOp, ho, Instr.fieldAt, Instr.sureAddr, e1, Sem.run_bind, hT.ok.run_und, hd, hfd, fieldPlace, hsz, Sem.run_pure, Result.andThen_ok, if_neg hz, Addr_add]
    simp [Nat.add_assoc]

theorem opf_fieldAddr_fp {o : Oper} {t x f cs off s g} {i : FI} (ho : o.op = .fieldAddr t x f) (hT : FOk P t i) (hf : i.flds[f]? = some (off, s, g))
    (hz : Nat.blt 0 s = true) (hx : evO env x = some (.fp cs)) : OpS P n n0 o env hp nx (.fp (cs.drop off)) hp nx :=
  .pure fun C ρ w st hs' => by
    obtain ⟨fs, fd, hd, hfd, rfl, hsz, _⟩ := hT.fld hf
    have e1 := evO_sound hs' hx
    simp only [VR] at e1
    obtain ⟨a, vs, e1, g1, g2, g3, g4, g5⟩ := e1
    obtain ⟨ab, ao, as⟩ := a
    simp only at g2 g3 g4; subst g2
    have hz : s ≠ 0 := by intro e; rw [e] at hz; cases hz
    refine ⟨.pointer (some ⟨ab, ao + fd.offset, none⟩), ?_, ?_⟩
    · simp only [execOp, ho, Instr.fieldAt, Instr.sureAddr, e1, Sem.run_bind, hT.ok.run_und, hd, hfd, fieldPlace, hsz, Sem.run_pure, Result.andThen_ok, if_neg hz, Addr_add]
    · simp only [VR]
      refine ⟨_, _, rfl, g1.drop fd.offset, rfl, fun j v hv => ?_, fun hne => g4 (fun e => hne (by simp [e])), fun c hc => g5 c (List.mem_of_mem_drop hc)⟩
      rw [List.getElem?_drop] at hv
      have := g3 _ _ hv
      simpa [Nat.add_assoc] using this

theorem opf_field {o : Oper} {t x f cs av off s g} {i : FI} (ho : o.op = .field t x f) (hT : FOk P t i) (hf : i.flds[f]? = some (off, s, g))
    (hx : evO env x = some (.agg cs)) (h : ldA g cs off s = some av) : OpS P n n0 o env hp nx av hp nx :=
  .pure fun C ρ w st hs => by
    obtain ⟨fs, fd, hd, hfd, rfl, hsz, hag⟩ := hT.fld hf
    have h1 := evO_sound hs hx
    simp only [VR] at h1
    obtain ⟨vs, h1, h2, h3⟩ := h1
    simp only [execOp, ho, Instr.field, Sem.run_bind, hT.ok.run_und, Result.andThen_ok, h1, hd, hfd, asAgg, Sem.run_pure, part, hag]
    cases g <;> simp only [ldA] at h
    · obtain ⟨v, hv, r⟩ := h2.get h
      refine ⟨v, ?_, r⟩
      simp at hv
      simp [hv]
    · split at h
      · rename_i hle
        cases h
        refine ⟨.agg (vs.extract fd.offset (fd.offset + s)), by simp [hsz], ?_⟩
        simp only [VR]
        refine ⟨_, rfl, ?_, ?_⟩
        · have := (h2.drop fd.offset).take s
          simpa [Array.toList_extract, List.extract_eq_take_drop] using this
        · intro c hc
          simp only [Array.toList_extract, List.extract_eq_take_drop] at hc
          exact h3 c (List.mem_of_mem_drop (List.mem_of_mem_take hc))
      · cases h

theorem run_placesF (w : World) : ∀ (l : List Field) (r : List (Nat × Nat × Bool)), fldChk P l r →
    (l.mapM fun f => (do pure (f.offset, ← sizeOf f.type) : Sem (Nat × Nat))).run P w = .ok (r.map fun p => (p.1, p.2.1)) w
  | [], [], _ => by simp
  | f :: l, (o, s, g) :: r, ⟨h1, ⟨i, h2, h3⟩, _, h6⟩ => by
    have hsz : (sizeOf f.type).run P w = .ok s w := by simp [sizeOf, typeInfo, h2, h3]
    simp only [List.mapM_cons, Sem.run_bind, hsz, Result.andThen_ok, Sem.run_pure, run_placesF w l r h6]
    simp [h1]
  | [], _ :: _, h => h.elim
  | _ :: _, [], h => h.elim

theorem opf_build {o : Oper} {t parts ps r} {i : FI} (ho : o.op = .build t parts) (hT : FOk P t i) (hne : i.flds ≠ [])
    (hp' : evParts env parts.toList = some ps) (h : fillA (fun k => (i.flds[k]?).map fun p => (p.1, p.2.1)) i.ti.zero.cells ps = some r) :
    OpS P n n0 o env hp nx (.agg r) hp nx :=
  .pure fun C ρ w st hs => by
    obtain ⟨fs, hd, hck⟩ := hT.fl hne
    obtain ⟨f, hf, _, _, z, hz1, hz2, hz3, hz4⟩ := hT.ok.info
    obtain ⟨q1, q2⟩ := evParts_sound hs _ _ hp'
    have hz5 : VR w (XX C.ex hp ρ) ρ i.ti.zero z := VR_none (hz4 _ _)
    obtain ⟨us, g1, g2, g3⟩ := fill_sound (place := fun k => (i.flds[k]?).map fun p => (p.1, p.2.1)) ps _ i.ti.zero.cells r z.cells q1 q2 hz5.cells hz3 h
    refine ⟨.agg us, ?_, by simp only [VR]; exact ⟨us, rfl, g2, g3⟩⟩
    have hpl' : (fs.mapM fun f => (do pure (f.offset, ← sizeOf f.type) : Sem (Nat × Nat))).run P w = .ok (i.flds.map fun p => (p.1, p.2.1)).toArray w := by
      rw [Array.mapM_eq_mapM_toList]
      simp only [Sem.run_map, run_placesF w _ _ hck, Result.andThen_ok]
    simp only [execOp, ho, Instr.build, Sem.run_bind, zeroValue, typeInfo, run_program, Result.andThen_ok, hf, hz1, hT.ok.run_und, hd, hpl', Sem.run_pure]
    have e : (Array.map (fun (x : Nat × Operand) => match x with | (i, x) => (i, st.eval x)) parts).toList = parts.toList.map fun p => (p.1, st.eval p.2) := by simp
    rw [e]
    have e2 : (fun (x : Nat) => (i.flds.map fun p => (p.1, p.2.1)).toArray[x]?) = fun k => (i.flds[k]?).map fun p => (p.1, p.2.1) := by funext k; simp
    rw [e2, g1]
    simp

/- THE PROGRAM THAT WALKS. -/
def ikEq : IntKind → IntKind → Bool
  | .i8, .i8 | .i16, .i16 | .i32, .i32 | .i64, .i64 | .u8, .u8 | .u16, .u16 | .u32, .u32 | .u64, .u64 => true
  | _, _ => false
theorem ikEq_eq {a b : IntKind} (h : ikEq a b = true) : a = b := by cases a <;> cases b <;> simp [ikEq] at h <;> rfl

def evL (env : Env) : List Operand → Option (List AV)
  | [] => some []
  | x :: l => match evO env x with
    | some a => match evL env l with
      | some r => some (a :: r)
      | none => none
    | none => none
theorem evL_mapM : ∀ (l : List Operand), l.mapM (evO env) = evL env l
  | [] => rfl
  | x :: l => by
    rw [List.mapM_cons, evL_mapM l]
    simp only [evL, Option.bind_eq_bind, Option.pure_def]
    cases evO env x <;> simp
    cases evL env l <;> simp

def evP (env : Env) : List (Nat × Operand) → Option (List (Nat × AV))
  | [] => some []
  | x :: l => match evO env x.2 with
    | some a => match evP env l with
      | some r => some ((x.1, a) :: r)
      | none => none
    | none => none
theorem evP_parts : ∀ (l : List (Nat × Operand)), evParts env l = evP env l
  | [] => rfl
  | x :: l => by
    have ih := evP_parts l
    unfold evParts at ih ⊢
    rw [List.mapM_cons, ih]
    simp only [evP, Option.bind_eq_bind, Option.pure_def]
    cases evO env x.2 <;> simp
    cases evP env l <;> simp

def ldF (agg : Bool) (cs : List AV) (sub size : Nat) : Option AV :=
  match agg with
  | true => match Nat.ble (Nat.add sub size) cs.length with
    | true => forceL ((cs.drop sub).take size) fun l => some (.agg l)
    | false => none
  | false => cs[sub]?
theorem ldF_ldA {agg : Bool} {cs : List AV} {sub size : Nat} {av : AV} (h : ldF agg cs sub size = some av) : ldA agg cs sub size = some av := by
  cases agg <;> simp only [ldF, ldA] at h ⊢
  · exact h
  · rw [forceL_eq] at h; exact h

def isIface : TypeDesc → Bool
  | .interface _ => true
  | _ => false
def intOfD : TypeDesc → Option IntKind
  | .int k => some k
  | _ => none
def isStrD : TypeDesc → Bool
  | .string => true
  | _ => false
def isSlD : TypeDesc → Bool
  | .slice _ => true
  | _ => false

def stBin (op : BinOp) (x y : AV) (yo : Operand) : Option AV :=
  match x, y with
  | .int k a, .int k' b => match op with
    | .shl => match yo with
      | .const (.int _ (.ofNat m)) => some (.int k (k.wrap (a * 2 ^ min m k.bits)))
      | _ => none
    | .shr => match yo with
      | .const (.int _ (.ofNat m)) => some (.int k (a.fdiv (2 ^ min m k.bits)))
      | _ => none
    | .quo => match ikEq k k', yo with
      | true, .const (.int _ (.ofNat (m + 1))) => some (.int k (k.wrap (a.tdiv ((m + 1 : Nat) : Int))))
      | _, _ => none
    | .rem => match ikEq k k', yo with
      | true, .const (.int _ (.ofNat (m + 1))) => some (.int k (a.tmod ((m + 1 : Nat) : Int)))
      | _, _ => none
    | _ => match ikEq k k' with
      | true => abin op k a b
      | false => none
  | .str a, .str b => sbin op a b
  | _, _ => none

/-- Types that the walk writes out by itself. -/
def autoT (i : TI) : Bool := Nat.ble i.size 24

def stLen (T : FTab) (env : Env) (args : List Operand) (tys : List TypeId) : Option AV :=
  match args, tys with
  | [x], [t] => match evO env x, T t with
    | some (.str s), some i => match isStrD i.ti.desc with | true => some (.int .i64 s.length) | false => none
    | some (.sl _ l), some i => match isSlD i.ti.desc with | true => some (.int .i64 l.length) | false => none
    | some (.ref _ _ _ len), some i => match isSlD i.ti.desc with | true => some (.int .i64 len) | false => none
    | some (.refc _ _ _ len _), some i => match isSlD i.ti.desc with | true => some (.int .i64 len) | false => none
    | some .nilsl, some i => match isSlD i.ti.desc with | true => some (.int .i64 0) | false => none
    | _, _ => none
  | _, _ => none

def stepA (T : FTab) (o : Oper) (env : Env) (hp : Hp) (nx : Nat) : Option (AV × Hp × Nat) :=
  match o.op with
  | .move x => match evO env x with | some av => some (av, hp, nx) | none => none
  | .assign x => match evO env x with | some av => some (av, hp, nx) | none => none
  | .pick c x y => match evO env c with
    | some (.bool b) => match evO env (cond b x y) with | some av => some (av, hp, nx) | none => none
    | _ => none
  | .binOp op _ x y _ => match evO env x, evO env y with
    | some a, some b => match stBin op a b y with | some av => some (av, hp, nx) | none => none
    | _, _ => none
  | .unOp op _ x => match op, evO env x with
    | .not, some (.bool b) => some (.bool (!b), hp, nx)
    | .not, some (.sb b) => some (.sb (!b), hp, nx)
    | .neg, some (.int k a) => some (.int k (k.wrap (0 - a)), hp, nx)
    | _, _ => none
  | .extract x i => match evO env x with
    | some (.tuple vs) => match vs[i]? with | some av => some (av, hp, nx) | none => none
    | _ => none
  | .nilCheck x => match evO env x with
    | some (.ptr id sz idx sub) => some (.ptr id sz idx sub, hp, nx)
    | some (.fp cs) => some (.fp cs, hp, nx)
    | _ => none
  | .makeInterface t x => match T t, evO env x with
    | some i, some av => match isIface i.ti.desc with | false => some (.iface t av, hp, nx) | true => none
    | _, _ => none
  | .makeFunc f first captured => match evL env first.toList, evL env captured.toList with
    | some a, some b => some (.func f a b, hp, nx)
    | _, _ => none
  | .convert s d x => match T s, T d, evO env x with
    | some _, some i, some (.int _ a) => match intOfD i.ti.desc with | some k => some (.int k (k.wrap a), hp, nx) | none => none
    | some _, some i, some (.str a) => match isStrD i.ti.desc with | true => some (.str a, hp, nx) | false => none
    | _, _, _ => none
  | .load t x => match T t, evO env x with
    | some i, some (.ptr id sz idx sub) => match autoT i.ti, getB hp id with
      | true, some (.arr s els) => match Nat.beq s sz, els[idx]? with
        | true, some e => match Nat.beq sub 0, Nat.beq i.ti.size s, (aggD i.ti.desc == e.isAgg) with
          | true, true, true => some (e, hp, nx)
          | _, _, _ => match ldF (aggD i.ti.desc) e.cells sub i.ti.size with | some av => some (av, hp, nx) | none => none
        | _, _ => none
      | _, _ => none
    | some i, some (.fp cs) => match autoT i.ti with
      | true => match ldF (aggD i.ti.desc) cs 0 i.ti.size with | some av => some (av, hp, nx) | none => none
      | false => none
    | _, _ => none
  | .store t x y => match T t, evO env x, evO env y with
    | some i, some (.ptr id sz 0 sub), some av => match autoT i.ti, getB hp id with
      | true, some (.arr s [e]) => match Nat.beq s sz, Nat.beq av.cells.length i.ti.size, Nat.blt 0 i.ti.size, av.flatOk with
        | true, true, true, true => match stA e sub av with
          | some (.agg l) => forceL l fun l => some (.junk, (id, .arr sz [.agg l]) :: hp, nx)
          | some e' => some (.junk, (id, .arr sz [e']) :: hp, nx)
          | none => none
        | _, _, _, _ => none
      | _, _ => none
    | _, _, _ => none
  | .fieldAddr t x f => match T t, evO env x with
    | some i, some (.ptr id sz idx sub) => match i.flds[f]? with
      | some (off, s, _) => match Nat.blt 0 s with | true => some (.ptr id sz idx (Nat.add sub off), hp, nx) | false => none
      | none => none
    | some i, some (.eptr id sz idx sub) => match i.flds[f]? with
      | some (off, s, _) => match Nat.blt 0 s with | true => some (.eptr id sz idx (Nat.add sub off), hp, nx) | false => none
      | none => none
    | some i, some (.fp cs) => match i.flds[f]? with
      | some (off, s, _) => match Nat.blt 0 s with | true => some (.fp (cs.drop off), hp, nx) | false => none
      | none => none
    | _, _ => none
  | .field t x f => match T t, evO env x with
    | some i, some (.agg cs) => match autoT i.ti, i.flds[f]? with
      | true, some (off, s, g) => match ldF g cs off s with | some av => some (av, hp, nx) | none => none
      | _, _ => none
    | _, _ => none
  | .alloc t => match T t with
    | some i => match autoT i.ti, Nat.beq i.ti.zero.cells.length i.ti.size with
      | true, true => some (.ptr nx i.ti.size 0 0, (nx, .arr i.ti.size [i.ti.zero]) :: hp, Nat.succ nx)
      | _, _ => none
    | none => none
  | .box t x => match T t, evO env x with
    | some i, some av => match autoT i.ti, Nat.beq av.cells.length i.ti.size, av.flatOk with
      | true, true, true => some (.ptr nx i.ti.size 0 0, (nx, .arr i.ti.size [av]) :: hp, Nat.succ nx)
      | _, _, _ => none
    | _, _ => none
  | .build t parts => match T t, evP env parts.toList with
    | some i, some ps => match autoT i.ti, i.flds with
      | true, _ :: _ => match fillA (fun k => (i.flds[k]?).map fun p => (p.1, p.2.1)) i.ti.zero.cells ps with
        | some r => forceL r fun r => some (.agg r, hp, nx)
        | none => none
      | _, _ => none
    | _, _ => none
  | .call { callee := .builtin .len, args, argTypes } => match stLen T env args.toList argTypes.toList with | some av => some (av, hp, nx) | none => none
  | _ => none


theorem stBin_sound {o : Oper} {op t x y yt a b av} (ho : o.op = .binOp op t x y yt) (hx : evO env x = some a) (hy : evO env y = some b) (h : stBin op a b y = some av) :
    OpS P n n0 o env hp nx av hp nx := by
  unfold stBin at h
  split at h
  · rename_i k x' k' y'
    split at h
    · split at h <;> try (cases h; done)
      rename_i j m
      cases h
      have hy' : y' = (m : Int) := by simp [evO, cav] at hy; exact hy.2.symm
      subst hy'
      have := op_shl (P := P) (n := n) (n0 := n0) (hp := hp) (nx := nx) ho hx hy (by omega)
      simpa using this
    · split at h <;> try (cases h; done)
      rename_i j m
      cases h
      have hy' : y' = (m : Int) := by simp [evO, cav] at hy; exact hy.2.symm
      subst hy'
      have := op_shr (P := P) (n := n) (n0 := n0) (hp := hp) (nx := nx) ho hx hy (by omega)
      simpa using this
    · split at h <;> try (cases h; done)
      rename_i j m hk
      cases h
      have hk := ikEq_eq hk
      subst hk
      have hy' : y' = ((m + 1 : Nat) : Int) := by simp [evO, cav] at hy; exact hy.2.symm
      subst hy'
      exact op_quo ho hx hy (by omega)
    · split at h <;> try (cases h; done)
      rename_i j m hk
      cases h
      have hk := ikEq_eq hk
      subst hk
      have hy' : y' = ((m + 1 : Nat) : Int) := by simp [evO, cav] at hy; exact hy.2.symm
      subst hy'
      exact op_rem ho hx hy (by omega)
    · split at h
      · rename_i hk
        have hk := ikEq_eq hk
        subst hk
        exact op_bin ho hx hy h
      · cases h
  · exact op_sbin ho hx hy h
  · cases h

theorem op_len_refc {o : Oper} {x t sz id off len cap c e} {i : TI} (ho : o.op = .call c) (hc : c.callee = .builtin .len) (ha : c.args.toList = [x]) (hat : c.argTypes.toList = [t]) (hT : TOk P t i) (hd : i.desc = .slice e) (hx : evO env x = some (.refc sz id off len cap)) :
    OpS P n n0 o env hp nx (.int .i64 len) hp nx := by
  cases x with
  | tmp t' =>
    intro C ρ w a hs
    obtain ⟨v, h1, h2⟩ := hs.env _ _ hx
    have hs' := hs.envOf (env' := (t', .ref sz id off len) :: env) fun u av h => by
      rw [get_cons] at h
      split at h
      · rename_i e; subst e; cases h; exact ⟨v, h1, VR_refc h2⟩
      · exact hs.env _ _ h
    have := op_len_ref (env := (t', .ref sz id off len) :: env) ho hc ha hat hT hd (show get _ t' = _ from by rw [get_cons, if_pos rfl]) C ρ w a hs'
    obtain ⟨v, w', ρ', g1, g2, g3, g4, g5⟩ := this
    obtain ⟨e1, e2⟩ := g4 rfl
    subst e1; subst e2
    exact ⟨v, _, _, g1, hs, g3, fun _ => ⟨rfl, rfl⟩, g5⟩
  | const v =>
    exfalso
    simp only [evO] at hx
    unfold cav at hx
    split at hx <;> try (cases hx; done)
    · split at hx
      · simp at hx
      · cases hx
    · simp at hx
  | func f => cases hx
  | global g => cases hx

theorem stLen_sound {T : FTab} (hT : FTabOk P T) {o : Oper} {c : Call} {av : AV} (ho : o.op = .call c) (hc : c.callee = .builtin .len) (h : stLen T env c.args.toList c.argTypes.toList = some av) :
    OpS P n n0 o env hp nx av hp nx := by
  unfold stLen at h
  split at h
  · rename_i args tys x t ha hat
    split at h <;> try (cases h; done)
    · rename_i s i hx hi
      split at h <;> try (cases h; done)
      rename_i hd
      cases h
      refine op_len_str ho hc ha hat (hT _ _ hi).ok ?_ hx
      cases hdd : i.ti.desc <;> rw [hdd] at hd <;> simp [isStrD] at hd <;> rfl
    · rename_i sz l i hx hi
      split at h <;> try (cases h; done)
      rename_i hd
      cases h
      cases hdd : i.ti.desc <;> rw [hdd] at hd <;> simp [isSlD] at hd
      exact op_len_sl ho hc ha hat (hT _ _ hi).ok hdd hx
    · rename_i sz id off len i hx hi
      split at h <;> try (cases h; done)
      rename_i hd
      cases h
      cases hdd : i.ti.desc <;> rw [hdd] at hd <;> simp [isSlD] at hd
      exact op_len_ref ho hc ha hat (hT _ _ hi).ok hdd hx
    · rename_i sz id off len cap i hx hi
      split at h <;> try (cases h; done)
      rename_i hd
      cases h
      cases hdd : i.ti.desc <;> rw [hdd] at hd <;> simp [isSlD] at hd
      exact op_len_refc ho hc ha hat (hT _ _ hi).ok hdd hx
    · rename_i i hx hi
      split at h <;> try (cases h; done)
      rename_i hd
      cases h
      cases hdd : i.ti.desc <;> rw [hdd] at hd <;> simp [isSlD] at hd
      exact op_len_nil ho hc ha hat (hT _ _ hi).ok hdd hx
  · cases h

theorem stepA_sound {T : FTab} (hT : FTabOk P T) {o : Oper} {av : AV} {hp' : Hp} {nx' : Nat} (h : stepA T o env hp nx = some (av, hp', nx')) : OpS P n n0 o env hp nx av hp' nx' := by
  unfold stepA at h
  split at h
  · rename_i x ho
    split at h <;> try (cases h; done)
    rename_i hx; cases h; exact op_move ho hx
  · rename_i x ho
    split at h <;> try (cases h; done)
    rename_i hx; cases h; exact op_assign ho hx
  · rename_i c x y ho
    split at h <;> try (cases h; done)
    rename_i b hc
    split at h <;> try (cases h; done)
    rename_i hx; cases h; exact op_pick ho hc hx
  · rename_i op t x y yt ho
    split at h <;> try (cases h; done)
    rename_i a b hx hy
    split at h <;> try (cases h; done)
    rename_i hb; cases h; exact stBin_sound ho hx hy hb
  · rename_i op t x ho
    split at h <;> try (cases h; done)
    · rename_i b hx; cases h; exact op_not ho hx
    · rename_i b hx; cases h; exact op_nots ho hx
    · rename_i k a hx; cases h; exact op_neg ho hx
  · rename_i x i ho
    split at h <;> try (cases h; done)
    rename_i vs hx
    split at h <;> try (cases h; done)
    rename_i hv; cases h; exact op_extract ho hx hv
  · rename_i x ho
    split at h <;> try (cases h; done)
    · rename_i hx; cases h; exact op_nilcheck_ptr ho hx
    · rename_i hx; cases h; exact op_nilcheck_fp ho hx
  · rename_i t x ho
    split at h <;> try (cases h; done)
    rename_i i av' hi hx
    split at h <;> try (cases h; done)
    rename_i hd
    cases h
    refine op_iface ho (hT _ _ hi).ok ?_ hx
    cases hdd : i.ti.desc <;> rw [hdd] at hd <;> simp [isIface] at hd <;> rfl
  · rename_i f first captured ho
    split at h <;> try (cases h; done)
    rename_i a b ha hb
    cases h
    exact op_makeFunc ho (by rw [evL_mapM]; exact ha) (by rw [evL_mapM]; exact hb)
  · rename_i s d x ho
    split at h <;> try (cases h; done)
    · rename_i i' i k a hs hd hx
      split at h <;> try (cases h; done)
      rename_i k' hk
      cases h
      refine op_convint ho (hT _ _ hs).ok (hT _ _ hd).ok ?_ hx
      cases hdd : i.ti.desc <;> rw [hdd] at hk <;> simp [intOfD] at hk
      subst hk; rfl
    · rename_i i' i a hs hd hx
      split at h <;> try (cases h; done)
      rename_i hk
      cases h
      refine op_convstr ho (hT _ _ hs).ok (hT _ _ hd).ok ?_ hx
      cases hdd : i.ti.desc <;> rw [hdd] at hk <;> simp [isStrD] at hk
  · rename_i t x ho
    split at h <;> try (cases h; done)
    · rename_i i id sz idx sub hi hx
      split at h <;> try (cases h; done)
      rename_i s els hau hb
      split at h <;> try (cases h; done)
      rename_i e hs he
      have hs := Nat.eq_of_beq_eq_true hs
      subst hs
      split at h
      · rename_i h1 h2 h3
        have h1 := Nat.eq_of_beq_eq_true h1
        subst h1
        cases h
        exact op_load_whole ho (hT _ _ hi).ok hx hb he h2 (by simpa using h3)
      · split at h <;> try (cases h; done)
        rename_i hl
        cases h
        exact op_load_part ho (hT _ _ hi).ok hx hb he (ldF_ldA hl)
    · rename_i i cs hi hx
      split at h <;> try (cases h; done)
      split at h <;> try (cases h; done)
      rename_i hl
      cases h
      exact op_load_fp ho (hT _ _ hi).ok hx (ldF_ldA hl)
  · rename_i t x y ho
    split at h <;> try (cases h; done)
    rename_i i id sz sub av' hi hx hy
    split at h <;> try (cases h; done)
    rename_i s e hau hb
    split at h <;> try (cases h; done)
    rename_i h1 h2 h3 h4
    have h1 := Nat.eq_of_beq_eq_true h1
    subst h1
    split at h <;> try (cases h; done)
    · rename_i l hst
      rw [forceL_eq] at h
      cases h
      exact op_store ho (hT _ _ hi).ok hx hy hb (idx := 0) rfl h2 h3 h4 hst
    · rename_i e' _ hst
      cases h
      exact op_store ho (hT _ _ hi).ok hx hy hb (idx := 0) rfl h2 h3 h4 hst
  · rename_i t x f ho
    split at h <;> try (cases h; done)
    · rename_i i id sz idx sub hi hx
      split at h <;> try (cases h; done)
      rename_i off s g hf
      split at h <;> try (cases h; done)
      rename_i hz
      cases h
      exact opf_fieldAddr_ptr ho (hT _ _ hi) hf hz hx
    · rename_i i id sz idx sub hi hx
      split at h <;> try (cases h; done)
      rename_i off s g hf
      split at h <;> try (cases h; done)
      rename_i hz
      cases h
      exact opf_fieldAddr_eptr ho (hT _ _ hi) hf hz hx
    · rename_i i cs hi hx
      split at h <;> try (cases h; done)
      rename_i off s g hf
      split at h <;> try (cases h; done)
      rename_i hz
      cases h
      exact opf_fieldAddr_fp ho (hT _ _ hi) hf hz hx
  · rename_i t x f ho
    split at h <;> try (cases h; done)
    rename_i i cs hi hx
    split at h <;> try (cases h; done)
    rename_i off s g hau hf
    split at h <;> try (cases h; done)
    rename_i hl
    cases h
    exact opf_field ho (hT _ _ hi) hf hx (ldF_ldA hl)
  · rename_i t ho
    split at h <;> try (cases h; done)
    rename_i i hi
    split at h <;> try (cases h; done)
    rename_i hau hz
    cases h
    exact op_alloc ho (hT _ _ hi).ok
  · rename_i t x ho
    split at h <;> try (cases h; done)
    rename_i i av' hi hx
    split at h <;> try (cases h; done)
    rename_i hau hz hf
    have hz := Nat.eq_of_beq_eq_true hz
    cases h
    rw [← hz]
    exact op_box ho hx hf
  · rename_i t parts ho
    split at h <;> try (cases h; done)
    rename_i i ps hi hps
    split at h <;> try (cases h; done)
    rename_i p fl hau hfl
    split at h <;> try (cases h; done)
    rename_i r hr
    rw [forceL_eq] at h
    cases h
    exact opf_build ho (hT _ _ hi) (by rw [hfl]; simp) (by rw [evP_parts]; exact hps) hr
  · rename_i args argTypes ho
    split at h <;> try (cases h; done)
    rename_i hl
    cases h
    exact stLen_sound hT ho rfl hl
  · cases h

end
end Go.Av
