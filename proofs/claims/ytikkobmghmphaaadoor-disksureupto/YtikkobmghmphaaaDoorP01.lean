/- Part 1 of the proof: what the operations of the model do to values as Lean sees them, and plain laws. -/
import Derived.WalkKit
namespace Go.Av
open Go

/-- Abstract values: what a Go value says, memory that is never written again read out. -/
inductive AV where
  | bool (b : Bool)
  | sb (b : Bool)
  | int (k : IntKind) (n : Int)
  | str (s : List UInt8)
  | nilp
  | ptr (id sz idx sub : Nat)
  | eptr (id sz idx sub : Nat)
  | fp (cs : List AV)
  | nilsl
  | sl (sz : Nat) (l : List AV)
  | ref (sz id off len : Nat)
  | refc (sz id off len cap : Nat)
  | nilmap
  | map (id : Nat)
  | func (f : Fn) (first captured : List AV)
  | nilfunc
  | iface (t : TypeId) (v : AV)
  | niliface
  | agg (cs : List AV)
  | tuple (vs : List AV)
  | junk
  deriving Inhabited

@[simp] def AV.cells : AV → List AV
  | .agg cs => cs
  | v => [v]

/-- The abstract memory that the walk owns. -/
inductive Blk where
  | arr (sz : Nat) (els : List AV)
  | mp (ents : List (AV × AV))
  | siter (s : List UInt8) (pos : Nat)
  | dead
  deriving Inhabited

abbrev Rho := Nat → Option (Option (Nat × Nat))

def flat (evs : List Value) : List Value := evs.flatMap fun v => v.cells.toList

/-- From address a on the world reads vs, in a block that is not among X. -/
def ReadsAt (w : World) (X : Nat → Prop) (a : Addr) (vs : List Value) : Prop :=
  a.spot = none ∧ (∀ j v, vs[j]? = some v → w.cell? ⟨a.block, a.off + j, none⟩ = some v) ∧ (vs ≠ [] → ¬ X a.block) ∧ (∀ v ∈ vs, v.oneCell' = true)

mutual
def VR (w : World) (X : Nat → Prop) (ρ : Rho) : AV → Value → Prop
  | .bool b, v => v = .bool b
  | .sb b, v => v = .bool b
  | .int k n, v => v = .int k n
  | .str s, v => v = .string ⟨s.toArray⟩
  | .nilp, v => v = .pointer none
  | .ptr id sz idx sub, v => ∃ b base, ρ id = some (some (b, base)) ∧ v = .pointer (some ⟨b, base + (idx * sz + sub), none⟩)
  | .eptr id sz idx sub, v => ∃ b base, ρ id = some (some (b, base)) ∧ v = .pointer (some ⟨b, base + (idx * sz + sub), none⟩)
  | .fp cs, v => ∃ a vs, v = .pointer (some a) ∧ VRs w X (fun _ => none) cs vs ∧ ReadsAt w X a vs
  | .nilsl, v => v = .slice none 0 0
  | .sl sz l, v => ∃ a n c evs, v = .slice a n c ∧ n = l.length ∧ n ≤ c ∧ VRs w X (fun _ => none) l evs ∧ (∀ ev ∈ evs, ev.cells.size = sz) ∧
      (match a with | some ad => l ≠ [] → ReadsAt w X ad (flat evs) | none => l = [] ∧ c = 0)
  | .ref sz id off len, v => ∃ p a c, ρ id = some p ∧ v = .slice a len c ∧ len ≤ c ∧ (∀ ad, a = some ad → ad.spot = none) ∧
      (c ≠ 0 → ∃ b base, p = some (b, base) ∧ a = some ⟨b, base + off * sz, none⟩ ∧ ∃ T n, w.shape? b = some (T, n) ∧ base + (off + c) * sz ≤ n)
  | .refc sz id off len cap, v => ∃ p a, ρ id = some p ∧ v = .slice a len cap ∧ len ≤ cap ∧ (∀ ad, a = some ad → ad.spot = none) ∧
      (cap ≠ 0 → ∃ b base, p = some (b, base) ∧ a = some ⟨b, base + off * sz, none⟩ ∧ ∃ T n, w.shape? b = some (T, n) ∧ base + (off + cap) * sz ≤ n)
  | .nilmap, v => v = .map none
  | .map id, v => ∃ b base, ρ id = some (some (b, base)) ∧ v = .map (some b)
  | .func f first captured, v => ∃ fs cs, v = .func f fs cs ∧ VRs w X ρ first fs.toList ∧ VRs w X ρ captured cs.toList
  | .nilfunc, v => v = .nilFunc
  | .iface t x, v => ∃ u, v = .iface t u ∧ VR w X ρ x u
  | .niliface, v => v = .nilIface
  | .agg cs, v => ∃ vs, v = .agg vs ∧ VRs w X ρ cs vs.toList ∧ (∀ c ∈ vs.toList, c.oneCell' = true)
  | .tuple cs, v => ∃ vs, v = .tuple vs ∧ VRs w X ρ cs vs.toList
  | .junk, v => v.cells = #[v]
def VRs (w : World) (X : Nat → Prop) (ρ : Rho) : List AV → List Value → Prop
  | [], vs => vs = []
  | a :: l, vs => ∃ v r, vs = v :: r ∧ VR w X ρ a v ∧ VRs w X ρ l r
end

theorem VRs.length {w X ρ} : ∀ {l : List AV} {vs}, VRs w X ρ l vs → vs.length = l.length
  | [], vs, h => by simp only [VRs] at h; subst h; rfl
  | a :: l, vs, h => by
    simp only [VRs] at h
    obtain ⟨v, r, rfl, _, hr⟩ := h
    simp [VRs.length hr]

theorem VRs.get {w X ρ} : ∀ {l : List AV} {vs} (_ : VRs w X ρ l vs) {i : Nat} {x : AV}, l[i]? = some x → ∃ v, vs[i]? = some v ∧ VR w X ρ x v
  | [], vs, h, i, x, hi => by simp at hi
  | a :: l, vs, h, i, x, hi => by
    simp only [VRs] at h
    obtain ⟨v, r, rfl, hv, hr⟩ := h
    cases i with
    | zero => simp at hi; subst hi; exact ⟨v, rfl, hv⟩
    | succ i => simp at hi; simpa using VRs.get hr hi

theorem VRs.get' {w X ρ} : ∀ {l : List AV} {vs} (_ : VRs w X ρ l vs) {i : Nat} {v : Value}, vs[i]? = some v → ∃ x, l[i]? = some x ∧ VR w X ρ x v
  | [], vs, h, i, v, hi => by simp only [VRs] at h; subst h; simp at hi
  | a :: l, vs, h, i, v, hi => by
    simp only [VRs] at h
    obtain ⟨v', r, rfl, hv, hr⟩ := h
    cases i with
    | zero => simp at hi; subst hi; exact ⟨a, rfl, hv⟩
    | succ i => simp at hi; simpa using VRs.get' hr hi

theorem VRs.mk {w X ρ} : ∀ {l : List AV} {vs : List Value}, vs.length = l.length → (∀ (i : Nat) x v, l[i]? = some x → vs[i]? = some v → VR w X ρ x v) → VRs w X ρ l vs
  | [], vs, h, _ => by simp only [VRs]; simpa using h
  | a :: l, [], h, _ => by simp at h
  | a :: l, v :: r, h, hh => by
    simp only [VRs]
    refine ⟨v, r, rfl, hh 0 a v rfl rfl, VRs.mk (by simpa using h) fun i x v hx hv => hh (i + 1) x v (by simpa using hx) (by simpa using hv)⟩

theorem VRs.append {w X ρ} {l l' : List AV} {vs vs'} (h : VRs w X ρ l vs) (h' : VRs w X ρ l' vs') : VRs w X ρ (l ++ l') (vs ++ vs') := by
  refine VRs.mk (by simp [h.length, h'.length]) fun i x v hx hv => ?_
  have hl := h.length
  by_cases hi : i < l.length
  · rw [List.getElem?_append_left hi] at hx
    rw [List.getElem?_append_left (by omega)] at hv
    obtain ⟨v', hv', r⟩ := h.get hx
    rw [hv'] at hv; cases hv; exact r
  · rw [List.getElem?_append_right (by omega)] at hx
    rw [List.getElem?_append_right (by omega), hl] at hv
    obtain ⟨v', hv', r⟩ := h'.get hx
    rw [hv'] at hv; cases hv; exact r

theorem VRs.take {w X ρ} {l : List AV} {vs} (h : VRs w X ρ l vs) (n : Nat) : VRs w X ρ (l.take n) (vs.take n) := by
  refine VRs.mk (by simp [h.length]) fun i x v hx hv => ?_
  rw [List.getElem?_take] at hx hv
  split at hx
  · rename_i hi; rw [if_pos hi] at hv; obtain ⟨v', hv', r⟩ := h.get hx; rw [hv'] at hv; cases hv; exact r
  · cases hx

theorem VRs.drop {w X ρ} {l : List AV} {vs} (h : VRs w X ρ l vs) (n : Nat) : VRs w X ρ (l.drop n) (vs.drop n) := by
  refine VRs.mk (by simp [h.length]) fun i x v hx hv => ?_
  rw [List.getElem?_drop] at hx hv
  obtain ⟨v', hv', r⟩ := h.get hx; rw [hv'] at hv; cases hv; exact r

theorem VRs.set {w X ρ} {l : List AV} {vs} (h : VRs w X ρ l vs) (n : Nat) {a v} (hv : VR w X ρ a v) : VRs w X ρ (l.set n a) (vs.set n v) := by
  refine VRs.mk (by simp [h.length]) fun i x u hx hu => ?_
  rw [List.getElem?_set] at hx hu
  split at hx
  · rename_i hi; subst hi
    rw [if_pos rfl] at hu
    split at hx
    · rename_i hlt
      rw [if_pos (by rw [h.length]; exact hlt)] at hu
      cases hx; cases hu; exact hv
    · cases hx
  · rename_i hi; rw [if_neg hi] at hu; obtain ⟨v', hv', r⟩ := h.get hx; rw [hv'] at hu; cases hu; exact r

theorem VRs.map_iff {w X ρ} {l : List AV} {vs} : VRs w X ρ l vs ↔ vs.length = l.length ∧ ∀ (i : Nat) x v, l[i]? = some x → vs[i]? = some v → VR w X ρ x v :=
  ⟨fun h => ⟨h.length, fun i x v hx hv => by obtain ⟨v', hv', r⟩ := h.get hx; rw [hv'] at hv; cases hv; exact r⟩, fun h => VRs.mk h.1 h.2⟩

theorem VR.cells {w X ρ} {a : AV} {v : Value} (h : VR w X ρ a v) : VRs w X ρ a.cells v.cells.toList := by
  cases a <;> simp only [VR] at h
  case agg cs => obtain ⟨vs, rfl, hv, _⟩ := h; exact hv
  case ref sz id off len =>
    obtain ⟨p, a, c, hp, rfl, h⟩ := h
    simp only [AV.cells, VRs, Value.cells]; exact ⟨_, [], rfl, by simp only [VR]; exact ⟨p, a, c, hp, rfl, h⟩, rfl⟩
  case refc sz id off len cap =>
    obtain ⟨p, a, hp, rfl, h⟩ := h
    simp only [AV.cells, VRs, Value.cells]; exact ⟨_, [], rfl, by simp only [VR]; exact ⟨p, a, hp, rfl, h⟩, rfl⟩
  case bool => subst h; simp [Value.cells, VRs, VR]
  case sb => subst h; simp [Value.cells, VRs, VR]
  case int => subst h; simp [Value.cells, VRs, VR]
  case str => subst h; simp [Value.cells, VRs, VR]
  case nilp => subst h; simp [Value.cells, VRs, VR]
  case nilsl => subst h; simp [Value.cells, VRs, VR]
  case nilmap => subst h; simp [Value.cells, VRs, VR]
  case nilfunc => subst h; simp [Value.cells, VRs, VR]
  case niliface => subst h; simp [Value.cells, VRs, VR]
  case ptr =>
    obtain ⟨b, base, hp, rfl⟩ := h
    simp only [AV.cells, VRs, Value.cells]; exact ⟨_, [], rfl, by simp only [VR]; exact ⟨b, base, hp, rfl⟩, rfl⟩
  case eptr =>
    obtain ⟨b, base, hp, rfl⟩ := h
    simp only [AV.cells, VRs, Value.cells]; exact ⟨_, [], rfl, by simp only [VR]; exact ⟨b, base, hp, rfl⟩, rfl⟩
  case fp =>
    obtain ⟨b, vs, rfl, h⟩ := h
    simp only [AV.cells, VRs, Value.cells]; exact ⟨_, [], rfl, by simp only [VR]; exact ⟨b, vs, rfl, h⟩, rfl⟩
  case sl =>
    obtain ⟨a, n, c, evs, rfl, h⟩ := h
    simp only [AV.cells, VRs, Value.cells]; exact ⟨_, [], rfl, by simp only [VR]; exact ⟨a, n, c, evs, rfl, h⟩, rfl⟩
  case map =>
    obtain ⟨b, base, h, rfl⟩ := h
    simp only [AV.cells, VRs, Value.cells]; exact ⟨_, [], rfl, by simp only [VR]; exact ⟨b, base, h, rfl⟩, rfl⟩
  case func =>
    obtain ⟨fs, cs, rfl, h⟩ := h
    simp only [AV.cells, VRs, Value.cells]; exact ⟨_, [], rfl, by simp only [VR]; exact ⟨fs, cs, rfl, h⟩, rfl⟩
  case iface =>
    obtain ⟨u, rfl, h⟩ := h
    simp only [AV.cells, VRs, Value.cells]; exact ⟨_, [], rfl, by simp only [VR]; exact ⟨u, rfl, h⟩, rfl⟩
  case tuple =>
    obtain ⟨vs, rfl, h⟩ := h
    simp only [AV.cells, VRs, Value.cells]; exact ⟨_, [], rfl, by simp only [VR]; exact ⟨vs, rfl, h⟩, rfl⟩
  case junk => rw [h]; simp only [AV.cells, VRs]; exact ⟨v, [], rfl, by simp only [VR]; exact h, rfl⟩

/-- What of the world stays: blocks outside X as they were, shapes as they were. -/
structure Pres (X : Nat → Prop) (w w' : World) : Prop where
  os : w'.os = w.os
  tape : w'.tape = w.tape
  output : w'.output = w.output
  size : w.heap.size ≤ w'.heap.size
  block : ∀ b, b < w.heap.size → ¬ X b → w'.heap[b]? = w.heap[b]?
  shape : ∀ b, b < w.heap.size → w'.shape? b = w.shape? b

theorem Pres.refl (X w) : Pres X w w := ⟨rfl, rfl, rfl, Nat.le_refl _, fun _ _ _ => rfl, fun _ _ => rfl⟩
theorem Pres.mono {X Y : Nat → Prop} {w w'} (h : Pres X w w') (hxy : ∀ b, b < w.heap.size → X b → Y b) : Pres Y w w' :=
  ⟨h.os, h.tape, h.output, h.size, fun b hb hy => h.block b hb fun hx => hy (hxy b hb hx), h.shape⟩
theorem Pres.trans {X : Nat → Prop} {w w' w''} (h : Pres X w w') (h' : Pres (fun b => X b ∨ w.heap.size ≤ b) w' w'') : Pres X w w'' :=
  ⟨h'.os.trans h.os, h'.tape.trans h.tape, h'.output.trans h.output, Nat.le_trans h.size h'.size,
   fun b hb hx => (h'.block b (Nat.lt_of_lt_of_le hb h.size) (fun hh => by rcases hh with hh | hh; exact hx hh; omega)).trans (h.block b hb hx),
   fun b hb => (h'.shape b (Nat.lt_of_lt_of_le hb h.size)).trans (h.shape b hb)⟩

theorem cell_lt {w : World} {b o : Nat} {v} (h : w.cell? ⟨b, o, none⟩ = some v) : b < w.heap.size := by
  by_cases hb : b < w.heap.size
  · exact hb
  · rw [World.cell?] at h
    simp [Array.getElem?_eq_none (Nat.le_of_not_lt hb)] at h

theorem shape_lt {w : World} {b : Nat} {v} (h : w.shape? b = some v) : b < w.heap.size := by
  by_cases hb : b < w.heap.size
  · exact hb
  · rw [World.shape?] at h
    simp [Array.getElem?_eq_none (Nat.le_of_not_lt hb)] at h

theorem cell_of_block {w w' : World} {b o : Nat} (h : w'.heap[b]? = w.heap[b]?) : w'.cell? ⟨b, o, none⟩ = w.cell? ⟨b, o, none⟩ := by
  simp [World.cell?, h]

theorem ReadsAt.mono {w w' : World} {X Y X' : Nat → Prop} {a vs} (h : ReadsAt w X a vs) (hp : Pres Y w w') (hy : ∀ b, b < w.heap.size → Y b → X b)
    (hx : ∀ b, b < w.heap.size → X' b → X b) : ReadsAt w' X' a vs := by
  obtain ⟨h1, h2, h3, h4⟩ := h
  refine ⟨h1, fun j v hv => ?_, fun hne hX => ?_, h4⟩
  · have hc := h2 j v hv
    have hne : vs ≠ [] := by intro e; subst e; simp at hv
    have hlt := cell_lt hc
    rw [cell_of_block (hp.block _ hlt fun hh => h3 hne (hy _ hlt hh))]
    exact hc
  · cases vs with
    | nil => exact hne rfl
    | cons v vs => exact h3 hne (hx _ (cell_lt (h2 0 v rfl)) hX)

mutual
theorem VR.mono {w w' : World} {X Y X' : Nat → Prop} {ρ ρ' : Rho} (hp : Pres Y w w') (hy : ∀ b, b < w.heap.size → Y b → X b)
    (hx : ∀ b, b < w.heap.size → X' b → X b) (hr : ∀ i p, ρ i = some p → ρ' i = some p) : ∀ (a : AV) (v : Value), VR w X ρ a v → VR w' X' ρ' a v
  | .bool b, v => by simp only [VR]; exact id
  | .sb b, v => by simp only [VR]; exact id
  | .int k n, v => by simp only [VR]; exact id
  | .str s, v => by simp only [VR]; exact id
  | .nilp, v => by simp only [VR]; exact id
  | .ptr id sz idx sub, v => by simp only [VR]; rintro ⟨b, base, h, rfl⟩; exact ⟨b, base, hr _ _ h, rfl⟩
  | .eptr id sz idx sub, v => by simp only [VR]; rintro ⟨b, base, h, rfl⟩; exact ⟨b, base, hr _ _ h, rfl⟩
  | .fp cs, v => by
    simp only [VR]; rintro ⟨a, vs, rfl, h1, h2⟩
    exact ⟨a, vs, rfl, VRs.mono hp hy hx (fun _ _ h => h) cs vs h1, h2.mono hp hy hx⟩
  | .nilsl, v => by simp only [VR]; exact id
  | .sl sz l, v => by
    simp only [VR]; rintro ⟨a, n, c, evs, rfl, hn, hc, h1, h2, h3⟩
    refine ⟨a, n, c, evs, rfl, hn, hc, VRs.mono hp hy hx (fun _ _ h => h) l evs h1, h2, ?_⟩
    cases a with
    | none => exact h3
    | some a => exact fun hne => (h3 hne).mono hp hy hx
  | .ref sz id off len, v => by
    simp only [VR]; rintro ⟨p, a, c, h1, h2, h3, h9, h4⟩
    refine ⟨p, a, c, hr _ _ h1, h2, h3, h9, fun hc => ?_⟩
    obtain ⟨b, base, h5, h6, T, n, h7, h8⟩ := h4 hc
    exact ⟨b, base, h5, h6, T, n, by rw [hp.shape _ (shape_lt h7)]; exact h7, h8⟩
  | .refc sz id off len cap, v => by
    simp only [VR]; rintro ⟨p, a, h1, h2, h3, h9, h4⟩
    refine ⟨p, a, hr _ _ h1, h2, h3, h9, fun hc => ?_⟩
    obtain ⟨b, base, h5, h6, T, n, h7, h8⟩ := h4 hc
    exact ⟨b, base, h5, h6, T, n, by rw [hp.shape _ (shape_lt h7)]; exact h7, h8⟩
  | .nilmap, v => by simp only [VR]; exact id
  | .map i, v => by simp only [VR]; rintro ⟨b, base, h, rfl⟩; exact ⟨b, base, hr _ _ h, rfl⟩
  | .func f first captured, v => by
    simp only [VR]; rintro ⟨fs, cs, rfl, h1, h2⟩
    exact ⟨fs, cs, rfl, VRs.mono hp hy hx hr _ _ h1, VRs.mono hp hy hx hr _ _ h2⟩
  | .nilfunc, v => by simp only [VR]; exact id
  | .iface t x, v => by simp only [VR]; rintro ⟨u, rfl, h⟩; exact ⟨u, rfl, VR.mono hp hy hx hr x u h⟩
  | .niliface, v => by simp only [VR]; exact id
  | .agg cs, v => by simp only [VR]; rintro ⟨vs, rfl, h, h1⟩; exact ⟨vs, rfl, VRs.mono hp hy hx hr _ _ h, h1⟩
  | .tuple cs, v => by simp only [VR]; rintro ⟨vs, rfl, h⟩; exact ⟨vs, rfl, VRs.mono hp hy hx hr _ _ h⟩
  | .junk, v => by simp only [VR]; exact id
theorem VRs.mono {w w' : World} {X Y X' : Nat → Prop} {ρ ρ' : Rho} (hp : Pres Y w w') (hy : ∀ b, b < w.heap.size → Y b → X b)
    (hx : ∀ b, b < w.heap.size → X' b → X b) (hr : ∀ i p, ρ i = some p → ρ' i = some p) : ∀ (a : List AV) (v : List Value), VRs w X ρ a v → VRs w' X' ρ' a v
  | [], v => by simp only [VRs]; exact id
  | a :: l, v => by
    simp only [VRs]; rintro ⟨x, r, rfl, h1, h2⟩
    exact ⟨x, r, rfl, VR.mono hp hy hx hr a x h1, VRs.mono hp hy hx hr l r h2⟩
end

theorem VR_refc {w X ρ} {sz id off len cap : Nat} {v : Value} (h : VR w X ρ (.refc sz id off len cap) v) : VR w X ρ (.ref sz id off len) v := by
  simp only [VR] at h ⊢
  obtain ⟨p, a, h1, h2, h3, h4, h5⟩ := h
  exact ⟨p, a, cap, h1, h2, h3, h4, h5⟩

end Go.Av
namespace Go.Av
open Go

abbrev Env := List (Nat × AV)
abbrev Hp := List (Nat × Blk)

def get {α : Type} : List (Nat × α) → Nat → Option α
  | [], _ => none
  | (k, v) :: r, j => match Nat.beq k j with | true => some v | false => get r j

def live : Option Blk → Option Blk
  | some .dead => none
  | r => r
def getB (hp : Hp) (id : Nat) : Option Blk := live (get hp id)

theorem get_cons {α : Type} (k j : Nat) (v : α) (r) : get ((k, v) :: r) j = if k = j then some v else get r j := by
  simp only [get]
  by_cases h : k = j
  · subst h; simp
  · have : Nat.beq k j = false := by rw [Bool.eq_false_iff]; intro e; exact h (Nat.eq_of_beq_eq_true e)
    rw [this, if_neg h]

def XX (ex : Nat → Prop) (hp : Hp) (ρ : Rho) (r : Nat) : Prop := ex r ∨ ∃ id b base, getB hp id = some b ∧ ρ id = some (some (r, base))

def BR (w : World) (X : Nat → Prop) (ρ : Rho) : Blk → Option (Nat × Nat) → Prop
  | .arr _ els, none => els = []
  | .arr sz els, some (b, base) => ∃ c T fz evs, w.heap[b]? = some (.cells c T fz) ∧ (∀ o, o ≤ c.size → ¬ (fz.1 ≤ o ∧ o < fz.2)) ∧
      VRs w X ρ els evs ∧ (∀ ev ∈ evs, ev.cells.size = sz) ∧ (∀ (j : Nat) v, (flat evs)[j]? = some v → c[base + j]? = some v) ∧ (∀ v ∈ flat evs, v.oneCell' = true)
  | .mp ents, some (b, _) => ∃ es clock, w.heap[b]? = some (.map es clock) ∧ VRs w X ρ (ents.map (·.1)) (es.toList.map (·.key)) ∧ VRs w X ρ (ents.map (·.2)) (es.toList.map (·.val))
  | .siter s pos, some (b, _) => w.heap[b]? = some (.stringIter ⟨s.toArray⟩ pos)
  | _, _ => False

structure Ctx where
  ex : Nat → Prop
  O0 : Nat → Prop
  w0 : World
  ρ0 : Rho

structure HRel (C : Ctx) (n0 : Nat) (hp : Hp) (nx : Nat) (ρ : Rho) (w : World) : Prop where
  blk : ∀ id b, getB hp id = some b → ∃ p, ρ id = some p ∧ BR w (XX C.ex hp ρ) ρ b p
  inj : ∀ id id' b b' r base base', getB hp id = some b → getB hp id' = some b' → ρ id = some (some (r, base)) → ρ id' = some (some (r, base')) → id = id'
  own : ∀ id b r base, getB hp id = some b → ρ id = some (some (r, base)) → (C.O0 r ∨ C.w0.heap.size ≤ r) ∧ ¬ C.ex r ∧ r < w.heap.size
  exo : ∀ r, C.ex r → r < w.heap.size
  fresh : ∀ id, nx ≤ id → ρ id = none
  pres : Pres C.O0 C.w0 w
  base : ∀ i, i < n0 → ρ i = C.ρ0 i
  le : n0 ≤ nx

structure SRel (C : Ctx) (n n0 : Nat) (env : Env) (hp : Hp) (nx : Nat) (ρ : Rho) (w : World) (a : Act) : Prop extends HRel C n0 hp nx ρ w where
  env : ∀ t av, get env t = some av → ∃ v, a.tmps[t]? = some v ∧ VR w (XX C.ex hp ρ) ρ av v
  size : a.tmps.size = n
  defers : a.defers = []

abbrev Kont := Exit → Env → Hp → Nat → Prop

def lift (C : Ctx) (n n0 : Nat) (K : Kont) : Exit → Act → World → Prop := fun e a w => ∃ env hp nx ρ, K e env hp nx ∧ SRel C n n0 env hp nx ρ w a

def W (P : Program) (n n0 : Nat) (c : Code) (K : Kont) (env : Env) (hp : Hp) (nx : Nat) : Prop :=
  ∀ C ρ w a, SRel C n n0 env hp nx ρ w a → c.wp P (lift C n n0 K) a w

def Wo (P : Program) (n n0 : Nat) (ops : Array Oper) (l : List Oper) (K : Kont) (env : Env) (hp : Hp) (nx : Nat) : Prop :=
  ∀ C ρ w a, SRel C n n0 env hp nx ρ w a → wpList P ops (lift C n n0 K) l a w

section
variable {P : Program} {n n0 : Nat} {K K' : Kont} {env : Env} {hp : Hp} {nx : Nat}

theorem W.mono {c : Code} (h : W P n n0 c K env hp nx) (hk : ∀ e env hp nx, K e env hp nx → K' e env hp nx) : W P n n0 c K' env hp nx :=
  fun C ρ w a hs => wp_mono (h C ρ w a hs) fun _ _ _ ⟨env, hp, nx, ρ, hq, r⟩ => ⟨env, hp, nx, ρ, hk _ _ _ _ hq, r⟩

def kseq (next : Env → Hp → Nat → Prop) (K : Kont) : Kont
  | .normal, env, hp, nx => next env hp nx
  | e, env, hp, nx => K e env hp nx

theorem W_seq {x y : Code} (h : W P n n0 x (kseq (W P n n0 y K) K) env hp nx) : W P n n0 (.seq x y) K env hp nx := by
  intro C ρ w a hs
  refine wp_seq (wp_mono (h C ρ w a hs) ?_)
  rintro e a' w' ⟨env', hp', nx', ρ', hq, r⟩
  cases e <;> simp only [kseq] at hq <;> simp only [Exit.then]
  case normal => exact hq C ρ' w' a' r
  all_goals exact ⟨env', hp', nx', ρ', hq, r⟩

theorem W_skip (h : K .normal env hp nx) : W P n n0 .skip K env hp nx := fun _ ρ _ _ hs => wp_skip ⟨env, hp, nx, ρ, h, hs⟩
theorem W_exit {id : Nat} (h : K (.exit id) env hp nx) : W P n n0 (.exit id) K env hp nx := fun _ ρ _ _ hs => wp_exit ⟨env, hp, nx, ρ, h, hs⟩
theorem W_ret (h : K .ret env hp nx) : W P n n0 .ret K env hp nx := fun _ ρ _ _ hs => wp_ret ⟨env, hp, nx, ρ, h, hs⟩
theorem W_label {l : Nat} (h : K .normal env hp nx) : W P n n0 (.label l) K env hp nx := fun _ ρ _ _ hs => wp_label ⟨env, hp, nx, ρ, h, hs⟩

def kblk (id : Nat) (K : Kont) : Kont
  | .exit id', env, hp, nx => match Nat.beq id' id with | true => K .normal env hp nx | false => K (.exit id') env hp nx
  | e, env, hp, nx => K e env hp nx

theorem W_block {id : Nat} {c : Code} (h : W P n n0 c (kblk id K) env hp nx) : W P n n0 (.block id c) K env hp nx := by
  intro C ρ w a hs
  refine wp_block (wp_mono (h C ρ w a hs) ?_)
  rintro e a' w' ⟨env', hp', nx', ρ', hq, r⟩
  cases e <;> simp only [kblk] at hq <;> simp only [Exit.inBlock]
  case exit id' =>
    by_cases hi : id' = id
    · subst hi; simp at hq; rw [if_pos rfl]; exact ⟨env', hp', nx', ρ', hq, r⟩
    · have : Nat.beq id' id = false := by rw [Bool.eq_false_iff]; intro e; exact hi (Nat.eq_of_beq_eq_true e)
      rw [this] at hq; rw [if_neg hi]; exact ⟨env', hp', nx', ρ', hq, r⟩
  all_goals exact ⟨env', hp', nx', ρ', hq, r⟩

/-- Constants of the text. -/
def cav : Nat → Value → Option AV
  | 0, _ => none
  | k + 1, v => match v with
    | .bool b => some (.bool b)
    | .int k n => some (.int k n)
    | .string s => some (.str s.data.toList)
    | .pointer none => some .nilp
    | .slice none 0 0 => some .nilsl
    | .map none => some .nilmap
    | .nilFunc => some .nilfunc
    | .nilIface => some .niliface
    | .func f ⟨[]⟩ ⟨[]⟩ => some (.func f [] [])
    | .agg vs => match vs.toList.all Value.oneCell' with | true => (vs.toList.mapM (cav k)).map .agg | false => none
    | .tuple vs => (vs.toList.mapM (cav k)).map .tuple
    | _ => none

def evO (env : Env) : Operand → Option AV
  | .tmp t => get env t
  | .const v => cav 3 v
  | .func f => some (.func (.func f) [] [])
  | .global _ => none

theorem mapM_cav {w X ρ} {k : Nat} (ih : ∀ (v : Value) (av : AV), cav k v = some av → VR w X ρ av v) : ∀ (l : List Value) (r : List AV), l.mapM (cav k) = some r → VRs w X ρ r l
  | [], r, h => by simp at h; subst h; simp [VRs]
  | v :: l, r, h => by
    simp only [List.mapM_cons, Option.pure_def, Option.bind_eq_bind, Option.bind_eq_some_iff] at h
    obtain ⟨a, ha, r', hr', e⟩ := h
    simp at e; subst e
    simp only [VRs]
    exact ⟨v, l, rfl, ih v a ha, mapM_cav ih l r' hr'⟩

theorem cav_sound {w X ρ} : ∀ (k : Nat) (v : Value) (av : AV), cav k v = some av → VR w X ρ av v
  | 0, v, av, h => by simp [cav] at h
  | k + 1, v, av, h => by
    simp only [cav] at h
    split at h <;> try (simp at h; done)
    case _ b => cases h; simp [VR]
    case _ => cases h; simp [VR]
    case _ s => cases h; simp [VR]
    case _ => cases h; simp [VR]
    case _ => cases h; simp [VR]
    case _ => cases h; simp [VR]
    case _ => cases h; simp [VR]
    case _ => cases h; simp [VR]
    case _ => cases h; simp [VR, VRs]
    case _ vs =>
      split at h
      · rename_i h1
        simp at h; obtain ⟨r, hr, rfl⟩ := h
        simp only [VR]; exact ⟨vs, rfl, mapM_cav (fun v av => cav_sound k v av) _ _ hr, fun c hc => List.all_eq_true.1 h1 c hc⟩
      · cases h
    case _ vs =>
      simp at h; obtain ⟨r, hr, rfl⟩ := h
      simp only [VR]; exact ⟨vs, rfl, mapM_cav (fun v av => cav_sound k v av) _ _ hr⟩

theorem evO_sound {C ρ w a} (hs : SRel C n n0 env hp nx ρ w a) {o : Operand} {av : AV} (h : evO env o = some av) : VR w (XX C.ex hp ρ) ρ av (a.eval o) := by
  cases o with
  | tmp t =>
    obtain ⟨v, hv, r⟩ := hs.env t av h
    have : a.eval (.tmp t) = v := by simp [Act.eval, hv]
    rw [this]; exact r
  | const v => exact cav_sound _ _ _ h
  | func f => simp [evO] at h; subst h; simp [VR, VRs, Act.eval]
  | global g => simp [evO] at h

theorem SRel.put {C ρ w a} (hs : SRel C n n0 env hp nx ρ w a) {d : Nat} {av : AV} {v : Value} (hd : d < n) (hv : VR w (XX C.ex hp ρ) ρ av v) :
    SRel C n n0 ((d, av) :: env) hp nx ρ w (a.put (some d) v) := by
  refine { hs with env := fun t x hx => ?_, size := ?_, defers := hs.defers }
  · rw [get_cons] at hx
    by_cases h : d = t
    · subst h; rw [if_pos rfl] at hx; cases hx
      refine ⟨v, ?_, hv⟩
      simp only [Act.put]
      rw [Array.getElem?_setIfInBounds_self_of_lt (by rw [hs.size]; exact hd)]
    · rw [if_neg h] at hx
      obtain ⟨u, hu, r⟩ := hs.env t x hx
      refine ⟨u, ?_, r⟩
      simp only [Act.put]
      rw [Array.getElem?_setIfInBounds_ne h]; exact hu
  · simp [Act.put, hs.size]

theorem W_region {id : Nat} {l : List Oper} (h : Wo P n n0 l.toArray l K env hp nx) : W P n n0 (.region id l.toArray false) K env hp nx :=
  fun C ρ w a hs => wp_region_lit (h C ρ w a hs)

theorem Wo_nil {ops} (h : K .normal env hp nx) : Wo P n n0 ops [] K env hp nx := fun _ ρ _ _ hs => ⟨env, hp, nx, ρ, h, hs⟩

/-- What one operation does. -/
def OpS (P : Program) (n n0 : Nat) (o : Oper) (env : Env) (hp : Hp) (nx : Nat) (av : AV) (hp' : Hp) (nx' : Nat) : Prop :=
  ∀ C ρ w a, SRel C n n0 env hp nx ρ w a → ∃ v w' ρ', ((execOp a.eval o).run P w = .ok (.value v) w' ∨ (execOp a.eval o).run P w = .ok .skip w' ∧ v = undef) ∧
    SRel C n n0 env hp' nx' ρ' w' a ∧ VR w' (XX C.ex hp' ρ') ρ' av v ∧ (hp' = hp → w' = w ∧ ρ' = ρ) ∧ (∀ x u, VR w (XX C.ex hp ρ) ρ x u → VR w' (XX C.ex hp' ρ') ρ' x u)

/-- Is the operation to be done? -/
def wantA (ops : Array Oper) (env : Env) (o : Oper) : Option Bool :=
  match o.guard with
  | none => some true
  | some (j, want) => match (ops[j]?).bind (·.dst) with
    | none => none
    | some t => match get env t with
      | some (.bool b) => some (b == want)
      | some (.tuple _) => some false
      | _ => none

theorem wantA_sound {C ρ w a} (hs : SRel C n n0 env hp nx ρ w a) {ops o b} (h : wantA ops env o = some b) : Region.wanted o (yielded ops a.tmps) = b := by
  unfold wantA at h
  unfold Region.wanted
  cases hg : o.guard with
  | none => rw [hg] at h; simpa using h
  | some g =>
    obtain ⟨j, want⟩ := g
    rw [hg] at h
    simp only at h ⊢
    cases hj : (ops[j]?).bind (·.dst) with
    | none => rw [hj] at h; simp at h
    | some t =>
      rw [hj] at h; simp only at h
      cases ht : get env t with
      | none => rw [ht] at h; simp at h
      | some x =>
        rw [ht] at h
        cases x <;> simp at h
        case bool c =>
          obtain ⟨v, hv, r⟩ := hs.env t _ ht
          simp only [VR] at r; subst r
          have : yielded ops a.tmps j = some c := by simp [yielded, hj, hv]
          rw [this, ← h]
          simp
        case tuple c =>
          obtain ⟨v, hv, r⟩ := hs.env t _ ht
          simp only [VR] at r
          obtain ⟨vs, rfl, _⟩ := r
          have : yielded ops a.tmps j = none := by simp [yielded, hj, hv]
          rw [this, h]
          rfl

theorem Wo_step {ops : Array Oper} {o : Oper} {rest : List Oper} {d : Nat} {av : AV} {hp' : Hp} {nx' : Nat} (ho : OpS P n n0 o env hp nx av hp' nx') (hw : wantA ops env o = some true)
    (hd : o.dst = some d) (hdn : Nat.blt d n = true)
    (h : Wo P n n0 ops rest K ((d, av) :: env) hp' nx') : Wo P n n0 ops (o :: rest) K env hp nx := by
  intro C ρ w a hs
  have hwant := wantA_sound hs hw
  obtain ⟨v, w', ρ', hrun, hs', hv, _⟩ := ho C ρ w a hs
  simp only [wpList, hwant, if_true]
  refine .inl ?_
  unfold Oper.wp
  have key := h C ρ' w' _ (hs'.put (by have := hdn; simp [Nat.blt] at this; omega) hv)
  rcases hrun with hrun | ⟨hrun, rfl⟩
  · rw [hrun]; simp only [Oper.upon, hd]; exact key
  · rw [hrun]; simp only [Oper.upon, hd]; exact key

theorem Wo_step0 {ops : Array Oper} {o : Oper} {rest : List Oper} {av : AV} {hp' : Hp} {nx' : Nat} (ho : OpS P n n0 o env hp nx av hp' nx') (hw : wantA ops env o = some true)
    (hd : o.dst = none)
    (h : Wo P n n0 ops rest K env hp' nx') : Wo P n n0 ops (o :: rest) K env hp nx := by
  intro C ρ w a hs
  have hwant := wantA_sound hs hw
  obtain ⟨v, w', ρ', hrun, hs', hv, _⟩ := ho C ρ w a hs
  simp only [wpList, hwant, if_true]
  refine .inl ?_
  unfold Oper.wp
  have key := h C ρ' w' _ hs'
  rcases hrun with hrun | ⟨hrun, rfl⟩
  · rw [hrun]; simp only [Oper.upon, hd]; exact key
  · rw [hrun]; simp only [Oper.upon, hd]; exact key

theorem Wo_off {ops : Array Oper} {o : Oper} {rest : List Oper} {d : Nat} (hw : wantA ops env o = some false)
    (hd : o.dst = some d) (hdn : Nat.blt d n = true)
    (h : Wo P n n0 ops rest K ((d, .tuple []) :: env) hp nx) : Wo P n n0 ops (o :: rest) K env hp nx := by
  intro C ρ w a hs
  have hwant := wantA_sound hs hw
  simp only [wpList, hwant, Bool.false_eq_true, if_false, hd]
  exact h C ρ w _ (hs.put (by have := hdn; simp [Nat.blt] at this; omega) (by simp [VR, undef, VRs]))

theorem Wo_off0 {ops : Array Oper} {o : Oper} {rest : List Oper} (hw : wantA ops env o = some false)
    (hd : o.dst = none) (h : Wo P n n0 ops rest K env hp nx) : Wo P n n0 ops (o :: rest) K env hp nx := by
  intro C ρ w a hs
  have hwant := wantA_sound hs hw
  simp only [wpList, hwant, Bool.false_eq_true, if_false, hd]
  exact h C ρ w _ hs

/-- The environment says less, or the same otherwise. -/
theorem SRel.envOf {C ρ w a env'} (hs : SRel C n n0 env hp nx ρ w a) (h : ∀ t av, get env' t = some av → ∃ v, a.tmps[t]? = some v ∧ VR w (XX C.ex hp ρ) ρ av v) : SRel C n n0 env' hp nx ρ w a :=
  { hs with env := h, size := hs.size, defers := hs.defers }

theorem SRel.cases {C ρ w a} (hs : SRel C n n0 env hp nx ρ w a) {t : Nat} {b c : Bool} (h : get env t = some (.sb b)) (hb : b = c) : SRel C n n0 ((t, .bool c) :: env) hp nx ρ w a :=
  hs.envOf fun t' av h' => by
    rw [get_cons] at h'
    by_cases e : t = t'
    · subst e; rw [if_pos rfl] at h'; cases h'; subst hb
      obtain ⟨v, h1, h2⟩ := hs.env _ _ h
      exact ⟨v, h1, by simpa only [VR] using h2⟩
    · rw [if_neg e] at h'; exact hs.env _ _ h'

theorem Wo_split {ops : Array Oper} {l : List Oper} {t : Nat} {b : Bool} (h : get env t = some (.sb b)) (ht : b = true → Wo P n n0 ops l K ((t, .bool true) :: env) hp nx)
    (hf : b = false → Wo P n n0 ops l K ((t, .bool false) :: env) hp nx) : Wo P n n0 ops l K env hp nx := by
  intro C ρ w a hs
  cases hb : b
  · exact hf hb C ρ w a (hs.cases h hb)
  · exact ht hb C ρ w a (hs.cases h hb)

theorem W_cond {c : Operand} {x y : Code} {b : Bool} (hc : evO env c = some (.sb b)) (ht : b = true → W P n n0 x K env hp nx) (hf : b = false → W P n n0 y K env hp nx) :
    W P n n0 (.cond c x y) K env hp nx := by
  intro C ρ w a hs
  have := evO_sound hs hc
  simp only [VR] at this
  exact wp_cond_split this (fun h => ht h C ρ w a hs) (fun h => hf h C ρ w a hs)
theorem W_cond_true {c : Operand} {x y : Code} (hc : evO env c = some (.bool true)) (ht : W P n n0 x K env hp nx) : W P n n0 (.cond c x y) K env hp nx := by
  intro C ρ w a hs
  have := evO_sound hs hc
  simp only [VR] at this
  exact wp_cond_true this (ht C ρ w a hs)
theorem W_cond_false {c : Operand} {x y : Code} (hc : evO env c = some (.bool false)) (ht : W P n n0 y K env hp nx) : W P n n0 (.cond c x y) K env hp nx := by
  intro C ρ w a hs
  have := evO_sound hs hc
  simp only [VR] at this
  exact wp_cond_false this (ht C ρ w a hs)

end
end Go.Av
namespace Go.Av
open Go

/-- What the walk knows of a type. -/
structure TI where
  desc : TypeDesc
  size : Nat
  bytes : Nat
  zero : AV

structure TOk (P : Program) (t : TypeId) (i : TI) : Prop where
  und : P.underlying t = some i.desc
  info : ∃ f, P.info? t = some f ∧ f.size = i.size ∧ f.bytes = i.bytes ∧ ∃ z, f.zero = some z ∧ z.cells.size = i.size ∧ (∀ c ∈ z.cells.toList, c.oneCell' = true) ∧ ∀ w X, VR w X (fun _ => none) i.zero z

theorem TOk.run_size {P t i} (h : TOk P t i) (w : World) : (sizeOf t).run P w = .ok i.size w := by
  obtain ⟨f, hf, h1, _⟩ := h.info
  simp [sizeOf, typeInfo, hf, h1]
theorem TOk.run_und {P t i} (h : TOk P t i) (w : World) : (underlying t).run P w = .ok i.desc w := run_underlying h.und w
theorem TOk.run_zero {P t i} (h : TOk P t i) (w : World) : ∃ z, (zeroValue t).run P w = .ok z w ∧ z.cells.size = i.size ∧ (∀ c ∈ z.cells.toList, c.oneCell' = true) ∧ ∀ w X, VR w X (fun _ => none) i.zero z := by
  obtain ⟨f, hf, _, _, z, hz, h1, h2⟩ := h.info
  exact ⟨z, by simp [zeroValue, typeInfo, hf, hz], h1, h2⟩
theorem TOk.run_bytes {P t i} (h : TOk P t i) (w : World) : ∃ f, (typeInfo t).run P w = .ok f w ∧ f.bytes = i.bytes ∧ f.size = i.size := by
  obtain ⟨f, hf, h1, h2, _⟩ := h.info
  exact ⟨f, by simp [typeInfo, hf], h2, h1⟩

def aggD : TypeDesc → Bool
  | .struct _ | .array _ _ => true
  | _ => false
theorem TOk.run_agg {P t i} (h : TOk P t i) (w : World) : (isAgg t).run P w = .ok (aggD i.desc) w := by
  unfold isAgg
  simp only [Sem.run_bind, h.run_und, Result.andThen_ok]
  cases i.desc <;> simp [aggD]

section
variable {P : Program} {n n0 : Nat} {env : Env} {hp : Hp} {nx : Nat}

theorem OpS.pure {o : Oper} {av : AV} (h : ∀ C ρ w a, SRel C n n0 env hp nx ρ w a → ∃ v, (execOp a.eval o).run P w = .ok (.value v) w ∧ VR w (XX C.ex hp ρ) ρ av v) : OpS P n n0 o env hp nx av hp nx :=
  fun C ρ w a hs => let ⟨v, h1, h2⟩ := h C ρ w a hs; ⟨v, w, ρ, .inl h1, hs, h2, fun _ => ⟨rfl, rfl⟩, fun _ _ h => h⟩

theorem op_move {o : Oper} {x av} (ho : o.op = .move x) (h : evO env x = some av) : OpS P n n0 o env hp nx av hp nx :=
  .pure fun C ρ w a hs => ⟨_, by simp [execOp, ho], evO_sound hs h⟩
theorem op_assign {o : Oper} {x av} (ho : o.op = .assign x) (h : evO env x = some av) : OpS P n n0 o env hp nx av hp nx :=
  .pure fun C ρ w a hs => ⟨_, by simp [execOp, ho], evO_sound hs h⟩
theorem op_pick {o : Oper} {c x y b av} (ho : o.op = .pick c x y) (hc : evO env c = some (.bool b)) (h : evO env (cond b x y) = some av) : OpS P n n0 o env hp nx av hp nx :=
  .pure fun C ρ w a hs => by
    have := evO_sound hs hc
    simp only [VR] at this
    have h2 := evO_sound hs h
    refine ⟨a.eval (cond b x y), by simp only [execOp, ho, this, asBool]; cases b <;> simp, h2⟩

def abin : BinOp → IntKind → Int → Int → Option AV
  | .add, k, a, b => some (.int k (k.wrap (a + b)))
  | .sub, k, a, b => some (.int k (k.wrap (a - b)))
  | .mul, k, a, b => some (.int k (k.wrap (a * b)))
  | .and, k, a, b => some (.int k (k.wrap (BitVec.ofInt k.bits a &&& BitVec.ofInt k.bits b).toNat))
  | .or, k, a, b => some (.int k (k.wrap (BitVec.ofInt k.bits a ||| BitVec.ofInt k.bits b).toNat))
  | .xor, k, a, b => some (.int k (k.wrap (BitVec.ofInt k.bits a ^^^ BitVec.ofInt k.bits b).toNat))
  | .andNot, k, a, b => some (.int k (k.wrap (BitVec.ofInt k.bits a &&& ~~~ BitVec.ofInt k.bits b).toNat))
  | .eql, _, a, b => some (.sb (a == b))
  | .neq, _, a, b => some (.sb (a != b))
  | .lss, _, a, b => some (.sb (decide (a < b)))
  | .leq, _, a, b => some (.sb (decide (a ≤ b)))
  | .gtr, _, a, b => some (.sb (decide (a > b)))
  | .geq, _, a, b => some (.sb (decide (a ≥ b)))
  | _, _, _, _ => none

theorem op_bin {o : Oper} {op t x y yt k a b av} (ho : o.op = .binOp op t x y yt) (hx : evO env x = some (.int k a)) (hy : evO env y = some (.int k b))
    (h : abin op k a b = some av) : OpS P n n0 o env hp nx av hp nx :=
  .pure fun C ρ w s hs => by
    have h1 := evO_sound hs hx
    have h2 := evO_sound hs hy
    simp only [VR] at h1 h2
    cases op <;> simp only [abin, Option.some.injEq, reduceCtorEq] at h <;> subst h <;>
      refine ⟨_, by simp [execOp, ho, h1, h2, eqGuard, binOp, Op.intArith, Op.intBits, Op.intCmp]; rfl, by simp [VR]⟩

theorem op_quo {o : Oper} {t x y yt k a b} (ho : o.op = .binOp .quo t x y yt) (hx : evO env x = some (.int k a)) (hy : evO env y = some (.int k b))
    (hb : b ≠ 0) : OpS P n n0 o env hp nx (.int k (k.wrap (a.tdiv b))) hp nx :=
  .pure fun C ρ w s hs => by
    have h1 := evO_sound hs hx
    have h2 := evO_sound hs hy
    simp only [VR] at h1 h2
    exact ⟨_, by simp [execOp, ho, h1, h2, eqGuard, binOp, Op.intDiv, hb]; rfl, by simp [VR]⟩
theorem op_rem {o : Oper} {t x y yt k a b} (ho : o.op = .binOp .rem t x y yt) (hx : evO env x = some (.int k a)) (hy : evO env y = some (.int k b))
    (hb : b ≠ 0) : OpS P n n0 o env hp nx (.int k (a.tmod b)) hp nx :=
  .pure fun C ρ w s hs => by
    have h1 := evO_sound hs hx
    have h2 := evO_sound hs hy
    simp only [VR] at h1 h2
    exact ⟨_, by simp [execOp, ho, h1, h2, eqGuard, binOp, Op.intDiv, hb]; rfl, by simp [VR]⟩
theorem op_shl {o : Oper} {t x y yt k j a b} (ho : o.op = .binOp .shl t x y yt) (hx : evO env x = some (.int k a)) (hy : evO env y = some (.int j b))
    (hb : 0 ≤ b) : OpS P n n0 o env hp nx (.int k (k.wrap (a * 2 ^ min b.toNat k.bits))) hp nx :=
  .pure fun C ρ w s hs => by
    have h1 := evO_sound hs hx
    have h2 := evO_sound hs hy
    simp only [VR] at h1 h2
    have : ¬ b < 0 := by omega
    exact ⟨_, by simp [execOp, ho, h1, h2, eqGuard, binOp, Op.shift, this]; rfl, by simp [VR]⟩
theorem op_shr {o : Oper} {t x y yt k j a b} (ho : o.op = .binOp .shr t x y yt) (hx : evO env x = some (.int k a)) (hy : evO env y = some (.int j b))
    (hb : 0 ≤ b) : OpS P n n0 o env hp nx (.int k (a.fdiv (2 ^ min b.toNat k.bits))) hp nx :=
  .pure fun C ρ w s hs => by
    have h1 := evO_sound hs hx
    have h2 := evO_sound hs hy
    simp only [VR] at h1 h2
    have : ¬ b < 0 := by omega
    exact ⟨_, by simp [execOp, ho, h1, h2, eqGuard, binOp, Op.shift, this]; rfl, by simp [VR]⟩

def sbin : BinOp → List UInt8 → List UInt8 → Option AV
  | .eql, a, b => some (.sb (a == b))
  | .neq, a, b => some (.sb (!(a == b)))
  | .lss, a, b => some (.sb (Op.bytesLess a b))
  | .leq, a, b => some (.sb (Op.bytesLess a b || a == b))
  | .gtr, a, b => some (.sb (!(Op.bytesLess a b || a == b)))
  | .geq, a, b => some (.sb (!Op.bytesLess a b))
  | _, _, _ => none

theorem op_sbin {o : Oper} {op t x y yt a b av} (ho : o.op = .binOp op t x y yt) (hx : evO env x = some (.str a)) (hy : evO env y = some (.str b))
    (h : sbin op a b = some av) : OpS P n n0 o env hp nx av hp nx :=
  .pure fun C ρ w s hs => by
    have h1 := evO_sound hs hx
    have h2 := evO_sound hs hy
    simp only [VR] at h1 h2
    cases op <;> simp only [sbin, Option.some.injEq, reduceCtorEq] at h <;> subst h <;>
      refine ⟨_, by simp [execOp, ho, h1, h2, eqGuard, binOp, Op.stringOp]; rfl, by simp [VR]⟩

theorem op_sadd {o : Oper} {t x y yt a b} (ho : o.op = .binOp .add t x y yt) (hx : evO env x = some (.str a)) (hy : evO env y = some (.str b))
    (h : a.length + b.length ≤ 9223372036854775807) : OpS P n n0 o env hp nx (.str (a ++ b)) hp nx :=
  .pure fun C ρ w s hs => by
    have h1 := evO_sound hs hx
    have h2 := evO_sound hs hy
    simp only [VR] at h1 h2
    have h3 : ¬ (((ByteArray.mk a.toArray).size + (ByteArray.mk b.toArray).size : Nat) : Int) > IntKind.i64.max := by
      simp [ByteArray.size, IntKind.max, IntKind.signed, IntKind.bits]; omega
    refine ⟨.string (ByteArray.mk a.toArray ++ ByteArray.mk b.toArray), ?_, ?_⟩
    · simp only [execOp, ho, h1, h2, eqGuard, binOp, Op.stringOp]
      simp only [Sem.run_bind]
      simp
      simp [ByteArray.size]; omega
    · simp only [VR]
      congr 1

theorem op_not {o : Oper} {t x b} (ho : o.op = .unOp .not t x) (hx : evO env x = some (.bool b)) : OpS P n n0 o env hp nx (.bool (!b)) hp nx :=
  .pure fun C ρ w s hs => by
    have h1 := evO_sound hs hx
    simp only [VR] at h1
    exact ⟨_, by simp [execOp, ho, h1, Op.unary]; rfl, by simp [VR]⟩
theorem op_nots {o : Oper} {t x b} (ho : o.op = .unOp .not t x) (hx : evO env x = some (.sb b)) : OpS P n n0 o env hp nx (.sb (!b)) hp nx :=
  .pure fun C ρ w s hs => by
    have h1 := evO_sound hs hx
    simp only [VR] at h1
    exact ⟨_, by simp [execOp, ho, h1, Op.unary]; rfl, by simp [VR]⟩
theorem op_neg {o : Oper} {t x k a} (ho : o.op = .unOp .neg t x) (hx : evO env x = some (.int k a)) : OpS P n n0 o env hp nx (.int k (k.wrap (0 - a))) hp nx :=
  .pure fun C ρ w s hs => by
    have h1 := evO_sound hs hx
    simp only [VR] at h1
    exact ⟨_, by simp [execOp, ho, h1, Op.unary, Op.intArith]; rfl, by simp [VR]⟩
theorem op_com {o : Oper} {t x k a} (ho : o.op = .unOp .xor t x) (hx : evO env x = some (.int k a)) :
    OpS P n n0 o env hp nx (.int k (k.wrap (BitVec.ofInt k.bits (if k.signed then -1 else k.max) ^^^ BitVec.ofInt k.bits a).toNat)) hp nx :=
  .pure fun C ρ w s hs => by
    have h1 := evO_sound hs hx
    simp only [VR] at h1
    exact ⟨_, by simp [execOp, ho, h1, Op.unary, Op.intBits]; rfl, by simp [VR]⟩

theorem op_extract {o : Oper} {x i vs av} (ho : o.op = .extract x i) (hx : evO env x = some (.tuple vs)) (h : vs[i]? = some av) : OpS P n n0 o env hp nx av hp nx :=
  .pure fun C ρ w s hs => by
    have h1 := evO_sound hs hx
    simp only [VR] at h1
    obtain ⟨us, h1, h2⟩ := h1
    obtain ⟨v, hv, r⟩ := h2.get h
    exact ⟨v, by simp at hv; simp [execOp, ho, h1, Instr.extract, hv], r⟩

theorem op_nilcheck_ptr {o : Oper} {x id sz idx sub} (ho : o.op = .nilCheck x) (hx : evO env x = some (.ptr id sz idx sub)) : OpS P n n0 o env hp nx (.ptr id sz idx sub) hp nx :=
  .pure fun C ρ w s hs => by
    have h1 := evO_sound hs hx
    have h0 := h1
    simp only [VR] at h1
    obtain ⟨b, base, h1, h2⟩ := h1
    exact ⟨_, by simp [execOp, ho, h2]; rfl, by rw [h2] at h0; exact h0⟩
theorem op_nilcheck_fp {o : Oper} {x cs} (ho : o.op = .nilCheck x) (hx : evO env x = some (.fp cs)) : OpS P n n0 o env hp nx (.fp cs) hp nx :=
  .pure fun C ρ w s hs => by
    have h1 := evO_sound hs hx
    have h0 := h1
    simp only [VR] at h1
    obtain ⟨b, base, h2, _⟩ := h1
    exact ⟨_, by simp [execOp, ho, h2]; rfl, by rw [h2] at h0; exact h0⟩

theorem op_iface {o : Oper} {t x av} {i : TI} (ho : o.op = .makeInterface t x) (hT : TOk P t i) (hi : (match i.desc with | .interface _ => false | _ => true) = true) (hx : evO env x = some av) :
    OpS P n n0 o env hp nx (.iface t av) hp nx :=
  .pure fun C ρ w s hs => by
    have h1 := evO_sound hs hx
    refine ⟨.iface t (s.eval x), ?_, by simp only [VR]; exact ⟨_, rfl, h1⟩⟩
    simp only [execOp, ho, Instr.makeInterface, Sem.run_bind, hT.run_und, Result.andThen_ok]
    cases hd : i.desc <;> simp_all

theorem evMap {C ρ w a} (hs : SRel C n n0 env hp nx ρ w a) : ∀ (l : List Operand) (r : List AV), l.mapM (evO env) = some r → VRs w (XX C.ex hp ρ) ρ r (l.map a.eval)
  | [], r, h => by simp at h; subst h; simp [VRs]
  | x :: l, r, h => by
    simp only [List.mapM_cons, Option.pure_def, Option.bind_eq_bind, Option.bind_eq_some_iff] at h
    obtain ⟨av, ha, r', hr', e⟩ := h
    simp at e; subst e
    simp only [List.map_cons, VRs]
    exact ⟨_, _, rfl, evO_sound hs ha, evMap hs l r' hr'⟩

theorem op_makeFunc {o : Oper} {f first captured fs cs} (ho : o.op = .makeFunc f first captured) (h1 : first.toList.mapM (evO env) = some fs) (h2 : captured.toList.mapM (evO env) = some cs) :
    OpS P n n0 o env hp nx (.func f fs cs) hp nx :=
  .pure fun C ρ w s hs => by
    refine ⟨.func f (first.map s.eval) (captured.map s.eval), by simp [execOp, ho, Instr.makeFunc], ?_⟩
    simp only [VR]
    exact ⟨_, _, rfl, by simpa using evMap hs _ _ h1, by simpa using evMap hs _ _ h2⟩

theorem op_convint {o : Oper} {s d x k j a} {i ii : TI} (ho : o.op = .convert s d x) (hs' : TOk P s ii) (hd : TOk P d i) (hk : i.desc = .int k) (hx : evO env x = some (.int j a)) :
    OpS P n n0 o env hp nx (.int k (k.wrap a)) hp nx :=
  .pure fun C ρ w st hs => by
    have h1 := evO_sound hs hx
    simp only [VR] at h1
    refine ⟨_, ?_, by simp only [VR]; rfl⟩
    simp only [execOp, ho, convert, Sem.run_bind, hs'.run_und, hd.run_und, Result.andThen_ok, h1, hk]
    simp [Conv.intToInt]

theorem op_convstr {o : Oper} {s d x a} {i ii : TI} (ho : o.op = .convert s d x) (hs' : TOk P s ii) (hd : TOk P d i) (hk : i.desc = .string) (hx : evO env x = some (.str a)) :
    OpS P n n0 o env hp nx (.str a) hp nx :=
  .pure fun C ρ w st hs => by
    have h1 := evO_sound hs hx
    have h0 := h1
    simp only [VR] at h1
    refine ⟨st.eval x, ?_, h0⟩
    simp only [execOp, ho, convert, Sem.run_bind, hs'.run_und, hd.run_und, Result.andThen_ok, h1, hk]
    simp

/-- A part of a row of cells, as a value of a type. -/
def ldA (agg : Bool) (cs : List AV) (sub size : Nat) : Option AV :=
  match agg with
  | true => match Nat.ble (sub + size) cs.length with | true => some (.agg ((cs.drop sub).take size)) | false => none
  | false => cs[sub]?

theorem op_field {o : Oper} {t x f fs fd cs av} {i j : TI} (ho : o.op = .field t x f) (hT : TOk P t i) (hd : i.desc = .struct fs) (hf : fs[f]? = some fd) (hj : TOk P fd.type j)
    (hx : evO env x = some (.agg cs)) (h : ldA (aggD j.desc) cs fd.offset j.size = some av) : OpS P n n0 o env hp nx av hp nx :=
  .pure fun C ρ w st hs => by
    have h1 := evO_sound hs hx
    simp only [VR] at h1
    obtain ⟨vs, h1, h2, h3⟩ := h1
    simp only [execOp, ho, Instr.field, Sem.run_bind, hT.run_und, Result.andThen_ok, h1, hd, hf, asAgg, Sem.run_pure, part, hj.run_agg]
    cases ha : aggD j.desc <;> rw [ha] at h <;> simp only [ldA] at h
    · obtain ⟨v, hv, r⟩ := h2.get h
      refine ⟨v, ?_, r⟩
      simp at hv
      simp [hv]
    · split at h
      · rename_i hle
        cases h
        refine ⟨.agg (vs.extract fd.offset (fd.offset + j.size)), by simp [hj.run_size], ?_⟩
        simp only [VR]
        refine ⟨_, rfl, ?_, ?_⟩
        · have := (h2.drop fd.offset).take j.size
          simpa [Array.toList_extract, List.extract_eq_take_drop] using this
        · intro c hc
          simp only [Array.toList_extract, List.extract_eq_take_drop] at hc
          exact h3 c (List.mem_of_mem_drop (List.mem_of_mem_take hc))
      · cases h

theorem op_index_str {o : Oper} {t x y s k a} {i : TI} (ho : o.op = .index t x y) (hT : TOk P t i) (hd : i.desc = .string) (hx : evO env x = some (.str s)) (hy : evO env y = some (.int k a))
    (h0 : 0 ≤ a) (h1 : a < s.length) : OpS P n n0 o env hp nx (.int .u8 (s.getD a.toNat 0).toNat) hp nx :=
  .pure fun C ρ w st hs => by
    have e1 := evO_sound hs hx
    have e2 := evO_sound hs hy
    simp only [VR] at e1 e2
    have hlt : a.toNat < s.length := by omega
    refine ⟨_, ?_, by simp only [VR]; rfl⟩
    have hb : (ByteArray.mk s.toArray)[a.toNat]? = some (s.getD a.toNat 0) := by
      rw [getElem?_pos (ByteArray.mk s.toArray) a.toNat (by simpa [ByteArray.size] using hlt)]
      simp [ByteArray.getElem_eq_getElem_data, hlt]
    simp only [execOp, ho, Instr.index, Sem.run_bind, hT.run_und, Result.andThen_ok, e1, e2, hd, asIntOf, Sem.run_pure, if_pos h0, hb]

theorem op_index_arr {o : Oper} {t x y len e cs k a av} {i j : TI} (ho : o.op = .index t x y) (hT : TOk P t i) (hd : i.desc = .array len e) (hj : TOk P e j)
    (hx : evO env x = some (.agg cs)) (hy : evO env y = some (.int k a))
    (h0 : 0 ≤ a) (h1 : a < len) (h : ldA (aggD j.desc) cs (a.toNat * j.size) j.size = some av) : OpS P n n0 o env hp nx av hp nx :=
  .pure fun C ρ w st hs => by
    have e1 := evO_sound hs hx
    have e2 := evO_sound hs hy
    simp only [VR] at e1 e2
    obtain ⟨vs, e1, h2, h3⟩ := e1
    simp only [execOp, ho, Instr.index, Sem.run_bind, hT.run_und, Result.andThen_ok, e1, e2, hd, asIntOf, Sem.run_pure, if_pos (And.intro h0 h1), part, hj.run_agg, hj.run_size]
    cases ha : aggD j.desc <;> rw [ha] at h <;> simp only [ldA] at h
    · obtain ⟨v, hv, r⟩ := h2.get h
      refine ⟨v, ?_, r⟩
      simp at hv
      simp [hv]
    · split at h
      · cases h
        refine ⟨.agg (vs.extract (a.toNat * j.size) (a.toNat * j.size + j.size)), by simp [hj.run_size], ?_⟩
        simp only [VR]
        refine ⟨_, rfl, ?_, ?_⟩
        · have := (h2.drop (a.toNat * j.size)).take j.size
          simpa [Array.toList_extract, List.extract_eq_take_drop] using this
        · intro c hc
          simp only [Array.toList_extract, List.extract_eq_take_drop] at hc
          exact h3 c (List.mem_of_mem_drop (List.mem_of_mem_take hc))
      · cases h
end
end Go.Av
namespace Go.Av
open Go

theorem flat_nil : flat [] = [] := rfl
theorem flat_cons (v : Value) (l) : flat (v :: l) = v.cells.toList ++ flat l := rfl
theorem flat_append (a b : List Value) : flat (a ++ b) = flat a ++ flat b := by simp [flat]
theorem flat_length {sz : Nat} : ∀ {evs : List Value}, (∀ ev ∈ evs, ev.cells.size = sz) → (flat evs).length = evs.length * sz
  | [], _ => by simp [flat]
  | v :: l, h => by
    rw [flat_cons, List.length_append, flat_length fun ev he => h ev (List.mem_cons_of_mem _ he)]
    have := h v List.mem_cons_self
    simp [this, Nat.add_mul]; omega
theorem flat_get {sz : Nat} : ∀ {evs : List Value}, (∀ ev ∈ evs, ev.cells.size = sz) → ∀ {i : Nat} {ev}, evs[i]? = some ev → ∀ {k : Nat}, k < sz → (flat evs)[i * sz + k]? = ev.cells.toList[k]?
  | [], _, i, ev, hi, k, hk => by simp at hi
  | v :: l, h, 0, ev, hi, k, hk => by
    simp at hi; subst hi
    rw [flat_cons, Nat.zero_mul, Nat.zero_add, List.getElem?_append_left (by have := h v List.mem_cons_self; simp [this]; exact hk)]
  | v :: l, h, i + 1, ev, hi, k, hk => by
    simp at hi
    have hv := h v List.mem_cons_self
    rw [flat_cons, List.getElem?_append_right (by simp [hv, Nat.add_mul]; omega)]
    have : (i + 1) * sz + k - v.cells.toList.length = i * sz + k := by simp [hv, Nat.add_mul]; omega
    rw [this, flat_get (fun ev he => h ev (List.mem_cons_of_mem _ he)) hi hk]
theorem mem_flat {evs : List Value} {ev c : Value} (h : ev ∈ evs) (hc : c ∈ ev.cells.toList) : c ∈ flat evs := by
  simp only [flat, List.mem_flatMap]; exact ⟨ev, h, hc⟩

theorem flat_drop {sz : Nat} : ∀ {evs : List Value}, (∀ ev ∈ evs, ev.cells.size = sz) → ∀ i, (flat evs).drop (i * sz) = flat (evs.drop i)
  | [], _, i => by simp [flat]
  | v :: l, h, 0 => by simp
  | v :: l, h, i + 1 => by
    have hv := h v List.mem_cons_self
    rw [flat_cons, List.drop_append]
    have e1 : List.drop ((i + 1) * sz) v.cells.toList = [] := List.drop_of_length_le (by simp [hv, Nat.add_mul])
    have e2 : (i + 1) * sz - v.cells.toList.length = i * sz := by simp [hv, Nat.add_mul]
    rw [e1, e2, List.nil_append, flat_drop (fun ev he => h ev (List.mem_cons_of_mem _ he)) i]
    rfl
theorem flat_take {sz : Nat} : ∀ {evs : List Value}, (∀ ev ∈ evs, ev.cells.size = sz) → ∀ i, (flat evs).take (i * sz) = flat (evs.take i)
  | [], _, i => by simp [flat]
  | v :: l, h, 0 => by simp [flat]
  | v :: l, h, i + 1 => by
    have hv := h v List.mem_cons_self
    rw [flat_cons, List.take_append]
    have e1 : List.take ((i + 1) * sz) v.cells.toList = v.cells.toList := List.take_of_length_le (by simp [hv, Nat.add_mul])
    have e2 : (i + 1) * sz - v.cells.toList.length = i * sz := by simp [hv, Nat.add_mul]
    rw [e1, e2, flat_take (fun ev he => h ev (List.mem_cons_of_mem _ he)) i]
    rfl

theorem frozen_eq {w : World} {b o : Nat} {c : Array Value} {T} {fz : Nat × Nat} (h : w.heap[b]? = some (.cells c T fz)) : w.frozen? ⟨b, o, none⟩ = (decide (fz.1 ≤ o) && decide (o < fz.2)) := by
  simp [World.frozen?, h]
theorem cell_eq {w : World} {b o : Nat} {c : Array Value} {T} {fz : Nat × Nat} (h : w.heap[b]? = some (.cells c T fz)) : w.cell? ⟨b, o, none⟩ = c[o]? := by
  simp [World.cell?, h]
theorem shape_eq {w : World} {b : Nat} {c : Array Value} {T} {fz : Nat × Nat} (h : w.heap[b]? = some (.cells c T fz)) : w.shape? b = some (T, c.size) := by
  simp [World.shape?, h]

theorem setCells_spec (b : Nat) : ∀ (vs : List Value) (o : Nat) (w : World) (c : Array Value) (T : TypeId) (fz : Nat × Nat), w.heap[b]? = some (.cells c T fz) → o + vs.length ≤ c.size →
    ∃ c', (w.setCells b o vs).heap[b]? = some (.cells c' T fz) ∧ c'.size = c.size ∧ (∀ j, c'[j]? = if o ≤ j ∧ j < o + vs.length then vs[j - o]? else c[j]?) ∧
      (∀ b', b' ≠ b → (w.setCells b o vs).heap[b']? = w.heap[b']?) ∧ (w.setCells b o vs).heap.size = w.heap.size ∧
      (w.setCells b o vs).os = w.os ∧ (w.setCells b o vs).tape = w.tape ∧ (w.setCells b o vs).output = w.output
  | [], o, w, c, T, fz, h, _ => ⟨c, h, rfl, fun j => by rw [if_neg]; simp only [List.length_nil]; omega, fun _ _ => rfl, rfl, rfl, rfl, rfl⟩
  | v :: r, o, w, c, T, fz, h, hl => by
    have hlt : b < w.heap.size := (Array.getElem?_eq_some_iff.1 h).1
    have h1 : (w.setCell ⟨b, o, none⟩ v).heap[b]? = some (.cells (c.setIfInBounds o v) T fz) := by
      simp [World.setCell, Array.getElem?_modify, h]
    obtain ⟨c', g1, g2, g3, g4, g5, g6, g7, g8⟩ := setCells_spec b r (o + 1) (w.setCell ⟨b, o, none⟩ v) (c.setIfInBounds o v) T fz h1 (by simp at hl ⊢; omega)
    refine ⟨c', g1, by rw [g2]; simp, fun j => ?_, fun b' hb => ?_, ?_, ?_, ?_, ?_⟩
    · rw [g3]
      by_cases hj : j = o
      · subst hj
        rw [if_neg (by omega), if_pos (by simp)]
        simp at hl
        rw [Array.getElem?_setIfInBounds_self_of_lt (by omega)]
        simp
      · rw [Array.getElem?_setIfInBounds_ne (Ne.symm hj)]
        by_cases h2 : o + 1 ≤ j ∧ j < o + 1 + r.length
        · rw [if_pos h2, if_pos (by simp; omega)]
          have : j - o = (j - (o + 1)) + 1 := by omega
          rw [this]; simp
        · rw [if_neg h2, if_neg (by simp; omega)]
    · rw [World.setCells, g4 b' hb]
      simp only [World.setCell]
      rw [Array.getElem?_modify, if_neg (Ne.symm hb)]
    · rw [World.setCells, g5]; simp [World.setCell]
    · rw [World.setCells, g6]; rfl
    · rw [World.setCells, g7]; rfl
    · rw [World.setCells, g8]; rfl

theorem setCells_pres {b : Nat} {vs : List Value} {o : Nat} {w : World} {c : Array Value} {T : TypeId} {fz : Nat × Nat} (h : w.heap[b]? = some (.cells c T fz)) (hl : o + vs.length ≤ c.size) :
    Pres (fun r => r = b) w (w.setCells b o vs) := by
  obtain ⟨c', g1, g2, g3, g4, g5, g6, g7, g8⟩ := setCells_spec b vs o w c T fz h hl
  refine ⟨g6, g7, g8, Nat.le_of_eq g5.symm, fun b' _ hb => g4 b' hb, fun b' _ => ?_⟩
  by_cases e : b' = b
  · subst e; rw [shape_eq g1, shape_eq h, g2]
  · simp only [World.shape?, g4 b' e]

theorem alloc_pres (X : Nat → Prop) (w : World) (o : Obj) : Pres X w (w.alloc o) := by
  refine ⟨rfl, rfl, rfl, by simp, fun b hb _ => ?_, fun b hb => ?_⟩
  · show (w.heap.push o)[b]? = _
    rw [Array.getElem?_push, if_neg (by omega)]
  · have : (w.alloc o).heap[b]? = w.heap[b]? := by
      show (w.heap.push o)[b]? = _
      rw [Array.getElem?_push, if_neg (by omega)]
    simp only [World.shape?, this]
theorem alloc_new (w : World) (o : Obj) : (w.alloc o).heap[w.heap.size]? = some o := by
  show (w.heap.push o)[w.heap.size]? = _
  simp
theorem drew_pres (X : Nat → Prop) (w : World) : Pres X w w.drew := ⟨rfl, rfl, rfl, Nat.le_refl _, fun _ _ _ => rfl, fun _ _ => rfl⟩

theorem BR.mono {w w' : World} {X Y X' : Nat → Prop} {ρ ρ' : Rho} (hp : Pres Y w w') (hy : ∀ b, b < w.heap.size → Y b → X b)
    (hx : ∀ b, b < w.heap.size → X' b → X b) (hr : ∀ i p, ρ i = some p → ρ' i = some p) : ∀ (b : Blk) (p : Option (Nat × Nat)), (∀ r base, p = some (r, base) → w'.heap[r]? = w.heap[r]?) → BR w X ρ b p → BR w' X' ρ' b p
  | .arr _ els, none, _, h => h
  | .arr sz els, some (b, base), hq, h => by
    obtain ⟨c, T, fz, evs, h1, h2, h3, h4, h5, h6⟩ := h
    exact ⟨c, T, fz, evs, by rw [hq b base rfl]; exact h1, h2, VRs.mono hp hy hx hr _ _ h3, h4, h5, h6⟩
  | .mp ents, some (b, base), hq, h => by
    obtain ⟨es, clock, h1, h2, h3⟩ := h
    exact ⟨es, clock, by rw [hq b base rfl]; exact h1, VRs.mono hp hy hx hr _ _ h2, VRs.mono hp hy hx hr _ _ h3⟩
  | .siter s pos, some (b, base), hq, h => by
    simp only [BR] at h ⊢; rw [hq b base rfl]; exact h
  | .mp _, none, _, h => h
  | .siter _ _, none, _, h => h
  | .dead, none, _, h => h
  | .dead, some _, _, h => h

def Owned (hp : Hp) (ρ : Rho) (r : Nat) : Prop := ∃ id b base, getB hp id = some b ∧ ρ id = some (some (r, base))

theorem HRel.change {C : Ctx} {n0 : Nat} {hp hp' : Hp} {nx nx' : Nat} {ρ ρ' : Rho} {w w' : World} (hs : HRel C n0 hp nx ρ w)
    (Y : Nat → Prop) (hP : Pres Y w w') (hY : ∀ r, r < w.heap.size → Y r → Owned hp ρ r)
    (hr : ∀ i p, ρ i = some p → ρ' i = some p) (hb : ∀ i, i < n0 → ρ' i = ρ i) (hnx : nx ≤ nx') (hfresh : ∀ id, nx' ≤ id → ρ' id = none)
    (hblk : ∀ id b, getB hp' id = some b → (getB hp id = some b ∧ ∀ r base, ρ id = some (some (r, base)) → ¬ Y r) ∨
      (∃ p, ρ' id = some p ∧ BR w' (XX C.ex hp' ρ') ρ' b p ∧ ∀ r base, p = some (r, base) → (Owned hp ρ r ∨ w.heap.size ≤ r) ∧ r < w'.heap.size))
    (hinj : ∀ id id' b b' r base base', getB hp' id = some b → getB hp' id' = some b' → ρ' id = some (some (r, base)) → ρ' id' = some (some (r, base')) → id = id') :
    HRel C n0 hp' nx' ρ' w' ∧ (∀ b, b < w.heap.size → XX C.ex hp' ρ' b → XX C.ex hp ρ b) := by
  have how : ∀ id b r base, getB hp' id = some b → ρ' id = some (some (r, base)) → (Owned hp ρ r ∨ w.heap.size ≤ r) ∧ r < w'.heap.size := by
    intro id b r base h1 h2
    rcases hblk id b h1 with ⟨h3, _⟩ | ⟨p, h3, _, h4⟩
    · obtain ⟨p, hp1, _⟩ := hs.blk id b h3
      have := hr _ _ hp1
      rw [h2] at this
      cases this
      exact ⟨.inl ⟨id, b, base, h3, hp1⟩, Nat.lt_of_lt_of_le (hs.own id b r base h3 hp1).2.2 hP.size⟩
    · rw [h2] at h3; cases h3; exact h4 r base rfl
  have hx : ∀ b, b < w.heap.size → XX C.ex hp' ρ' b → XX C.ex hp ρ b := by
    rintro r hlt (h | ⟨id, b, base, h1, h2⟩)
    · exact .inl h
    · rcases (how id b r base h1 h2).1 with h | h
      · exact .inr h
      · omega
  have hw0 : C.w0.heap.size ≤ w.heap.size := hs.pres.size
  refine ⟨⟨fun id b h => ?_, hinj, fun id b r base h1 h2 => ?_, fun r hr => Nat.lt_of_lt_of_le (hs.exo r hr) hP.size, hfresh, ?_, fun i hi => (hb i hi).trans (hs.base i hi), Nat.le_trans hs.le hnx⟩, hx⟩
  · rcases hblk id b h with ⟨h1, h2⟩ | ⟨p, h1, h2, _⟩
    · obtain ⟨p, h3, h4⟩ := hs.blk id b h1
      refine ⟨p, hr _ _ h3, BR.mono hP (fun r hlt hy => .inr (hY r hlt hy)) hx hr b p (fun r base he => ?_) h4⟩
      subst he
      exact hP.block r (hs.own id b r base h1 h3).2.2 (h2 r base h3)
    · exact ⟨p, h1, h2⟩
  · have h3 := how id b r base h1 h2
    rcases h3.1 with ⟨id0, b0, base0, g1, g2⟩ | h
    · have := hs.own id0 b0 r base0 g1 g2
      exact ⟨this.1, this.2.1, h3.2⟩
    · exact ⟨.inr (by omega), fun he => by have := hs.exo r he; omega, h3.2⟩
  · refine hs.pres.trans (hP.mono fun r hlt hy => ?_)
    obtain ⟨id, b, base, h1, h2⟩ := hY r hlt hy
    exact (hs.own id b r base h1 h2).1

theorem SRel.change {C : Ctx} {n n0 : Nat} {env : Env} {hp hp' : Hp} {nx nx' : Nat} {ρ ρ' : Rho} {w w' : World} {a : Act} (hs : SRel C n n0 env hp nx ρ w a)
    (Y : Nat → Prop) (hP : Pres Y w w') (hY : ∀ r, r < w.heap.size → Y r → Owned hp ρ r)
    (hr : ∀ i p, ρ i = some p → ρ' i = some p) (hb : ∀ i, i < n0 → ρ' i = ρ i) (hnx : nx ≤ nx') (hfresh : ∀ id, nx' ≤ id → ρ' id = none)
    (hblk : ∀ id b, getB hp' id = some b → (getB hp id = some b ∧ ∀ r base, ρ id = some (some (r, base)) → ¬ Y r) ∨
      (∃ p, ρ' id = some p ∧ BR w' (XX C.ex hp' ρ') ρ' b p ∧ ∀ r base, p = some (r, base) → (Owned hp ρ r ∨ w.heap.size ≤ r) ∧ r < w'.heap.size))
    (hinj : ∀ id id' b b' r base base', getB hp' id = some b → getB hp' id' = some b' → ρ' id = some (some (r, base)) → ρ' id' = some (some (r, base')) → id = id') :
    SRel C n n0 env hp' nx' ρ' w' a ∧ (∀ b, b < w.heap.size → XX C.ex hp' ρ' b → XX C.ex hp ρ b) ∧ (∀ av v, VR w (XX C.ex hp ρ) ρ av v → VR w' (XX C.ex hp' ρ') ρ' av v) := by
  obtain ⟨h1, h2⟩ := HRel.change hs.toHRel Y hP hY hr hb hnx hfresh hblk hinj
  refine ⟨{ h1 with env := fun t av ht => ?_, size := hs.size, defers := hs.defers }, h2, fun av v hv => VR.mono hP (fun r hlt hy => .inr (hY r hlt hy)) h2 hr av v hv⟩
  obtain ⟨v, hv, r⟩ := hs.env t av ht
  exact ⟨v, hv, VR.mono hP (fun r hlt hy => .inr (hY r hlt hy)) h2 hr av v r⟩

theorem getB_cons (k j : Nat) (v : Blk) (r : Hp) : getB ((k, v) :: r) j = if k = j then live (some v) else getB r j := by
  unfold getB; rw [get_cons]; split <;> rfl

end Go.Av
namespace Go.Av
open Go

@[simp] def AV.flatOk : AV → Bool
  | .tuple _ | .junk => false
  | _ => true

theorem VR.ones {w X ρ} {a : AV} {v : Value} (h : VR w X ρ a v) (ho : a.flatOk = true) : ∀ c ∈ v.cells.toList, c.oneCell' = true := by
  cases a <;> simp only [VR] at h <;> simp [AV.flatOk] at ho
  case agg cs => obtain ⟨vs, rfl, _, h⟩ := h; exact h
  case ref sz id off len => obtain ⟨p, a, c, hp, rfl, h⟩ := h; simp [Value.cells, Value.oneCell']
  case refc sz id off len cap => obtain ⟨p, a, hp, rfl, h⟩ := h; simp [Value.cells, Value.oneCell']
  case ptr => obtain ⟨b, base, hp, rfl⟩ := h; simp [Value.cells, Value.oneCell']
  case eptr => obtain ⟨b, base, hp, rfl⟩ := h; simp [Value.cells, Value.oneCell']
  case fp => obtain ⟨b, vs, rfl, h⟩ := h; simp [Value.cells, Value.oneCell']
  case sl => obtain ⟨a, n, c, evs, rfl, h⟩ := h; simp [Value.cells, Value.oneCell']
  case map => obtain ⟨b, base, h, rfl⟩ := h; simp [Value.cells, Value.oneCell']
  case func => obtain ⟨fs, cs, rfl, h⟩ := h; simp [Value.cells, Value.oneCell']
  case iface => obtain ⟨u, rfl, h⟩ := h; simp [Value.cells, Value.oneCell']
  all_goals (subst h; simp [Value.cells, Value.oneCell'])

def AV.isAgg : AV → Bool
  | .agg _ => true
  | _ => false
theorem VR.agg {w X ρ} {a : AV} {v : Value} (h : VR w X ρ a v) (ha : a.isAgg = true) : v = .agg v.cells := by
  cases a <;> simp [AV.isAgg] at ha
  case agg cs => simp only [VR] at h; obtain ⟨vs, rfl, _⟩ := h; rfl
theorem VR.notAgg {w X ρ} {a : AV} {v : Value} (h : VR w X ρ a v) (ha : a.isAgg = false) : v.cells = #[v] := by
  cases a <;> simp only [VR] at h <;> simp [AV.isAgg] at ha
  case ref sz id off len => obtain ⟨p, a, c, hp, rfl, h⟩ := h; rfl
  case refc sz id off len cap => obtain ⟨p, a, hp, rfl, h⟩ := h; rfl
  case ptr => obtain ⟨b, base, hp, rfl⟩ := h; rfl
  case eptr => obtain ⟨b, base, hp, rfl⟩ := h; rfl
  case fp => obtain ⟨b, vs, rfl, h⟩ := h; rfl
  case sl => obtain ⟨a, n, c, evs, rfl, h⟩ := h; rfl
  case map => obtain ⟨b, base, h, rfl⟩ := h; rfl
  case func => obtain ⟨fs, cs, rfl, h⟩ := h; rfl
  case iface => obtain ⟨u, rfl, h⟩ := h; rfl
  case tuple => obtain ⟨u, rfl, h⟩ := h; rfl
  case junk => exact h
  all_goals (subst h; rfl)

theorem VR.size {w X ρ} {a : AV} {v : Value} (h : VR w X ρ a v) : v.cells.size = a.cells.length := by
  have := h.cells.length; simpa using this

theorem Addr_add (b o k : Nat) : (⟨b, o, none⟩ : Addr).add k = ⟨b, o + k, none⟩ := by
  unfold Addr.add; split <;> simp_all

theorem run_loadVar_cells {P : Program} {t : TypeId} {i : TI} (hT : TOk P t i) (w : World) (b o : Nat) (vs : List Value) (hl : aggD i.desc = true → vs.length = i.size)
    (h : ∀ j v, vs[j]? = some v → w.cell? ⟨b, o + j, none⟩ = some v) (h1 : aggD i.desc = false → vs.length = 1) :
    (loadVar t ⟨b, o, none⟩).run P w = .ok (match aggD i.desc with | true => .agg vs.toArray | false => vs.headD undef) w := by
  unfold loadVar
  simp only [Sem.run_bind, hT.run_agg, Result.andThen_ok]
  cases ha : aggD i.desc
  · have h2 := h1 ha
    match vs, h2 with
    | [v], _ =>
      have := h 0 v rfl
      simp only [Nat.add_zero] at this
      simp [this]
  · simp only [if_true, Sem.run_bind, hT.run_size, Result.andThen_ok]
    rw [← hl ha, run_loadCells_list w ⟨b, o, none⟩ vs (fun j v hv => by rw [Addr_add]; exact h j v hv)]
    simp

section
variable {P : Program} {n n0 : Nat} {env : Env} {hp : Hp} {nx : Nat}

/-- The cells of a block of the walk's own. -/
theorem HRel.cell {C ρ w} (hs : HRel C n0 hp nx ρ w) {id sz els} (hb : getB hp id = some (.arr sz els)) {idx e} (he : els[idx]? = some e) :
    ∃ b base, ρ id = some (some (b, base)) ∧ ∃ ev, VR w (XX C.ex hp ρ) ρ e ev ∧ ev.cells.size = sz ∧ (∀ c ∈ ev.cells.toList, c.oneCell' = true) ∧
      ∀ k v, ev.cells.toList[k]? = some v → w.cell? ⟨b, base + (idx * sz + k), none⟩ = some v := by
  obtain ⟨p, hp1, hbr⟩ := hs.blk id _ hb
  cases p with
  | none => simp only [BR] at hbr; subst hbr; simp at he
  | some p =>
    obtain ⟨b, base⟩ := p
    obtain ⟨c, T, fz, evs, h1, h2, h3, h4, h5, h6⟩ := hbr
    obtain ⟨ev, hev, hvr⟩ := h3.get he
    have hm : ev ∈ evs := List.mem_of_getElem? hev
    refine ⟨b, base, hp1, ev, hvr, h4 ev hm, fun c hc => h6 c (mem_flat hm hc), fun k v hk => ?_⟩
    have hk' : k < sz := by
      rcases Nat.lt_or_ge k ev.cells.toList.length with h | h
      · rw [← h4 ev hm]; simpa using h
      · rw [List.getElem?_eq_none h] at hk; cases hk
    rw [cell_eq h1]
    exact h5 _ _ (by rw [flat_get h4 hev hk']; exact hk)

theorem whole_run {C ρ w} (hs : HRel C n0 hp nx ρ w) {t id sz idx els e} {i : TI} (hT : TOk P t i) (hb : getB hp id = some (.arr sz els))
    (he : els[idx]? = some e) (hsz : i.size = sz) (ha : aggD i.desc = e.isAgg) {b base} (g1 : ρ id = some (some (b, base))) :
    ∃ v, (loadVar t ⟨b, base + (idx * sz + 0), none⟩).run P w = .ok v w ∧ VR w (XX C.ex hp ρ) ρ e v := by
  obtain ⟨b', base', g2, ev, g3, g4, g5, g6⟩ := hs.cell hb he
  rw [g1] at g2; cases g2
  refine ⟨ev, ?_, g3⟩
  rw [run_loadVar_cells hT w b (base + (idx * sz + 0)) ev.cells.toList (fun _ => by simp [g4, hsz]) (fun j v hv => by have := g6 j v hv; simpa [Nat.add_assoc] using this)]
  · rw [ha]
    cases hg : e.isAgg
    · have := g3.notAgg hg
      simp only; rw [this]; rfl
    · have := g3.agg hg
      simp only
      rw [show Value.agg ev.cells.toList.toArray = ev from by conv => rhs; rw [this]]
  · intro hf
    rw [hf] at ha
    have := g3.notAgg ha.symm
    rw [this]; rfl

/-- What is read at a place of a row: 'e' whole, or a part. -/
theorem op_load_whole {o : Oper} {t x id sz idx els e} {i : TI} (ho : o.op = .load t x) (hT : TOk P t i) (hx : evO env x = some (.ptr id sz idx 0)) (hb : getB hp id = some (.arr sz els))
    (he : els[idx]? = some e) (hs : Nat.beq i.size sz = true) (ha : aggD i.desc = e.isAgg) : OpS P n n0 o env hp nx e hp nx :=
  .pure fun C ρ w st hs' => by
    have hs := Nat.eq_of_beq_eq_true hs
    have e1 := evO_sound hs' hx
    simp only [VR] at e1
    obtain ⟨b, base, g1, e1⟩ := e1
    obtain ⟨b', base', g2, ev, g3, g4, g5, g6⟩ := hs'.toHRel.cell hb he
    rw [g1] at g2; cases g2
    refine ⟨ev, ?_, g3⟩
    simp only [execOp, ho, Instr.loadAt, Instr.sureAddr, e1, Sem.run_bind, Sem.run_pure, Result.andThen_ok]
    rw [run_loadVar_cells hT w b (base + (idx * sz + 0)) ev.cells.toList (fun _ => by simp [g4, hs]) (fun j v hv => by have := g6 j v hv; simpa [Nat.add_assoc] using this)]
    · rw [ha]
      cases hg : e.isAgg
      · have := g3.notAgg hg
        simp only [Result.andThen_ok]; rw [this]; rfl
      · have := g3.agg hg
        simp only [Result.andThen_ok]
        rw [show Value.agg ev.cells.toList.toArray = ev from by conv => rhs; rw [this]
                                                                ]
    · intro hf
      rw [hf] at ha
      have := g3.notAgg ha.symm
      rw [this]; rfl

theorem VRs.one {w X ρ} {a : AV} {vs : List Value} (h : VRs w X ρ [a] vs) : ∃ v, vs = [v] ∧ VR w X ρ a v := by
  simp only [VRs] at h
  obtain ⟨v, r, rfl, hv, rfl⟩ := h
  exact ⟨v, rfl, hv⟩

theorem ld_sound {w : World} {X ρ} {t : TypeId} {i : TI} (hT : TOk P t i) {b o : Nat} {cs : List AV} {vs : List Value} (hv : VRs w X ρ cs vs) (h1 : ∀ c ∈ vs, c.oneCell' = true)
    (hc : ∀ j v, vs[j]? = some v → w.cell? ⟨b, o + j, none⟩ = some v) {sub : Nat} {av : AV} (h : ldA (aggD i.desc) cs sub i.size = some av) :
    ∃ v, (loadVar t ⟨b, o + sub, none⟩).run P w = .ok v w ∧ VR w X ρ av v := by
  cases ha : aggD i.desc <;> rw [ha] at h <;> simp only [ldA] at h
  · obtain ⟨v, g1, g2⟩ := hv.get h
    refine ⟨v, ?_, g2⟩
    rw [run_loadVar_cells hT w b (o + sub) [v] (fun h => by rw [ha] at h; cases h) (fun j u hu => ?_) (fun _ => rfl), ha]
    · rfl
    · match j, hu with
      | 0, hu => simp at hu; subst hu; exact hc sub _ g1
  · split at h
    · rename_i hle
      cases h
      have hle : sub + i.size ≤ cs.length := by simpa using hle
      have hlen := hv.length
      refine ⟨.agg ((vs.drop sub).take i.size).toArray, ?_, ?_⟩
      · rw [run_loadVar_cells hT w b (o + sub) ((vs.drop sub).take i.size) (fun _ => by simp; omega) (fun j u hu => ?_) (fun h => by rw [ha] at h; cases h), ha]
        rw [List.getElem?_take] at hu
        split at hu
        · rw [List.getElem?_drop] at hu
          have := hc _ _ hu
          rwa [Nat.add_assoc]
        · cases hu
      · simp only [VR]
        exact ⟨_, rfl, (hv.drop sub).take i.size, fun c hc => h1 c (List.mem_of_mem_drop (List.mem_of_mem_take hc))⟩
    · cases h

theorem op_load_part {o : Oper} {t x id sz idx sub els e av} {i : TI} (ho : o.op = .load t x) (hT : TOk P t i) (hx : evO env x = some (.ptr id sz idx sub)) (hb : getB hp id = some (.arr sz els))
    (he : els[idx]? = some e) (h : ldA (aggD i.desc) e.cells sub i.size = some av) : OpS P n n0 o env hp nx av hp nx :=
  .pure fun C ρ w st hs' => by
    have e1 := evO_sound hs' hx
    simp only [VR] at e1
    obtain ⟨b, base, g1, e1⟩ := e1
    obtain ⟨b', base', g2, ev, g3, g4, g5, g6⟩ := hs'.toHRel.cell hb he
    rw [g1] at g2; cases g2
    obtain ⟨v, k1, k2⟩ := ld_sound (P := P) hT (b := b) (o := base + idx * sz) g3.cells g5 (fun j v hv => by have := g6 j v hv; simpa [Nat.add_assoc] using this) h
    refine ⟨v, ?_, k2⟩
    simp only [execOp, ho, Instr.loadAt, Instr.sureAddr, e1, Sem.run_bind, Sem.run_pure, Result.andThen_ok]
    rw [show base + (idx * sz + sub) = base + idx * sz + sub from by omega, k1]
    rfl

theorem VR_none {w X ρ} {a : AV} {v : Value} (h : VR w X (fun _ => none) a v) : VR w X ρ a v :=
  VR.mono (Pres.refl (fun _ => False) w) (fun _ _ h => h.elim) (fun _ _ h => h) (fun _ _ h => by cases h) a v h
theorem VRs_none {w X ρ} {a : List AV} {v : List Value} (h : VRs w X (fun _ => none) a v) : VRs w X ρ a v :=
  VRs.mono (Pres.refl (fun _ => False) w) (fun _ _ h => h.elim) (fun _ _ h => h) (fun _ _ h => by cases h) a v h

theorem op_load_fp {o : Oper} {t x cs av} {i : TI} (ho : o.op = .load t x) (hT : TOk P t i) (hx : evO env x = some (.fp cs))
    (h : ldA (aggD i.desc) cs 0 i.size = some av) : OpS P n n0 o env hp nx av hp nx :=
  .pure fun C ρ w st hs' => by
    have e1 := evO_sound hs' hx
    simp only [VR] at e1
    obtain ⟨a, vs, e1, g1, g2, g3, g4, g5⟩ := e1
    obtain ⟨ab, ao, as⟩ := a
    simp only at g2 g3 g4; subst g2
    obtain ⟨v, k1, k2⟩ := ld_sound (P := P) hT (b := ab) (o := ao) g1 g5 g3 h
    refine ⟨v, ?_, VR_none k2⟩
    simp only [execOp, ho, Instr.loadAt, Instr.sureAddr, e1, Sem.run_bind, Sem.run_pure, Result.andThen_ok]
    rw [Nat.add_zero] at k1
    rw [k1]; rfl

/-- A whole struct behind a frozen pointer, its cells known by a name. -/
theorem op_load_fp_whole {o : Oper} {t x cs} {i : TI} (ho : o.op = .load t x) (hT : TOk P t i) (hx : evO env x = some (.fp cs))
    (ha : aggD i.desc = true) (hl : cs.length = i.size) : OpS P n n0 o env hp nx (.agg cs) hp nx := by
  have h1 : Nat.ble (0 + i.size) cs.length = true := by rw [Nat.ble_eq]; omega
  exact op_load_fp ho hT hx (by rw [ha]; simp only [ldA]; rw [h1]; simp [← hl])

theorem op_load_fpe {o : Oper} {t x e} {i : TI} (ho : o.op = .load t x) (hT : TOk P t i) (hx : evO env x = some (.fp (AV.cells e)))
    (ha : aggD i.desc = e.isAgg) (hl : e.cells.length = i.size) (h1 : e.isAgg = true ∨ i.size = 1) : OpS P n n0 o env hp nx e hp nx := by
  cases he : e.isAgg
  · rw [he] at ha h1
    refine op_load_fp ho hT hx ?_
    rw [ha]
    cases e <;> simp [AV.isAgg] at he <;> simp [ldA]
  · rw [he] at ha
    cases e <;> simp [AV.isAgg] at he
    exact op_load_fp_whole ho hT hx ha hl

theorem op_fieldAddr_ptr {o : Oper} {t x f fs fd id sz idx sub} {i j : TI} (ho : o.op = .fieldAddr t x f) (hT : TOk P t i) (hd : i.desc = .struct fs) (hf : fs[f]? = some fd) (hj : TOk P fd.type j)
    (hz : Nat.blt 0 j.size = true) (hx : evO env x = some (.ptr id sz idx sub)) : OpS P n n0 o env hp nx (.ptr id sz idx (sub + fd.offset)) hp nx :=
  .pure fun C ρ w st hs' => by
    have e1 := evO_sound hs' hx
    simp only [VR] at e1
    obtain ⟨b, base, g1, e1⟩ := e1
    have hz : j.size ≠ 0 := by intro e; rw [e] at hz; cases hz
    refine ⟨.pointer (some ⟨b, base + (idx * sz + (sub + fd.offset)), none⟩), ?_, by simp only [VR]; exact ⟨b, base, g1, rfl⟩⟩
    simp only [execOp, ho, Instr.fieldAt, Instr.sureAddr, e1, Sem.run_bind, hT.run_und, hd, hf, fieldPlace, hj.run_size, Sem.run_pure, Result.andThen_ok, if_neg hz, Addr_add]
    simp [Nat.add_assoc]

theorem op_fieldAddr_eptr {o : Oper} {t x f fs fd id sz idx sub} {i j : TI} (ho : o.op = .fieldAddr t x f) (hT : TOk P t i) (hd : i.desc = .struct fs) (hf : fs[f]? = some fd) (hj : TOk P fd.type j)
    (hz : Nat.blt 0 j.size = true) (hx : evO env x = some (.eptr id sz idx sub)) : OpS P n n0 o env hp nx (.eptr id sz idx (sub + fd.offset)) hp nx :=
  .pure fun C ρ w st hs' => by
    have e1 := evO_sound hs' hx
    simp only [VR] at e1
    obtain ⟨b, base, g1, e1⟩ := e1
    have hz : j.size ≠ 0 := by intro e; rw [e] at hz; cases hz
    refine ⟨.pointer (some ⟨b, base + (idx * sz + (sub + fd.offset)), none⟩), ?_, by simp only [VR]; exact ⟨b, base, g1, rfl⟩⟩
    simp only [execOp, ho, Instr.fieldAt, Instr.sureAddr, e1, Sem.run_bind, hT.run_und, hd, hf, fieldPlace, hj.run_size, Sem.run_pure, Result.andThen_ok, if_neg hz, Addr_add]
    simp [Nat.add_assoc]

theorem op_fieldAddr_fp {o : Oper} {t x f fs fd cs} {i j : TI} (ho : o.op = .fieldAddr t x f) (hT : TOk P t i) (hd : i.desc = .struct fs) (hf : fs[f]? = some fd) (hj : TOk P fd.type j)
    (hz : Nat.blt 0 j.size = true) (hx : evO env x = some (.fp cs)) : OpS P n n0 o env hp nx (.fp (cs.drop fd.offset)) hp nx :=
  .pure fun C ρ w st hs' => by
    have e1 := evO_sound hs' hx
    simp only [VR] at e1
    obtain ⟨a, vs, e1, g1, g2, g3, g4, g5⟩ := e1
    obtain ⟨ab, ao, as⟩ := a
    simp only at g2 g3 g4; subst g2
    have hz : j.size ≠ 0 := by intro e; rw [e] at hz; cases hz
    refine ⟨.pointer (some ⟨ab, ao + fd.offset, none⟩), ?_, ?_⟩
    · simp only [execOp, ho, Instr.fieldAt, Instr.sureAddr, e1, Sem.run_bind, hT.run_und, hd, hf, fieldPlace, hj.run_size, Sem.run_pure, Result.andThen_ok, if_neg hz, Addr_add]
    · simp only [VR]
      refine ⟨_, _, rfl, g1.drop fd.offset, rfl, fun j v hv => ?_, fun hne => g4 (fun e => hne (by simp [e])), fun c hc => g5 c (List.mem_of_mem_drop hc)⟩
      rw [List.getElem?_drop] at hv
      have := g3 _ _ hv
      simpa [Nat.add_assoc] using this

theorem op_indexAddr_sl {o : Oper} {t x y e sz l k a av} {i j : TI} (ho : o.op = .indexAddr t x y) (hT : TOk P t i) (hd : i.desc = .slice e) (hj : TOk P e j) (hz : Nat.beq j.size sz = true)
    (hx : evO env x = some (.sl sz l)) (hy : evO env y = some (.int k a)) (h0 : 0 ≤ a) (h1 : a < l.length) (he : l[a.toNat]? = some av) : OpS P n n0 o env hp nx (.fp av.cells) hp nx :=
  .pure fun C ρ w st hs' => by
    have hz := Nat.eq_of_beq_eq_true hz
    have e1 := evO_sound hs' hx
    have e2 := evO_sound hs' hy
    simp only [VR] at e1 e2
    obtain ⟨ad, len, c, evs, e1, g1, g2, g3, g4, g5⟩ := e1
    have hlt : a.toNat < l.length := by omega
    cases ad with
    | none => obtain ⟨g5, _⟩ := g5; subst g5; simp at hlt
    | some ad =>
      obtain ⟨b, off, spot⟩ := ad
      obtain ⟨k1, k2, k3, k4⟩ := g5 (by intro e; subst e; simp at hlt)
      simp only at k1 k2 k3; subst k1
      obtain ⟨ev, hev, hvr⟩ := g3.get he
      have hm : ev ∈ evs := List.mem_of_getElem? hev
      refine ⟨.pointer (some ⟨b, off + a.toNat * sz, none⟩), ?_, ?_⟩
      · simp only [execOp, ho, Instr.indexAt, e1, e2, asIntOf, Sem.run_bind, hT.run_und, hd, Sem.run_pure, Result.andThen_ok]
        rw [if_pos ⟨h0, by omega⟩]
        simp only [Sem.run_bind, hj.run_size, Result.andThen_ok, Sem.run_pure, Addr_add, hz]
      · simp only [VR]
        refine ⟨_, ev.cells.toList, rfl, hvr.cells, rfl, fun j v hv => ?_, fun _ => ?_, fun c hc => k4 c (mem_flat hm hc)⟩
        · have hj' : j < sz := by
            rcases Nat.lt_or_ge j ev.cells.toList.length with h | h
            · rw [← g4 ev hm]; simpa using h
            · rw [List.getElem?_eq_none h] at hv; cases hv
          have := k2 (a.toNat * sz + j) v (by rw [flat_get g4 hev hj']; exact hv)
          simpa [Nat.add_assoc] using this
        · refine k3 ?_
          intro hf
          have h2 : ev.cells.toList = [] := by
            cases hc : ev.cells.toList with
            | nil => rfl
            | cons x r => have := mem_flat hm (show x ∈ ev.cells.toList by rw [hc]; simp); rw [hf] at this; cases this
          contradiction

theorem op_indexAddr_ref {o : Oper} {t x y e sz id off len k a} {i j : TI} (ho : o.op = .indexAddr t x y) (hT : TOk P t i) (hd : i.desc = .slice e) (hj : TOk P e j) (hz : Nat.beq j.size sz = true)
    (hx : evO env x = some (.ref sz id off len)) (hy : evO env y = some (.int k a)) (h0 : 0 ≤ a) (h1 : a < len) : OpS P n n0 o env hp nx (.eptr id sz (off + a.toNat) 0) hp nx :=
  .pure fun C ρ w st hs' => by
    have hz := Nat.eq_of_beq_eq_true hz
    have e1 := evO_sound hs' hx
    have e2 := evO_sound hs' hy
    simp only [VR] at e1 e2
    obtain ⟨p, ad, c, g1, e1, g2, _, g3⟩ := e1
    obtain ⟨b, base, rfl, rfl, T, nn, g4, g5⟩ := g3 (by omega)
    refine ⟨.pointer (some ⟨b, base + ((off + a.toNat) * sz + 0), none⟩), ?_, by simp only [VR]; exact ⟨b, base, g1, rfl⟩⟩
    simp only [execOp, ho, Instr.indexAt, e1, e2, asIntOf, Sem.run_bind, hT.run_und, hd, Sem.run_pure, Result.andThen_ok]
    rw [if_pos ⟨h0, by omega⟩]
    simp only [Sem.run_bind, hj.run_size, Result.andThen_ok, Sem.run_pure, Addr_add, hz]
    simp [Nat.add_mul, Nat.add_assoc]

theorem op_indexAddr_arr {o : Oper} {t x y e len id sz idx sub k a} {i j : TI} (ho : o.op = .indexAddr t x y) (hT : TOk P t i) (hd : i.desc = .array len e) (hj : TOk P e j)
    (hx : evO env x = some (.ptr id sz idx sub)) (hy : evO env y = some (.int k a)) (h0 : 0 ≤ a) (h1 : a < len) : OpS P n n0 o env hp nx (.ptr id sz idx (sub + a.toNat * j.size)) hp nx :=
  .pure fun C ρ w st hs' => by
    have e1 := evO_sound hs' hx
    have e2 := evO_sound hs' hy
    simp only [VR] at e1 e2
    obtain ⟨b, base, g1, e1⟩ := e1
    refine ⟨.pointer (some ⟨b, base + (idx * sz + (sub + a.toNat * j.size)), none⟩), ?_, by simp only [VR]; exact ⟨b, base, g1, rfl⟩⟩
    simp only [execOp, ho, Instr.indexAt, Instr.sureAddr, e1, e2, asIntOf, Sem.run_bind, hT.run_und, hd, Sem.run_pure, Result.andThen_ok]
    rw [if_pos ⟨h0, h1⟩]
    simp only [Sem.run_bind, hj.run_size, Result.andThen_ok, Sem.run_pure, Addr_add]
    simp [Nat.add_assoc]

theorem op_indexAddr_farr {o : Oper} {t x y e len cs k a} {i j : TI} (ho : o.op = .indexAddr t x y) (hT : TOk P t i) (hd : i.desc = .array len e) (hj : TOk P e j)
    (hx : evO env x = some (.fp cs)) (hy : evO env y = some (.int k a)) (h0 : 0 ≤ a) (h1 : a < len) : OpS P n n0 o env hp nx (.fp (cs.drop (a.toNat * j.size))) hp nx :=
  .pure fun C ρ w st hs' => by
    have e1 := evO_sound hs' hx
    have e2 := evO_sound hs' hy
    simp only [VR] at e1 e2
    obtain ⟨ad, vs, e1, g1, g2, g3, g4, g5⟩ := e1
    obtain ⟨ab, ao, as⟩ := ad
    simp only at g2 g3 g4; subst g2
    refine ⟨.pointer (some ⟨ab, ao + a.toNat * j.size, none⟩), ?_, ?_⟩
    · simp only [execOp, ho, Instr.indexAt, Instr.sureAddr, e1, e2, asIntOf, Sem.run_bind, hT.run_und, hd, Sem.run_pure, Result.andThen_ok]
      rw [if_pos ⟨h0, h1⟩]
      simp only [Sem.run_bind, hj.run_size, Result.andThen_ok, Sem.run_pure, Addr_add]
    · simp only [VR]
      refine ⟨_, _, rfl, g1.drop (a.toNat * j.size), rfl, fun j v hv => ?_, fun hne => g4 (fun e => hne (by simp [e])), fun c hc => g5 c (List.mem_of_mem_drop hc)⟩
      rw [List.getElem?_drop] at hv
      have := g3 _ _ hv
      simpa [Nat.add_assoc] using this
end
end Go.Av
