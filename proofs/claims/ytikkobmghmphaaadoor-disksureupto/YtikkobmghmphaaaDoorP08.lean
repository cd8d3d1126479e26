/- Part 8 of the proof: what the operations of the model do to values as Lean sees them, and plain laws. -/
import Derived.Test.YtikkobmghmphaaaDoorP07
namespace Go.Tm
open Go Go.Av

theorem mid_split {L : List Ent} {i : Nat} (h : i < L.length) : L = L.take i ++ L[i] :: L.drop (i + 1) := by
  rw [← List.drop_eq_getElem_cons h, List.take_append_drop]
theorem erase_mem {L : List Ent} (hs : L.Pairwise Lt) {i : Nat} (h : i < L.length) (x : Ent) : x ∈ L.eraseIdx i ↔ x ∈ L ∧ x.path ≠ (L[i]).path := by
  have e1 := mid_split h
  rw [List.eraseIdx_eq_take_drop_succ]
  have hs' := hs
  rw [e1] at hs'
  obtain ⟨p1, p2, p3⟩ := List.pairwise_append.1 hs'
  obtain ⟨p4, p5⟩ := List.pairwise_cons.1 p2
  have ne1 : ∀ a ∈ L.take i, a.path ≠ (L[i]).path := fun a ha he => by
    have := p3 a ha _ List.mem_cons_self
    unfold Lt at this; rw [he, cmpP_zero.2 rfl] at this; omega
  have ne2 : ∀ a ∈ L.drop (i + 1), a.path ≠ (L[i]).path := fun a ha he => by
    have := p4 a ha
    unfold Lt at this; rw [he, cmpP_zero.2 rfl] at this; omega
  constructor
  · intro hx
    rcases List.mem_append.1 hx with hx | hx
    · exact ⟨List.mem_of_mem_take hx, ne1 x hx⟩
    · exact ⟨List.mem_of_mem_drop hx, ne2 x hx⟩
  · rintro ⟨hx, hne⟩
    rw [e1] at hx
    rcases List.mem_append.1 hx with hx | hx
    · exact List.mem_append_left _ hx
    · rcases List.mem_cons.1 hx with rfl | hx
      · exact absurd rfl hne
      · exact List.mem_append_right _ hx
theorem erase_sorted {L : List Ent} (hs : L.Pairwise Lt) (i : Nat) : (L.eraseIdx i).Pairwise Lt := hs.sublist (List.eraseIdx_sublist L i)
theorem cnt_mono {A B : List Ent} (h : A.Sublist B) : cnt A ≤ cnt B := by
  induction h with
  | slnil => exact Nat.le_refl _
  | cons a _ ih => simp only [cnt]; omega
  | cons_cons a _ ih => simp only [cnt]; omega

theorem withT_mem {L : List Ent} {e : Ent} (hs : L.Pairwise Lt) (h : (withT L e).2 = 0) :
    (∀ x, x ∈ (withT L e).1 ↔ x = e ∨ (x ∈ L ∧ x.path ≠ e.path)) ∧ (withT L e).1.Pairwise Lt ∧ (withT L e).1.length ≤ 40 ∧ e.b.length ≤ 2048 ∧ cnt (withT L e).1 ≤ 16384 ∧ (∀ x ∈ L, x.path = e.path → x.dir = false) ∧ upE L e.path = 0 := by
  have h1 : ¬ upE L e.path ≠ 0 := fun h1 => by rw [withT, if_pos h1] at h; exact h1 h
  have h2 : ¬ (findOk L e.path = true ∧ (L.getD (findI L e.path) default).dir = true) := fun h2 => by rw [withT, if_neg h1, if_pos h2] at h; exact absurd h (by decide : ¬ (7 : Int) = 0)
  obtain ⟨M, hM⟩ : ∃ M, M = (if findOk L e.path = true then L.set (findI L e.path) e else L.take (findI L e.path) ++ e :: L.drop (findI L e.path)) := ⟨_, rfl⟩
  have hw : withT L e = if 40 < M.length ∨ 2048 < e.b.length ∨ 16384 < cnt M then (L, 9) else (M, 0) := by rw [withT, if_neg h1, if_neg h2]; subst hM; rfl
  have h3 : ¬ (40 < M.length ∨ 2048 < e.b.length ∨ 16384 < cnt M) := fun h3 => by rw [hw, if_pos h3] at h; exact absurd h (by decide : ¬ (9 : Int) = 0)
  rw [hw, if_neg h3]
  have hdir : ∀ x ∈ L, x.path = e.path → x.dir = false := fun x hx hp => by
    cases hd : x.dir with
    | false => rfl
    | true =>
      refine absurd ⟨(findOk_iff hs _).2 ⟨x, hx, hp⟩, ?_⟩ h2
      rw [← hp, findOk_mem hs hx]; exact hd
  have key : (∀ x, x ∈ M ↔ x = e ∨ (x ∈ L ∧ x.path ≠ e.path)) ∧ M.Pairwise Lt := by
    by_cases hok : findOk L e.path = true
    · rw [if_pos hok] at hM
      obtain ⟨hi, hp⟩ := findOk_get hok
      have e1 := mid_split hi
      have hs' := hs
      rw [e1] at hs'
      obtain ⟨p1, p2, p3⟩ := List.pairwise_append.1 hs'
      obtain ⟨p4, p5⟩ := List.pairwise_cons.1 p2
      have eM : M = L.take (findI L e.path) ++ e :: L.drop (findI L e.path + 1) := by
        rw [hM, List.set_eq_take_append_cons_drop, if_pos hi]
      have em := erase_mem hs hi
      rw [List.eraseIdx_eq_take_drop_succ] at em
      constructor
      · intro x
        rw [eM, List.mem_append, List.mem_cons]
        have := em x
        rw [List.mem_append, hp] at this
        rw [← this]
        constructor
        · rintro (h | h | h)
          · exact .inr (.inl h)
          · exact .inl h
          · exact .inr (.inr h)
        · rintro (h | h | h)
          · exact .inr (.inl h)
          · exact .inl h
          · exact .inr (.inr h)
      · rw [eM]
        refine List.pairwise_append.2 ⟨p1, List.pairwise_cons.2 ⟨fun b hb => ?_, p5⟩, fun a ha b hb => ?_⟩
        · have := p4 b hb; unfold Lt at this ⊢; rw [← hp]; exact this
        · rcases List.mem_cons.1 hb with rfl | hb
          · have := p3 a ha _ List.mem_cons_self; unfold Lt at this ⊢; rw [← hp]; exact this
          · exact p3 a ha b (List.mem_cons_of_mem _ hb)
    · rw [if_neg hok] at hM
      have hno : ∀ x ∈ L, x.path ≠ e.path := fun x hx hp => hok ((findOk_iff hs _).2 ⟨x, hx, hp⟩)
      have e1 : L = L.take (findI L e.path) ++ L.drop (findI L e.path) := (List.take_append_drop _ _).symm
      have hs' := hs
      rw [e1] at hs'
      obtain ⟨p1, p2, p3⟩ := List.pairwise_append.1 hs'
      constructor
      · intro x
        rw [hM, List.mem_append, List.mem_cons]
        have hx : x ∈ L ↔ x ∈ L.take (findI L e.path) ∨ x ∈ L.drop (findI L e.path) := by
          rw [← List.mem_append, List.take_append_drop]
        constructor
        · rintro (h | h | h)
          · exact .inr ⟨hx.2 (.inl h), hno x (hx.2 (.inl h))⟩
          · exact .inl h
          · exact .inr ⟨hx.2 (.inr h), hno x (hx.2 (.inr h))⟩
        · rintro (h | ⟨h, _⟩)
          · exact .inr (.inl h)
          · rcases hx.1 h with h | h
            · exact .inl h
            · exact .inr (.inr h)
      · rw [hM]
        have hlt : ∀ a ∈ L.take (findI L e.path), Lt a e := fun a ha => by
          obtain ⟨j, hj, rfl⟩ := List.getElem_of_mem ha
          rw [List.getElem_take]
          rw [List.length_take] at hj
          exact find_lt hs e.path (by omega) (by omega)
        have hgt : ∀ b ∈ L.drop (findI L e.path), Lt e b := fun b hb => by
          obtain ⟨j, hj, rfl⟩ := List.getElem_of_mem hb
          rw [List.getElem_drop]
          rw [List.length_drop] at hj
          have hlen : findI L e.path + j < L.length := by omega
          have hne := hno _ (List.getElem_mem hlen)
          have hz : cmpP (L[findI L e.path + j]).path e.path ≠ 0 := fun h => hne (cmpP_zero.1 h)
          have hge : 0 ≤ cmpP (L[findI L e.path + j]).path e.path := by
            by_cases e0 : j = 0
            · subst e0
              exact find_ge e.path (by omega)
            · have := find_gt hs e.path hlen (by omega); omega
          have := cmpP_anti (L[findI L e.path + j]).path e.path
          unfold Lt; omega
        refine List.pairwise_append.2 ⟨p1, List.pairwise_cons.2 ⟨hgt, p2⟩, fun a ha b hb => ?_⟩
        rcases List.mem_cons.1 hb with rfl | hb
        · exact hlt a ha
        · exact p3 a ha b hb
  exact ⟨key.1, key.2, by dsimp only; omega, by omega, by dsimp only; omega, hdir, by omega⟩

theorem upE_zero {L : List Ent} (hs : L.Pairwise Lt) {p : List UInt8} (hp : goodP p = true) (h : upE L p = 0) : upOf p = [] ∨ ∃ d ∈ L, d.path = upOf p ∧ d.dir = true := by
  unfold upE at h
  rw [if_pos hp] at h
  dsimp only at h
  by_cases h1 : upOf p = []
  · exact .inl h1
  · rw [if_neg h1] at h
    by_cases h2 : findOk L (upOf p) = false
    · rw [if_pos h2] at h; exact absurd h (by decide : ¬ (5 : Int) = 0)
    · rw [if_neg h2] at h
      by_cases h3 : (L.getD (findI L (upOf p)) default).dir = false
      · rw [if_pos h3] at h; exact absurd h (by decide : ¬ (7 : Int) = 0)
      · obtain ⟨hi, hq⟩ := findOk_get (L := L) (p := upOf p) (by simpa using h2)
        refine .inr ⟨_, List.getElem_mem hi, hq, ?_⟩
        rw [show L.getD (findI L (upOf p)) default = L[findI L (upOf p)] from by simp [List.getD, hi]] at h3
        simpa using h3
theorem withT_good {L : List Ent} {e : Ent} (hL : GoodL L) (he : goodP e.path = true) (hb : e.dir = true → e.b = []) (h : (withT L e).2 = 0) : goodT (withT L e).1 = true := by
  obtain ⟨h1, h2, h3, h4, h5, h6, h7⟩ := withT_mem hL.sorted h
  refine (goodT_iff _).2 ⟨h3, h5, h2, fun x hx => ?_, fun x hx => ?_⟩
  · rcases (h1 x).1 hx with rfl | hx
    · exact ⟨he, h4, hb⟩
    · exact hL.ok x hx.1
  · have keep : ∀ d ∈ L, d.dir = true → d ∈ (withT L e).1 := fun d hd hdd => (h1 d).2 (.inr ⟨hd, fun hp => by rw [h6 d hd hp] at hdd; cases hdd⟩)
    have : upOf x.path = [] ∨ ∃ d ∈ L, d.path = upOf x.path ∧ d.dir = true := by
      rcases (h1 x).1 hx with rfl | hx
      · exact upE_zero hL.sorted he h7
      · exact hL.up x hx.1
    rcases this with h | ⟨d, hd, hp, hdd⟩
    · exact .inl h
    · exact .inr ⟨d, keep d hd hdd, hp, hdd⟩

theorem findT_zero {L : List Ent} {p : List UInt8} (h : (findT L p).2 = 0) : goodT L = true ∧ goodP p = true ∧ findOk L p = true := by
  unfold findT at h
  by_cases h1 : goodT L = false
  · rw [if_pos h1] at h; exact absurd h (by decide : ¬ (1 : Int) = 0)
  · rw [if_neg h1] at h
    by_cases h2 : goodP p = false
    · rw [if_pos h2] at h; exact absurd h (by decide : ¬ (4 : Int) = 0)
    · rw [if_neg h2] at h
      by_cases h3 : findOk L p = false
      · rw [if_pos h3] at h; exact absurd h (by decide : ¬ (5 : Int) = 0)
      · exact ⟨by simpa using h1, by simpa using h2, by simpa using h3⟩
theorem findT_five {L : List Ent} {p : List UInt8} (h : (findT L p).2 = 5) : goodT L = true ∧ goodP p = true ∧ findOk L p = false := by
  unfold findT at h
  by_cases h1 : goodT L = false
  · rw [if_pos h1] at h; exact absurd h (by decide : ¬ (1 : Int) = 5)
  · rw [if_neg h1] at h
    by_cases h2 : goodP p = false
    · rw [if_pos h2] at h; exact absurd h (by decide : ¬ (4 : Int) = 5)
    · rw [if_neg h2] at h
      by_cases h3 : findOk L p = false
      · exact ⟨by simpa using h1, by simpa using h2, h3⟩
      · rw [if_neg h3] at h; exact absurd h (by decide : ¬ (0 : Int) = 5)
theorem erase_good {L : List Ent} (hg : goodT L = true) {i : Nat} (hi : i < L.length) (hd : ∀ x ∈ L, upOf x.path = (L[i]).path → (L[i]).dir = true → False) : goodT (L.eraseIdx i) = true := by
  obtain ⟨g1, g2, hL⟩ := (goodT_iff L).1 hg
  have em := erase_mem hL.sorted hi
  refine (goodT_iff _).2 ⟨Nat.le_trans (List.length_eraseIdx_le ..) g1, Nat.le_trans (cnt_mono (List.eraseIdx_sublist L i)) g2, erase_sorted hL.sorted i, fun x hx => hL.ok x ((em x).1 hx).1, fun x hx => ?_⟩
  obtain ⟨hx, _⟩ := (em x).1 hx
  rcases hL.up x hx with h | ⟨d, hdm, hp, hdd⟩
  · exact .inl h
  · refine .inr ⟨d, (em d).2 ⟨hdm, fun he => ?_⟩, hp, hdd⟩
    have : d = L[i] := sorted_inj hL.sorted hdm (List.getElem_mem hi) he
    subst this
    exact hd x hx hp.symm hdd

/-- What a change names. -/
def Chg.names (c : Chg) : List (List UInt8) := if c.op = 4 then [c.path, c.to] else [c.path]
theorem done_good {L : List Ent} {c : Chg} (hg : goodT L = true) (h : (doneT L c).2 = 0) : goodT (doneT L c).1 = true ∧ ∀ x : Ent, x.path ∉ c.names → (x ∈ (doneT L c).1 ↔ x ∈ L) := by
  obtain ⟨g1, g2, hL⟩ := (goodT_iff L).1 hg
  have hnf : ¬ goodT L = false := by rw [hg]; decide
  have wmem : ∀ {M : List Ent} {e : Ent}, M.Pairwise Lt → (withT M e).2 = 0 → ∀ x : Ent, x.path ≠ e.path → (x ∈ (withT M e).1 ↔ x ∈ M) := fun hs hw x hx => by
    rw [(withT_mem hs hw).1 x]
    constructor
    · rintro (rfl | h)
      · exact absurd rfl hx
      · exact h.1
    · exact fun h => .inr ⟨h, hx⟩
  unfold doneT at h ⊢
  by_cases h1 : c.op = 1
  · rw [if_pos h1] at h ⊢
    unfold putT at h ⊢
    rw [if_neg hnf] at h ⊢
    by_cases h2 : goodP c.path = false
    · rw [if_pos h2] at h; exact absurd h (by decide : ¬ (4 : Int) = 0)
    · rw [if_neg h2] at h ⊢
      refine ⟨withT_good hL (by simpa using h2) (fun h => by cases h) h, fun x hx => wmem hL.sorted h x fun e => hx ?_⟩
      rw [Chg.names, if_neg (by omega), e]; simp
  rw [if_neg h1] at h ⊢
  by_cases h2 : c.op = 2
  · rw [if_pos h2] at h ⊢
    unfold makeT at h ⊢
    by_cases h3 : (findT L c.path).2 = 0
    · rw [if_pos h3] at h; exact absurd h (by decide : ¬ (6 : Int) = 0)
    · rw [if_neg h3] at h ⊢
      by_cases h4 : (findT L c.path).2 = 5
      · rw [if_pos h4] at h ⊢
        obtain ⟨_, k2, _⟩ := findT_five h4
        refine ⟨withT_good hL k2 (fun _ => rfl) h, fun x hx => wmem hL.sorted h x fun e => hx ?_⟩
        rw [Chg.names, if_neg (by omega), e]; simp
      · rw [if_neg h4] at h; exact absurd h h3
  rw [if_neg h2] at h ⊢
  by_cases h3 : c.op = 3
  · rw [if_pos h3] at h ⊢
    unfold removeT at h ⊢
    by_cases h4 : (findT L c.path).2 ≠ 0
    · rw [if_pos h4] at h; exact absurd h h4
    · rw [if_neg h4] at h ⊢
      by_cases h5 : 0 < (kidsT L c.path).length
      · rw [if_pos h5] at h; exact absurd h (by decide : ¬ (8 : Int) = 0)
      · rw [if_neg h5]
        obtain ⟨_, k2, k3⟩ := findT_zero (L := L) (p := c.path) (by omega)
        obtain ⟨hi, hp⟩ := findOk_get k3
        refine ⟨erase_good hg hi fun x hx hu _ => h5 ?_, fun x hx => ?_⟩
        · rw [kidsT, if_pos hg, List.length_map]
          apply List.length_pos_iff.2
          intro e
          have : x ∈ L.filter fun e => upN e.path == c.path := List.mem_filter.2 ⟨hx, by simp only [upN, (hL.ok x hx).1, if_true, hu, hp]; simp⟩
          rw [e] at this; cases this
        · rw [erase_mem hL.sorted hi, hp]
          have : x.path ≠ c.path := fun e => hx (by rw [Chg.names, if_neg (by omega), e]; simp)
          exact ⟨fun h => h.1, fun h => ⟨h, this⟩⟩
  rw [if_neg h3] at h ⊢
  by_cases h4 : c.op = 4
  · rw [if_pos h4] at h ⊢
    unfold moveT at h ⊢
    rw [if_neg hnf] at h ⊢
    by_cases h5 : goodP c.path = false ∨ goodP c.to = false
    · rw [if_pos h5] at h; exact absurd h (by decide : ¬ (4 : Int) = 0)
    · rw [if_neg h5] at h ⊢
      by_cases h6 : findOk L c.path = false
      · rw [if_pos h6] at h; exact absurd h (by decide : ¬ (5 : Int) = 0)
      · rw [if_neg h6] at h ⊢
        by_cases h7 : (L.getD (findI L c.path) default).dir = true
        · rw [if_pos h7] at h; exact absurd h (by decide : ¬ (7 : Int) = 0)
        · rw [if_neg h7] at h ⊢
          by_cases h8 : c.path = c.to
          · rw [if_pos h8]; exact ⟨hg, fun x _ => Iff.rfl⟩
          · rw [if_neg h8] at h ⊢
            dsimp only at h ⊢
            by_cases h9 : (withT (L.eraseIdx (findI L c.path)) ⟨c.to, false, (L.getD (findI L c.path) default).b⟩).2 ≠ 0
            · rw [if_pos h9] at h; exact absurd h h9
            · rw [if_neg h9]
              have h9 : (withT (L.eraseIdx (findI L c.path)) ⟨c.to, false, (L.getD (findI L c.path) default).b⟩).2 = 0 := by omega
              obtain ⟨hi, hp⟩ := findOk_get (L := L) (p := c.path) (by simpa using h6)
              have hgd : L.getD (findI L c.path) default = L[findI L c.path] := by simp [List.getD, hi]
              have hge := erase_good hg hi fun x hx _ hd => h7 (by rw [hgd]; exact hd)
              have hLe := ((goodT_iff _).1 hge).2.2
              have hto : goodP c.to = true := by
                cases hh : goodP c.to with
                | true => rfl
                | false => exact absurd (.inr hh) h5
              refine ⟨withT_good hLe hto (fun h => by cases h) h9, fun x hx => ?_⟩
              rw [Chg.names, if_pos h4] at hx
              have hx1 : x.path ≠ c.path := fun e => hx (by rw [e]; simp)
              have hx2 : x.path ≠ c.to := fun e => hx (by rw [e]; simp)
              rw [wmem hLe.sorted h9 x hx2, erase_mem hL.sorted hi, hp]
              exact ⟨fun h => h.1, fun h => ⟨h, hx1⟩⟩
  · rw [if_neg h4] at h; exact absurd h (by decide : ¬ (1 : Int) = 0)
theorem goodT_done : ∀ L c, goodT L = true → (doneT L c).2 = 0 → goodT (doneT L c).1 = true := fun _ _ h h' => (done_good h h').1
end Go.Tm
namespace Go.Tm
open Go Go.Av

theorem findT_mem {L : List Ent} (hg : goodT L = true) {x : Ent} (hx : x ∈ L) : findT L x.path = (x, 0) := by
  obtain ⟨_, _, hL⟩ := (goodT_iff L).1 hg
  have h1 := (hL.ok x hx).1
  have h2 := (findOk_iff hL.sorted x.path).2 ⟨x, hx, rfl⟩
  have h3 := findOk_mem hL.sorted hx
  unfold findT
  rw [if_neg (by rw [hg]; decide), if_neg (by rw [h1]; decide), if_neg (by rw [h2]; decide), h3]
/-- What stays, where nothing was named. -/
structure Und (s : Seen) (L0 L : List Ent) : Prop where
  good : goodT L = true
  mem : ∀ x : Ent, lookB s x.path = false → (x ∈ L ↔ x ∈ L0)
theorem tear_names (c : Chg) (t : Int) : (tearC c t).names = c.names := by
  unfold tearC; split <;> rfl
theorem Und.done {s : Seen} {L0 L : List Ent} {c : Chg} (h : Und s L0 L) (hc : ∀ p ∈ c.names, lookB s p = true) (h0 : (doneT L c).2 = 0) : Und s L0 (doneT L c).1 := by
  obtain ⟨h1, h2⟩ := done_good h.good h0
  refine ⟨h1, fun x hx => ?_⟩
  rw [h2 x fun hm => by rw [hc _ hm] at hx; cases hx]
  exact h.mem x hx
theorem Und.fall {s : Seen} {L0 : List Ent} (keep : List Int) (torn : Int) : ∀ (cs : List Chg) (L : List Ent) (k : Nat), Und s L0 L → (∀ c ∈ cs, ∀ p ∈ c.names, lookB s p = true) → Und s L0 (fallT keep torn L k cs)
  | [], L, k, h, _ => h
  | c :: r, L, k, h, hc => by
    rw [fallT]
    refine Und.fall keep torn r _ _ ?_ fun x hx => hc x (List.mem_cons_of_mem _ hx)
    split
    · rename_i h1
      exact h.done (fun p hp => hc c List.mem_cons_self p (by rwa [tear_names] at hp)) h1.2
    · exact h
theorem Und.find {s : Seen} {L0 L : List Ent} (h : Und s L0 L) {x : Ent} (hx : x ∈ L0) (hs : lookB s x.path = false) : findT L x.path = (x, 0) :=
  findT_mem h.good ((h.mem x hs).2 hx)
theorem Und.back {s : Seen} {L0 L : List Ent} (h0 : goodT L0 = true) (h : Und s L0 L) {y : Ent} (hy : y ∈ L) (hs : lookB s y.path = false) : (findT L0 y.path).2 = 0 := by
  rw [findT_mem h0 ((h.mem y hs).1 hy)]
/-- What is named, once more. -/
def nameB (s : Seen) (c : Chg) : Seen := if c.op = 4 then updB (updB s c.path true) c.to true else updB s c.path true
theorem nameB_le {s : Seen} {c : Chg} {p : List UInt8} (h : lookB s p = true) : lookB (nameB s c) p = true := by
  unfold nameB
  split
  · rw [lookB_upd, lookB_upd]; split
    · rfl
    · split
      · rfl
      · exact h
  · rw [lookB_upd]; split
    · rfl
    · exact h
theorem nameB_own {s : Seen} {c : Chg} : ∀ p ∈ c.names, lookB (nameB s c) p = true := by
  intro p hp
  unfold Chg.names at hp
  unfold nameB
  split at hp
  · rename_i h4
    rw [if_pos h4, lookB_upd, lookB_upd]
    simp only [List.mem_cons, List.not_mem_nil, or_false] at hp
    rcases hp with rfl | rfl
    · split
      · rfl
      · rw [if_pos rfl]
    · rw [if_pos rfl]
  · rename_i h4
    simp only [List.mem_cons, List.not_mem_nil, or_false] at hp
    subst hp
    rw [if_neg h4, lookB_upd, if_pos rfl]
/-- A disk on which things are done behind a sync, and what they name. -/
structure NmI (L0 : List Ent) (k : Nat) (d : Dsk) (s : Seen) : Prop where
  off : d.off = false
  good : goodT d.now = true
  last : d.last = L0
  wl : d.waits.length ≤ k
  ws : ∀ c ∈ d.waits, c.Sm
  nm : ∀ c ∈ d.waits, ∀ p ∈ c.names, lookB s p = true
theorem NmI.step {L0 : List Ent} {k : Nat} {d : Dsk} {s : Seen} (h : NmI L0 k d s) {c : Chg} (hc : c.Sm) : NmI L0 (k + 1) (doD d c).1 (nameB s c) := by
  have ho : ¬ d.off = true := by rw [h.off]; decide
  have same : NmI L0 (k + 1) d (nameB s c) := ⟨h.off, h.good, h.last, by have := h.wl; omega, h.ws, fun x hx p hp => nameB_le (h.nm x hx p hp)⟩
  by_cases h1 : (doneT d.now c).2 ≠ 0
  · rw [doD, if_neg ho, if_pos h1]; exact same
  · by_cases h2 : d.quota < bytesT (doneT d.now c).1 ∧ bytesT d.now < bytesT (doneT d.now c).1
    · rw [doD, if_neg ho, if_neg h1, if_pos h2]; exact same
    · rw [doD, if_neg ho, if_neg h1, if_neg h2]
      have h1 : (doneT d.now c).2 = 0 := by omega
      refine ⟨h.off, goodT_done _ _ h.good h1, h.last, by have := h.wl; simp; omega, fun x hx => ?_, fun x hx p hp => ?_⟩
      · rcases List.mem_append.1 hx with hx | hx
        · exact h.ws x hx
        · simp at hx; subst hx; exact hc
      · rcases List.mem_append.1 hx with hx | hx
        · exact nameB_le (h.nm x hx p hp)
        · simp at hx; subst hx; exact nameB_own p hp
theorem NmI.start {k : Nat} {d : Dsk} (h : AI k d) : NmI d.now 0 (syncD d).1 [] := by
  have ho : ¬ d.off = true := by rw [h.off]; decide
  rw [syncD, if_neg ho]
  exact ⟨h.off, h.good, rfl, Nat.le_refl _, (fun _ h => by cases h), (fun _ h => by cases h)⟩
theorem NmI.crash {L0 : List Ent} {k : Nat} {d : Dsk} {s : Seen} (h : NmI L0 k d s) (h0 : goodT L0 = true) (keep : List Int) (torn : Int) : Und s L0 (fallT keep torn d.last 0 d.waits) := by
  rw [h.last]
  exact Und.fall keep torn _ _ _ ⟨h0, fun _ _ => Iff.rfl⟩ h.nm
end Go.Tm
namespace Go.Av
open Go
section
variable {P : Program} {n n0 : Nat} {env : Env} {hp : Hp} {nx : Nat} {K : Kont} {s : List Fr}
/-- What is known is said anew, in fewer words, between two statements. -/
theorem c_emb {c : Code} (env0 : Env) (hp0 : Hp) (nx0 : Nat) (m : List Nat) (he : Emb m n0 nx0 env0 hp0 env hp nx) (h : Wc P n n0 K (.st (.code c :: s) env0 hp0 nx0)) : Wc P n n0 K (.st (.code c :: s) env hp nx) :=
  fun C _ w a hs => h C _ w a (hs.emb he)
theorem with_key {G T : Prop} (h : G → T) (g : G) : T := h g
end
end Go.Av
