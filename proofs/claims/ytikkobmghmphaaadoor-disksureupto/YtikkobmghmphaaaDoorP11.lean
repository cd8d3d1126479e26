/- Part 11 of the proof: what functions of this program compute. -/
import GoSem.PinnedTables
import Derived.Test.YtikkobmghmphaaaDoorP10
namespace Go.Proofs.YtikkobmghmphaaaDoor
open Go Go.Av Go.Tm

set_option maxRecDepth 10000
theorem putT_ok (L : List Ent) (p b : List UInt8) (h : Sm L) (hl : L.length < 2^30) (h1 : p.length ≤ 2^30) (h2 : b.length ≤ 2^30) :
    PureC Tryd.prog 34 [treeAV L, .str p, byt b] (.tuple [treeAV (putT L p b).1, .int .i64 (putT L p b).2]) := by
  refine PureC.of_c TIok Tryd.func34 rfl rfl rfl rfl ?_
  refine go_rg TTok 100 rfl ?_
  refine c_call (good_ok L h) rfl rfl rfl rfl ct14 rfl rfl rfl rfl ?_
  refine go_st TTok 100 rfl ?_
  refine c_cond rfl (fun h3 => ?_) (fun h3 => ?_)
  · have e1 : putT L p b = (L, 1) := by rw [putT, if_pos (by simpa using h3)]
    refine go_st TTok 100 rfl ?_
    exact c_ret ⟨_, rfl, by rw [e1]; rfl⟩
  have h3 : ¬ goodT L = false := by simpa using h3
  refine go_rg TTok 100 rfl ?_
  refine c_call (goodP_ok p (by omega)) rfl rfl rfl rfl ct29 rfl rfl rfl rfl ?_
  refine go_st TTok 100 rfl ?_
  refine c_cond rfl (fun h4 => ?_) (fun h4 => ?_)
  · have e1 : putT L p b = (L, 4) := by rw [putT, if_neg h3, if_pos (by simpa using h4)]
    refine go_st TTok 100 rfl ?_
    exact c_ret ⟨_, rfl, by rw [e1]; rfl⟩
  have h4 : ¬ goodP p = false := by simpa using h4
  have e1 : putT L p b = withT L ⟨p, false, b⟩ := by rw [putT, if_neg h3, if_neg h4]
  refine go_rg TTok 100 rfl ?_
  refine c_say' 21 (Ent.av ⟨p, false, b⟩) rfl (le_agg rfl fun i a b ha hb => by
    match i, ha, hb with
    | 0, rfl, rfl => exact Le.rfl
    | 1, rfl, rfl => exact le_bs rfl
    | 2, rfl, rfl => exact Le.rfl) ?_
  refine c_call (with_ok L ⟨p, false, b⟩ h hl h1 h2) rfl rfl rfl rfl ct47 rfl rfl rfl rfl ?_
  refine go_st TTok 100 rfl ?_
  exact c_ret ⟨_, rfl, by rw [e1]; rfl⟩

theorem makeT_ok (L : List Ent) (p : List UInt8) (h : Sm L) (hl : L.length < 2^30) (h1 : p.length ≤ 2^30) :
    PureC Tryd.prog 35 [treeAV L, .str p] (.tuple [treeAV (makeT L p).1, .int .i64 (makeT L p).2]) := by
  refine PureC.of_c TIok Tryd.func35 rfl rfl rfl rfl ?_
  refine go_rg TTok 100 rfl ?_
  refine c_call (findT_ok L p h h1) rfl rfl rfl rfl ct15 rfl rfl rfl rfl ?_
  refine go_st TTok 100 rfl ?_
  refine c_cond rfl (fun h3 => ?_) (fun h3 => ?_)
  · have e1 : makeT L p = (L, 6) := by rw [makeT, if_pos (by simpa using h3)]
    refine go_st TTok 100 rfl ?_
    exact c_ret ⟨_, rfl, by rw [e1]; rfl⟩
  have h3 : ¬ (findT L p).2 = 0 := by simpa using h3
  refine go_st TTok 100 rfl ?_
  refine c_cond rfl (fun h4 => ?_) (fun h4 => ?_)
  · have e1 : makeT L p = withT L ⟨p, true, []⟩ := by rw [makeT, if_neg h3, if_pos (by simpa using h4)]
    refine go_rg TTok 100 rfl ?_
    refine c_say' 22 (Ent.av ⟨p, true, []⟩) rfl (le_agg rfl fun i a b ha hb => by
      match i, ha, hb with
      | 0, rfl, rfl => exact Le.rfl
      | 1, rfl, rfl => exact le_bs rfl
      | 2, rfl, rfl => exact le_nilsl 1) ?_
    refine c_call (with_ok L ⟨p, true, []⟩ h hl h1 (Nat.zero_le _)) rfl rfl rfl rfl ct47 rfl rfl rfl rfl ?_
    refine go_st TTok 100 rfl ?_
    exact c_ret ⟨_, rfl, by rw [e1]; rfl⟩
  have e1 : makeT L p = (L, (findT L p).2) := by rw [makeT, if_neg h3, if_neg (by simpa using h4)]
  refine go_st TTok 100 rfl ?_
  exact c_ret ⟨_, rfl, by rw [e1]; rfl⟩

theorem removeT_ok (L : List Ent) (p : List UInt8) (h : Sm L) (h1 : p.length ≤ 2^30) :
    PureC Tryd.prog 36 [treeAV L, .str p] (.tuple [treeAV (removeT L p).1, .int .i64 (removeT L p).2]) := by
  have hlen := h.len
  refine PureC.of_c TIok Tryd.func36 rfl rfl rfl rfl ?_
  refine go_rg TTok 100 rfl ?_
  refine c_call (findT_ok L p h h1) rfl rfl rfl rfl ct15 rfl rfl rfl rfl ?_
  refine go_st TTok 100 rfl ?_
  refine c_cond rfl (fun h3 => ?_) (fun h3 => ?_)
  · have e1 : removeT L p = (L, (findT L p).2) := by rw [removeT, if_pos (by simpa using h3)]
    refine go_st TTok 100 rfl ?_
    exact c_ret ⟨_, rfl, by rw [e1]; rfl⟩
  have h3 : ¬ (findT L p).2 ≠ 0 := by simpa using h3
  refine go_rg TTok 100 rfl ?_
  refine c_call (kids_ok L p h) rfl rfl rfl rfl ct48 rfl rfl rfl rfl ?_
  refine go_st TTok 100 rfl ?_
  refine c_cond rfl (fun h4 => ?_) (fun h4 => ?_)
  · have e1 : removeT L p = (L, 8) := by rw [removeT, if_neg h3, if_pos (by simp [strs] at h4; omega)]
    refine go_st TTok 100 rfl ?_
    exact c_ret ⟨_, rfl, by rw [e1]; rfl⟩
  have e1 : removeT L p = (L.eraseIdx (findI L p), 0) := by rw [removeT, if_neg h3, if_neg (by simpa [strs] using h4)]
  have hlt : findI L p < L.length := by
    by_cases hok : findOk L p = true
    · simp [findOk] at hok; exact hok.1
    · exfalso; apply h3
      rw [findT]; split; decide; split; decide; rw [if_pos (by simpa using hok)]; decide
  have hw : IntKind.i64.wrap ((findI L p : Nat) + 1 : Int) = ((findI L p + 1 : Nat) : Int) := by rw [IntWalk.i64_in _ ⟨by omega, by omega⟩]; omega
  refine go_rg TTok 100 rfl ?_
  refine c_call (find_ok L p h h1) rfl rfl rfl rfl ct30 rfl rfl rfl rfl ?_
  refine go_rg TTok 100 rfl ?_
  refine c_run (cloneR_ok L hlen) [] rfl rfl rfl rfl ct32 rfl rfl rfl trivial rfl rfl rfl rfl rfl rfl rfl ?_
  refine go_rg TTok 100 rfl ?_
  refine c_say 38 (.int .i64 ((findI L p + 1 : Nat) : Int)) rfl (congrArg (AV.int .i64) hw) ?_
  refine c_run (delete_ok L hlen (findI L p) hlt) [3] rfl rfl rfl rfl ct49 rfl rfl rfl ?_ rfl rfl rfl rfl rfl rfl rfl ?_
  · refine emb_arr rfl ?_ rfl (ents_nids _) trivial
    show some (Blk.arr 3 (AV.rens _ (ents L))) = _
    rw [AV.rens_nid _ _ (ents_nids _)]
  refine go_st TTok 100 rfl ?_
  exact c_ret ⟨_, rfl, by rw [e1]; rfl⟩
end Go.Proofs.YtikkobmghmphaaaDoor
namespace Go.Proofs.YtikkobmghmphaaaDoor
open Go Go.Av Go.Tm

set_option maxRecDepth 10000
theorem withB_ok (L : List Ent) (p b : List UInt8) (d : Bool) (h : Sm L) (hl : L.length < 2^30) (h1 : p.length ≤ 2^30) (h2 : b.length ≤ 2^30) :
    PureC Tryd.prog 47 [treeAV L, .agg [.str p, .bool d, byt b]] (.tuple [treeAV (withT L ⟨p, d, b⟩).1, .int .i64 (withT L ⟨p, d, b⟩).2]) :=
  (with_ok L ⟨p, d, b⟩ h hl h1 h2).args (.cons Le.rfl (.cons (le_agg rfl fun i a b ha hb => by
    match i, ha, hb with
    | 0, rfl, rfl => exact Le.rfl
    | 1, rfl, rfl => exact le_bs rfl
    | 2, rfl, rfl => exact Le.rfl) .nil))
theorem moveT_ok (L : List Ent) (p q : List UInt8) (h : Sm L) (hl : L.length < 2^30) (h1 : p.length ≤ 2^30) (h2 : q.length ≤ 2^30) :
    PureC Tryd.prog 37 [treeAV L, .str p, .str q] (.tuple [treeAV (moveT L p q).1, .int .i64 (moveT L p q).2]) := by
  have hlen := h.len
  refine PureC.of_c TIok Tryd.func37 rfl rfl rfl rfl ?_
  refine go_rg TTok 100 rfl ?_
  refine c_call (good_ok L h) rfl rfl rfl rfl ct14 rfl rfl rfl rfl ?_
  refine go_st TTok 100 rfl ?_
  refine c_cond rfl (fun h3 => ?_) (fun h3 => ?_)
  · have e1 : moveT L p q = (L, 1) := by rw [moveT, if_pos (by simpa using h3)]
    refine go_st TTok 100 rfl ?_
    exact c_ret ⟨_, rfl, by rw [e1]; rfl⟩
  have h3 : ¬ goodT L = false := by simpa using h3
  refine go_rg TTok 100 rfl ?_
  refine c_call (goodP_ok p (by omega)) rfl rfl rfl rfl ct29 rfl rfl rfl rfl ?_
  refine go_rg TTok 100 rfl ?_
  refine c_split 21 rfl (fun h4 => ?_) (fun h4 => ?_)
  · have h4 : goodP p = false := by simpa using h4
    have e1 : moveT L p q = (L, 4) := by rw [moveT, if_neg h3, if_pos (.inl h4)]
    refine go_st TTok 100 rfl ?_
    exact c_ret ⟨_, rfl, by rw [e1]; rfl⟩
  refine go_rg TTok 100 rfl ?_
  refine c_call (goodP_ok q (by omega)) rfl rfl rfl rfl ct29 rfl rfl rfl rfl ?_
  refine go_st TTok 100 rfl ?_
  refine c_cond rfl (fun h5 => ?_) (fun h5 => ?_)
  · have h5 : goodP q = false := by simpa using h5
    have e1 : moveT L p q = (L, 4) := by rw [moveT, if_neg h3, if_pos (.inr h5)]
    refine go_st TTok 100 rfl ?_
    exact c_ret ⟨_, rfl, by rw [e1]; rfl⟩
  have h45 : ¬ (goodP p = false ∨ goodP q = false) := by
    have h4 : goodP p = true := by simpa using h4
    have h5 : goodP q = true := by simpa using h5
    simp [h4, h5]
  refine go_rg TTok 100 rfl ?_
  refine c_call (find_ok L p h h1) rfl rfl rfl rfl ct30 rfl rfl rfl rfl ?_
  refine go_st TTok 100 rfl ?_
  refine c_cond rfl (fun h6 => ?_) (fun h6 => ?_)
  · have e1 : moveT L p q = (L, 5) := by rw [moveT, if_neg h3, if_neg h45, if_pos (by simpa using h6)]
    refine go_st TTok 100 rfl ?_
    exact c_ret ⟨_, rfl, by rw [e1]; rfl⟩
  have h6 : findOk L p = true := by simpa using h6
  have hlt : findI L p < L.length := by simp [findOk] at h6; exact h6.1
  have hgD : L.getD (findI L p) default = L[findI L p] := by simp [List.getD, hlt]
  have h6 : ¬ findOk L p = false := by simp [h6]
  refine go_rg TTok 100 rfl ?_
  refine c_op (op_indexAddr_sl rfl (TTok _ _ rfl).ok rfl (TTok _ _ rfl).ok rfl rfl rfl (by omega) (by rw [ents_len]; omega) (ents_get L (by simpa using hlt))) rfl rfl rfl ?_
  refine go_st TTok 100 rfl ?_
  refine c_cond rfl (fun h7 => ?_) (fun h7 => ?_)
  · have h7 : L[findI L p].dir = true := h7
    have e1 : moveT L p q = (L, 7) := by rw [moveT, if_neg h3, if_neg h45, if_neg h6, if_pos (by rw [hgD]; exact h7)]
    refine go_st TTok 100 rfl ?_
    exact c_ret ⟨_, rfl, by rw [e1]; rfl⟩
  have h7 : L[findI L p].dir = false := h7
  have h7 : ¬ (L.getD (findI L p) default).dir = true := by rw [hgD, h7]; decide
  refine go_st TTok 100 rfl ?_
  refine c_cond rfl (fun h8 => ?_) (fun h8 => ?_)
  · have h8 : p = q := by simpa using h8
    have e1 : moveT L p q = (L, 0) := by rw [moveT, if_neg h3, if_neg h45, if_neg h6, if_neg h7, if_pos h8]
    refine go_st TTok 100 rfl ?_
    exact c_ret ⟨_, rfl, by rw [e1]; rfl⟩
  have h8 : ¬ p = q := by simpa using h8
  have e0 : moveT L p q = if (withT (L.eraseIdx (findI L p)) ⟨q, false, L[findI L p].b⟩).2 ≠ 0 then (L, (withT (L.eraseIdx (findI L p)) ⟨q, false, L[findI L p].b⟩).2) else ((withT (L.eraseIdx (findI L p)) ⟨q, false, L[findI L p].b⟩).1, 0) := by
    rw [moveT, if_neg h3, if_neg h45, if_neg h6, if_neg h7, if_neg h8, hgD]
  have hw : IntKind.i64.wrap ((findI L p : Nat) + 1 : Int) = ((findI L p + 1 : Nat) : Int) := by rw [IntWalk.i64_in _ ⟨by omega, by omega⟩]; omega
  have hmem : L[findI L p] ∈ L := List.getElem_mem hlt
  refine go_st TTok 100 rfl ?_
  refine c_freezeS 0 [(3, .fp [.sl 3 (ents L)])] rfl rfl ⟨⟨_, rfl, rfl⟩, trivial⟩ ?_
  refine c_dgoP TTok mixed [1, 2, 3, 4, 5, 6, 7, 8, 9, 10, 11, 12, 13, 14, 15, 16, 17, 18, 19, 20, 0, 21, 22] [20, 0, 1, 2, 3, 4, 5, 6, 7, 8, 9, 10, 11, 12, 13, 14, 15, 16, 17, 18, 19, 21, 22] rfl rfl rfl rfl rfl rfl ?_
  refine f_rn (cloneR_ok L hlen) [] rfl rfl rfl rfl ct32 rfl rfl rfl trivial rfl rfl rfl rfl rfl rfl rfl rfl rfl ?_
  refine f_go TTok rfl ?_
  refine f_rn (delete_ok L hlen (findI L p) hlt) [25] rfl rfl rfl rfl ct49 ?_ rfl rfl ?_ rfl rfl rfl rfl rfl rfl rfl rfl rfl ?_
  · show [AV.ref 3 25 0 L.length, .int .i64 (findI L p), .int .i64 ((findI L p + 1 : Nat) : Int)] = [AV.ref 3 25 0 L.length, .int .i64 (findI L p), .int .i64 (IntKind.i64.wrap ((findI L p : Nat) + 1 : Int))] ++ []
    rw [hw]; rfl
  · refine emb_arr rfl ?_ rfl (ents_nids _) trivial
    show some (Blk.arr 3 (AV.rens _ (ents L))) = _
    rw [AV.rens_nid _ _ (ents_nids _)]
  refine f_go TTok rfl ?_
  refine f_opP (fun _ _ => op_indexAddr_sl (a := ((findI L p : Nat) : Int)) (l := ents L) rfl (TTok _ _ rfl).ok rfl (TTok _ _ rfl).ok rfl rfl rfl (by omega) (by rw [ents_len]; omega) (ents_get L (by simpa using hlt))) rfl rfl ?_
  refine f_go TTok rfl ?_
  refine f_call («as» := [treeAV (L.eraseIdx (findI L p)), .agg [.str q, .bool false, byt L[findI L p].b]]) (caps := []) (withB_ok (L.eraseIdx (findI L p)) q L[findI L p].b false (h.erase _) (Nat.lt_of_le_of_lt (List.length_eraseIdx_le ..) hl) h2 (h.b _ hmem)) rfl rfl rfl rfl ct47 rfl rfl rfl ?_
  refine f_go TTok rfl ?_
  refine f_end ?_
  refine go_st TTok 100 rfl ?_
  refine c_cond rfl (fun h9 => ?_) (fun h9 => ?_)
  · have e1 := e0.trans (if_pos (by simpa using h9))
    refine go_st TTok 100 rfl ?_
    exact c_ret ⟨_, rfl, by rw [e1]; rfl⟩
  have e1 := e0.trans (if_neg (by simpa using h9))
  refine go_st TTok 100 rfl ?_
  exact c_ret ⟨_, rfl, by rw [e1]; rfl⟩
end Go.Proofs.YtikkobmghmphaaaDoor
namespace Go.Proofs.YtikkobmghmphaaaDoor
open Go Go.Av Go.Tm

set_option maxRecDepth 10000
theorem ownC_ok (c : Chg) (h : c.Sm) : PureC Tryd.prog 21 [c.av] c.av := by
  refine PureC.of_c TIok Tryd.func21 rfl rfl rfl rfl ?_
  refine go_rg TTok 100 rfl ?_
  refine c_call (clone_ok c.b (Nat.le_trans h.b (by decide))) rfl rfl rfl rfl ct33 rfl rfl rfl rfl ?_
  refine go_st TTok 100 rfl ?_
  exact c_ret ⟨_, rfl, rfl⟩

theorem done_ok (L : List Ent) (c : Chg) (h : Sm L) (hl : L.length < 2^30) (hc : c.Sm) :
    PureC Tryd.prog 19 [treeAV L, c.av] (.tuple [treeAV (doneT L c).1, .int .i64 (doneT L c).2]) := by
  refine PureC.of_c TIok Tryd.func19 rfl rfl rfl rfl ?_
  refine go_st TTok 100 rfl ?_
  refine c_cond rfl (fun h1 => ?_) (fun h1 => ?_)
  · have h1 : c.op = 1 := by simpa using h1
    refine go_rg TTok 100 rfl ?_
    refine c_call (putT_ok L c.path c.b h hl hc.path hc.b) rfl rfl rfl rfl ct34 rfl rfl rfl rfl ?_
    refine go_st TTok 100 rfl ?_
    exact c_ret ⟨_, rfl, by rw [doneT, if_pos h1]; rfl⟩
  have h1 : ¬ c.op = 1 := by simpa using h1
  refine go_st TTok 100 rfl ?_
  refine c_cond rfl (fun h2 => ?_) (fun h2 => ?_)
  · have h2 : c.op = 2 := by simpa using h2
    refine go_rg TTok 100 rfl ?_
    refine c_call (makeT_ok L c.path h hl hc.path) rfl rfl rfl rfl ct35 rfl rfl rfl rfl ?_
    refine go_st TTok 100 rfl ?_
    exact c_ret ⟨_, rfl, by rw [doneT, if_neg h1, if_pos h2]; rfl⟩
  have h2 : ¬ c.op = 2 := by simpa using h2
  refine go_st TTok 100 rfl ?_
  refine c_cond rfl (fun h3 => ?_) (fun h3 => ?_)
  · have h3 : c.op = 3 := by simpa using h3
    refine go_rg TTok 100 rfl ?_
    refine c_call (removeT_ok L c.path h hc.path) rfl rfl rfl rfl ct36 rfl rfl rfl rfl ?_
    refine go_st TTok 100 rfl ?_
    exact c_ret ⟨_, rfl, by rw [doneT, if_neg h1, if_neg h2, if_pos h3]; rfl⟩
  have h3 : ¬ c.op = 3 := by simpa using h3
  refine go_st TTok 100 rfl ?_
  refine c_cond rfl (fun h4 => ?_) (fun h4 => ?_)
  · have h4 : c.op = 4 := by simpa using h4
    refine go_rg TTok 100 rfl ?_
    refine c_call (moveT_ok L c.path c.to h hl hc.path hc.to) rfl rfl rfl rfl ct37 rfl rfl rfl rfl ?_
    refine go_st TTok 100 rfl ?_
    exact c_ret ⟨_, rfl, by rw [doneT, if_neg h1, if_neg h2, if_neg h3, if_pos h4]; rfl⟩
  have h4 : ¬ c.op = 4 := by simpa using h4
  refine go_st TTok 100 rfl ?_
  exact c_ret ⟨_, rfl, by rw [doneT, if_neg h1, if_neg h2, if_neg h3, if_neg h4]; rfl⟩

theorem set_same {l : List AV} {i : Nat} {v : AV} (h : l[i]? = some v) : l.set i v = l := by
  obtain ⟨h1, h2⟩ := List.getElem?_eq_some_iff.1 h
  subst h2; exact List.set_getElem_self h1
theorem copied_ok (L : List Ent) (h : Sm L) : PureC Tryd.prog 17 [treeAV L] (treeAV L) := by
  have hlen := h.len
  refine PureC.of_c TIok Tryd.func17 rfl rfl rfl rfl ?_
  refine go_rg TTok 100 rfl ?_
  refine c_run (cloneR_ok L hlen) [] rfl rfl rfl rfl ct32 rfl rfl rfl trivial rfl rfl rfl rfl rfl rfl rfl ?_
  refine go_st TTok 100 rfl ?_
  refine c_loopP (ι := Nat) (fun k => k ≤ L.length) (fun k => [(2, .ptr 1 1 0 0), (3, .ref 3 2 0 L.length), (9, .int .i64 (L.length : Nat)), (10, .int .i64 (k : Nat))])
    (fun _ => [(1, .arr 1 [.agg [.nilsl]]), (2, .arr 3 (ents L))]) 3 (fun k => L.length - k) 0 (Nat.zero_le _) [0, 1, 2] ⟨rfl, rfl, rfl, ⟨rfl, rfl, rfl, rfl, trivial⟩, ?_⟩ ?_
  · refine ⟨rfl, ?_⟩
    refine emb_arr rfl ?_ rfl (ents_nids _) trivial
    show some (Blk.arr 3 (AV.rens _ (ents L))) = _
    rw [AV.rens_nid _ _ (ents_nids _)]
  intro k hk
  refine go_st TTok 100 rfl ?_
  refine c_cond rfl (fun hc => ?_) (fun hc => ?_)
  rotate_left
  · have hk : k = L.length := by simp at hc; omega
    subst hk
    refine c_freezeS 2 [(3, .sl 3 (ents L))] rfl (ents_nids _) ⟨⟨_, rfl, snap_ref rfl (by rw [ents_len]; omega) (by rw [List.drop_zero, List.take_of_length_le (by rw [ents_len]; exact Nat.le_refl _)])⟩, trivial⟩ ?_
    refine go_st TTok 100 rfl ?_
    exact c_ret ⟨_, rfl, rfl⟩
  have hk : k < L.length := by simpa using hc
  have hw : IntKind.i64.wrap ((k : Nat) + 1 : Int) = ((k + 1 : Nat) : Int) := by rw [IntWalk.i64_in _ ⟨by omega, by omega⟩]; omega
  refine go_rg TTok 100 rfl ?_
  refine c_op (op_indexAddr_ref rfl (TTok _ _ rfl).ok rfl (TTok _ _ rfl).ok rfl rfl rfl (by omega) (by omega)) rfl rfl rfl ?_
  refine go_rg TTok 100 rfl ?_
  refine c_eptr 18 rfl ?_
  refine c_op (op_load_part (e := L[k].av) rfl (TTok _ _ rfl).ok rfl rfl (by rw [Nat.zero_add, Int.toNat_natCast]; exact ents_get L hk) rfl) rfl rfl rfl ?_
  refine go_rg TTok 100 rfl ?_
  refine c_call (clone_ok L[k].b (Nat.le_trans (h.b _ (List.getElem_mem hk)) (by decide))) rfl rfl rfl rfl ct33 rfl rfl rfl rfl ?_
  refine go_rg TTok 100 rfl ?_
  refine c_op (op_indexAddr_ref rfl (TTok _ _ rfl).ok rfl (TTok _ _ rfl).ok rfl rfl rfl (by omega) (by omega)) rfl rfl rfl ?_
  refine go_rg TTok 100 rfl ?_
  refine c_eptr 22 rfl ?_
  refine c_op0 (op_store (e := L[k].av) (e' := L[k].av) rfl (TTok _ _ rfl).ok rfl rfl rfl (by rw [Nat.zero_add, Int.toNat_natCast]; exact ents_get L hk) rfl rfl rfl rfl) rfl rfl ?_
  refine go_st TTok 100 rfl ?_
  refine c_inv ⟨k + 1, [0, 1, 2], hk, by show L.length - (k + 1) < L.length - k; omega, rfl, rfl, rfl, ⟨rfl, rfl, rfl, congrArg (fun x => some (AV.int .i64 x)) hw, trivial⟩, ⟨rfl, emb_arr rfl rfl ?_ (ents_nids _) trivial⟩⟩
  rw [Nat.zero_add, Int.toNat_natCast]
  exact set_same (ents_get L hk)

theorem newD_ok (L : List Ent) (q : Int) (h : Sm L) (hg : goodT L = true) (h0 : 0 ≤ q) (h1 : q ≤ 16384) :
    RunC Tryd.prog 6 [treeAV L, .int .i64 q] [] 0 (QE (.tuple [.ptr 0 9 0 0, .int .i64 0]) [(0, .arr 9 [Dsk.av ⟨q, L, L, [], false, 0⟩ .nilsl])] 1) := by
  refine RunC.of_c TIok Tryd.func6 rfl rfl rfl ?_
  refine go_rg TTok 100 rfl ?_
  refine c_call (good_ok L h) rfl rfl rfl rfl ct14 rfl rfl rfl rfl ?_
  refine go_rg TTok 100 rfl ?_
  refine c_known 9 false rfl (by simp [hg]) ?_
  refine go_rg TTok 100 rfl ?_
  refine c_known 13 false rfl (by simp; omega) ?_
  refine go_st TTok 100 rfl ?_
  refine c_condF rfl (by simp; omega) ?_
  refine go_st TTok 100 rfl ?_
  refine c_freezeS 0 [(2, .fp [.sl 3 (ents L)])] rfl rfl ⟨⟨_, rfl, rfl⟩, trivial⟩ ?_
  refine c_dgo TTok mixed rfl rfl rfl rfl ?_
  refine f_call (copied_ok L h) rfl rfl rfl rfl ct17 rfl rfl rfl ?_
  refine f_go TTok rfl ?_
  refine f_call (copied_ok L h) rfl rfl rfl rfl ct17 rfl rfl rfl ?_
  refine f_go TTok rfl ?_
  refine f_end ?_
  refine go_st TTok 100 rfl ?_
  exact c_ret ⟨_, _, _, 1, [7], rfl, ⟨rfl, rfl, rfl⟩, rfl, ⟨rfl, rfl, rfl, trivial, ⟨rfl, trivial⟩⟩⟩
theorem newD_bad (L : List Ent) (q : Int) (h : Sm L) (hb : goodT L = false ∨ q < 0 ∨ 16384 < q) :
    PureC Tryd.prog 6 [treeAV L, .int .i64 q] (.tuple [.nilp, .int .i64 1]) := by
  refine PureC.of_c TIok Tryd.func6 rfl rfl rfl rfl ?_
  refine go_rg TTok 100 rfl ?_
  refine c_call (good_ok L h) rfl rfl rfl rfl ct14 rfl rfl rfl rfl ?_
  refine go_rg TTok 100 rfl ?_
  refine c_split 9 rfl (fun h1 => ?_) (fun h1 => ?_)
  · refine go_st TTok 100 rfl ?_
    exact c_ret ⟨_, rfl, rfl⟩
  refine go_rg TTok 100 rfl ?_
  refine c_split 13 rfl (fun h2 => ?_) (fun h2 => ?_)
  · refine go_st TTok 100 rfl ?_
    exact c_ret ⟨_, rfl, rfl⟩
  refine go_st TTok 100 rfl ?_
  refine c_condT rfl ?_ ?_
  · simp at h1 h2 ⊢
    rcases hb with hb | hb | hb
    · rw [h1] at hb; cases hb
    · omega
    · exact hb
  refine go_st TTok 100 rfl ?_
  exact c_ret ⟨_, rfl, rfl⟩
end Go.Proofs.YtikkobmghmphaaaDoor
namespace Go.Proofs.YtikkobmghmphaaaDoor
open Go Go.Av Go.Tm

set_option maxRecDepth 10000
theorem indexI_ok (l : List Int) (x : Int) (hl : l.length ≤ 2^40) : PureC Tryd.prog 38 [.sl 1 (ints l), .int .i64 x] (.int .i64 (idxI x l 0)) := by
  refine PureC.of_c TIok Tryd.func38 rfl rfl rfl rfl ?_
  refine go_st TTok 100 rfl ?_
  refine c_loopP (ι := Nat) (fun k => k ≤ l.length ∧ idxI x l 0 = idxI x (l.drop k) k) (fun k => [(0, .sl 1 (ints l)), (1, .int .i64 x), (7, .int .i64 ((ints l).length : Nat)), (8, .int .i64 (k : Nat))])
    (fun _ => []) 0 (fun k => l.length - k) 0 ⟨Nat.zero_le _, rfl⟩ [] ⟨rfl, rfl, rfl, ⟨rfl, rfl, rfl, rfl, trivial⟩, trivial⟩ ?_
  intro k ⟨hk, hi⟩
  refine go_st TTok 100 rfl ?_
  refine c_cond rfl (fun hc => ?_) (fun hc => ?_)
  rotate_left
  · have hk : k = l.length := by simp [ints] at hc; omega
    subst hk
    refine go_st TTok 100 rfl ?_
    exact c_ret ⟨_, rfl, by rw [hi, List.drop_of_length_le (Nat.le_refl _)]; rfl⟩
  have hk : k < l.length := by simp [ints] at hc; omega
  have hw : IntKind.i64.wrap ((k : Nat) + 1 : Int) = ((k + 1 : Nat) : Int) := by rw [IntWalk.i64_in _ ⟨by omega, by omega⟩]; omega
  rw [List.drop_eq_getElem_cons hk, idxI] at hi
  refine go_rg TTok 100 rfl ?_
  refine c_op (op_indexAddr_sl rfl (TTok _ _ rfl).ok rfl (TTok _ _ rfl).ok rfl rfl rfl (by omega) (by rw [ints_len]; omega) (ints_get l (by simpa using hk))) rfl rfl rfl ?_
  refine go_st TTok 100 rfl ?_
  refine c_cond rfl (fun h1 => ?_) (fun h1 => ?_)
  · have h1 : x = l[k] := by simpa using h1
    refine go_st TTok 100 rfl ?_
    exact c_ret ⟨_, rfl, by rw [hi, if_pos h1]⟩
  · have h1 : ¬ x = l[k] := by simpa using h1
    refine go_st TTok 100 rfl ?_
    exact c_inv ⟨k + 1, [], ⟨hk, by rw [hi, if_neg h1]⟩, by show l.length - (k + 1) < l.length - k; omega, rfl, rfl, rfl, ⟨rfl, rfl, rfl, congrArg (fun x => some (AV.int .i64 x)) hw, trivial⟩, trivial⟩
theorem containsI_ok (l : List Int) (x : Int) (hl : l.length ≤ 2^40) : PureC Tryd.prog 22 [.sl 1 (ints l), .int .i64 x] (.sb (decide (x ∈ l))) := by
  refine PureC.of_c TIok Tryd.func22 rfl rfl rfl rfl ?_
  refine go_rg TTok 100 rfl ?_
  refine c_call (indexI_ok l x hl) rfl rfl rfl rfl ct38 rfl rfl rfl rfl ?_
  refine go_st TTok 100 rfl ?_
  refine c_ret ⟨_, rfl, ?_⟩
  congr 1
  rw [decide_eq_decide, ge_iff_le, idxI_pos]
end Go.Proofs.YtikkobmghmphaaaDoor
namespace Go.Proofs.YtikkobmghmphaaaDoor
open Go Go.Av Go.Tm

set_option maxRecDepth 10000
theorem off_on {d : Dsk} (h : d.off = true) (w : AV) : d.av w = .agg [.int .i64 d.quota, .sl 3 (ents d.now), .sl 3 (ents d.last), w, .bool true, .int .i64 d.count, .int .i64 0, .nilsl, .int .i64 0] := by rw [Dsk.av, h]
theorem backH_F (nx : Nat) (hp : Hp) (X : Blk) (l : List Chg) : backH [0, 1] nx hp [(0, X), (1, .arr 4 (chgs l))] = (0, X.ren (mg [0, 1] nx)) :: (1, .arr 4 (chgs l)) :: deadH [0, 1] hp := by
  show (0, X.ren (mg [0, 1] nx)) :: (1, Blk.arr 4 (AV.rens _ (chgs l))) :: deadH [0, 1] hp = _
  rw [AV.rens_nid _ _ (chgs_nids l)]
theorem off_ne {d : Dsk} (h : d.off = false) (w : AV) : d.av w = .agg [.int .i64 d.quota, .sl 3 (ents d.now), .sl 3 (ents d.last), w, .bool false, .int .i64 d.count, .int .i64 0, .nilsl, .int .i64 0] := by rw [Dsk.av, h]

theorem nowE_ok (d : Dsk) (h : Sm d.now) : RunC Tryd.prog 8 [.ptr 0 9 0 0] [(0, .arr 9 [d.av .nilsl])] 1 (QE (treeAV d.now) [(0, .arr 9 [d.av .nilsl])] 1) := by
  refine RunC.of_c TIok Tryd.func8 rfl rfl rfl ?_
  refine go_rg TTok 100 rfl ?_
  refine c_call (copied_ok d.now h) rfl rfl rfl rfl ct17 rfl rfl rfl rfl ?_
  refine go_st TTok 100 rfl ?_
  exact c_ret ⟨_, _, _, 1, [0], rfl, ⟨rfl, rfl, rfl⟩, rfl, ⟨rfl, rfl, rfl, trivial, ⟨rfl, trivial⟩⟩⟩

theorem lastsE_ok (d : Dsk) (h : Sm d.last) : RunC Tryd.prog 12 [.ptr 0 9 0 0] [(0, .arr 9 [d.av .nilsl])] 1 (QE (treeAV d.last) [(0, .arr 9 [d.av .nilsl])] 1) := by
  refine RunC.of_c TIok Tryd.func12 rfl rfl rfl ?_
  refine go_rg TTok 100 rfl ?_
  refine c_call (copied_ok d.last h) rfl rfl rfl rfl ct17 rfl rfl rfl rfl ?_
  refine go_st TTok 100 rfl ?_
  exact c_ret ⟨_, _, _, 1, [0], rfl, ⟨rfl, rfl, rfl⟩, rfl, ⟨rfl, rfl, rfl, trivial, ⟨rfl, trivial⟩⟩⟩

theorem offE_ok (d : Dsk) : RunC Tryd.prog 16 [.ptr 0 9 0 0] [(0, .arr 9 [d.av .nilsl])] 1 (QE (.bool d.off) [(0, .arr 9 [d.av .nilsl])] 1) := by
  refine RunC.of_c TIok Tryd.func16 rfl rfl rfl ?_
  refine go_st TTok 100 rfl ?_
  exact c_ret ⟨_, _, _, 1, [0], rfl, ⟨rfl, rfl, rfl⟩, rfl, ⟨rfl, rfl, rfl, trivial, ⟨rfl, trivial⟩⟩⟩
theorem beginE_ok (d : Dsk) : RunC Tryd.prog 18 [.ptr 0 9 0 0] [(0, .arr 9 [d.av .nilsl])] 1 (QE (.bool (!d.off)) [(0, .arr 9 [d.av .nilsl])] 1) := by
  refine RunC.of_c TIok Tryd.func18 rfl rfl rfl ?_
  refine go_rg TTok 100 rfl ?_
  refine c_known 8 false rfl rfl ?_
  refine go_st TTok 100 rfl ?_
  exact c_ret ⟨_, _, _, 1, [0], rfl, ⟨rfl, rfl, rfl⟩, rfl, ⟨rfl, rfl, rfl, trivial, ⟨rfl, trivial⟩⟩⟩
theorem syncE_ok (d : Dsk) : RunC Tryd.prog 13 [.ptr 0 9 0 0] [(0, .arr 9 [d.av .nilsl])] 1 (if d.off then QE (.int .i64 15) [(0, .arr 9 [d.av .nilsl])] 1 else QE (.int .i64 0) [(0, .arr 9 [(syncD d).1.av .nilsl])] 1) := by
  refine RunC.of_c TIok Tryd.func13 rfl rfl rfl ?_
  refine go_rg TTok 100 rfl ?_
  refine c_run (beginE_ok d) [0] rfl rfl rfl rfl ct18 rfl rfl rfl ⟨rfl, trivial⟩ rfl rfl rfl rfl rfl rfl rfl ?_
  cases ho : d.off
  · refine go_st TTok 100 rfl ?_
    rw [off_ne ho]
    refine go_st TTok 100 rfl ?_
    refine c_ret ⟨_, _, [(0, .arr 9 [(syncD d).1.av .nilsl])], 1, [0], rfl, ⟨rfl, rfl, rfl⟩, rfl, ⟨rfl, rfl, rfl, trivial, ?_⟩⟩
    simp only [syncD, ho]
    exact ⟨rfl, trivial⟩
  · refine go_st TTok 100 rfl ?_
    exact c_ret ⟨_, _, _, 1, [0], rfl, ⟨rfl, rfl, rfl⟩, rfl, ⟨rfl, rfl, rfl, trivial, ⟨rfl, trivial⟩⟩⟩

theorem nowF_ok (d : Dsk) (h : Sm d.now) : RunC Tryd.prog 8 [.ptr 0 9 0 0] [(0, .arr 9 [d.av (.ref 4 1 0 d.waits.length)]), (1, .arr 4 (chgs d.waits))] 2 (QE (treeAV d.now) [(0, .arr 9 [d.av (.ref 4 1 0 d.waits.length)]), (1, .arr 4 (chgs d.waits))] 2) := by
  refine RunC.of_c TIok Tryd.func8 rfl rfl rfl ?_
  refine go_rg TTok 100 rfl ?_
  refine c_call (copied_ok d.now h) rfl rfl rfl rfl ct17 rfl rfl rfl rfl ?_
  refine go_st TTok 100 rfl ?_
  exact c_ret ⟨_, _, _, 2, [0, 1], rfl, ⟨rfl, rfl, rfl⟩, rfl, ⟨rfl, rfl, rfl, trivial, ⟨rfl, emb_arr rfl rfl rfl (chgs_nids _) trivial⟩⟩⟩

theorem lastsF_ok (d : Dsk) (h : Sm d.last) : RunC Tryd.prog 12 [.ptr 0 9 0 0] [(0, .arr 9 [d.av (.ref 4 1 0 d.waits.length)]), (1, .arr 4 (chgs d.waits))] 2 (QE (treeAV d.last) [(0, .arr 9 [d.av (.ref 4 1 0 d.waits.length)]), (1, .arr 4 (chgs d.waits))] 2) := by
  refine RunC.of_c TIok Tryd.func12 rfl rfl rfl ?_
  refine go_rg TTok 100 rfl ?_
  refine c_call (copied_ok d.last h) rfl rfl rfl rfl ct17 rfl rfl rfl rfl ?_
  refine go_st TTok 100 rfl ?_
  exact c_ret ⟨_, _, _, 2, [0, 1], rfl, ⟨rfl, rfl, rfl⟩, rfl, ⟨rfl, rfl, rfl, trivial, ⟨rfl, emb_arr rfl rfl rfl (chgs_nids _) trivial⟩⟩⟩

theorem offF_ok (d : Dsk) : RunC Tryd.prog 16 [.ptr 0 9 0 0] [(0, .arr 9 [d.av (.ref 4 1 0 d.waits.length)]), (1, .arr 4 (chgs d.waits))] 2 (QE (.bool d.off) [(0, .arr 9 [d.av (.ref 4 1 0 d.waits.length)]), (1, .arr 4 (chgs d.waits))] 2) := by
  refine RunC.of_c TIok Tryd.func16 rfl rfl rfl ?_
  refine go_st TTok 100 rfl ?_
  exact c_ret ⟨_, _, _, 2, [0, 1], rfl, ⟨rfl, rfl, rfl⟩, rfl, ⟨rfl, rfl, rfl, trivial, ⟨rfl, emb_arr rfl rfl rfl (chgs_nids _) trivial⟩⟩⟩
theorem beginF_ok (d : Dsk) : RunC Tryd.prog 18 [.ptr 0 9 0 0] [(0, .arr 9 [d.av (.ref 4 1 0 d.waits.length)]), (1, .arr 4 (chgs d.waits))] 2 (QE (.bool (!d.off)) [(0, .arr 9 [d.av (.ref 4 1 0 d.waits.length)]), (1, .arr 4 (chgs d.waits))] 2) := by
  refine RunC.of_c TIok Tryd.func18 rfl rfl rfl ?_
  refine go_rg TTok 100 rfl ?_
  refine c_known 8 false rfl rfl ?_
  refine go_st TTok 100 rfl ?_
  exact c_ret ⟨_, _, _, 2, [0, 1], rfl, ⟨rfl, rfl, rfl⟩, rfl, ⟨rfl, rfl, rfl, trivial, ⟨rfl, emb_arr rfl rfl rfl (chgs_nids _) trivial⟩⟩⟩
theorem syncF_ok (d : Dsk) : RunC Tryd.prog 13 [.ptr 0 9 0 0] [(0, .arr 9 [d.av (.ref 4 1 0 d.waits.length)]), (1, .arr 4 (chgs d.waits))] 2 (if d.off then QE (.int .i64 15) [(0, .arr 9 [d.av (.ref 4 1 0 d.waits.length)]), (1, .arr 4 (chgs d.waits))] 2 else QE (.int .i64 0) [(0, .arr 9 [(syncD d).1.av .nilsl])] 2) := by
  refine RunC.of_c TIok Tryd.func13 rfl rfl rfl ?_
  refine go_rg TTok 100 rfl ?_
  refine c_run (beginF_ok d) [0, 1] rfl rfl rfl rfl ct18 rfl rfl rfl ⟨rfl, emb_arr rfl rfl rfl (chgs_nids _) trivial⟩ rfl rfl rfl rfl rfl (backH_F _ _ _ _) rfl ?_
  cases ho : d.off
  · refine go_st TTok 100 rfl ?_
    rw [off_ne ho]
    refine go_st TTok 100 rfl ?_
    refine c_ret ⟨_, _, [(0, .arr 9 [(syncD d).1.av .nilsl])], 2, [0, 1], rfl, ⟨rfl, rfl, rfl⟩, rfl, ⟨rfl, rfl, rfl, trivial, ?_⟩⟩
    simp only [syncD, ho]
    exact ⟨rfl, trivial⟩
  · refine go_st TTok 100 rfl ?_
    exact c_ret ⟨_, _, _, 2, [0, 1], rfl, ⟨rfl, rfl, rfl⟩, rfl, ⟨rfl, rfl, rfl, trivial, ⟨rfl, emb_arr rfl rfl rfl (chgs_nids _) trivial⟩⟩⟩

theorem doE_ok (d : Dsk) (c : Chg) (h : Sm d.now) (hl : d.now.length < 2^30) (hc : c.Sm) (hs : Sm (doneT d.now c).1) (hn : d.waits.length ≤ 2^30) (hw0 : d.waits = []) :
    RunC Tryd.prog 7 [.ptr 0 9 0 0, c.av] [(0, .arr 9 [d.av .nilsl])] 1 (if (doD d c).2 ≠ 0 then QE (.int .i64 (doD d c).2) [(0, .arr 9 [d.av .nilsl])] 1 else QE (.int .i64 0) [(0, .arr 9 [(doD d c).1.av (.ref 4 1 0 (d.waits.length + 1))]), (1, .arr 4 (chgs (d.waits ++ [c])))] 2) := by
  refine RunC.of_c TIok Tryd.func7 rfl rfl rfl ?_
  have bad : ∀ (k : Int) (m : List Nat), (doD d c).2 = k → k ≠ 0 → (if (doD d c).2 ≠ 0 then QE (.int .i64 (doD d c).2) [(0, .arr 9 [d.av .nilsl])] 1 else QE (.int .i64 0) [(0, .arr 9 [(doD d c).1.av (.ref 4 1 0 (d.waits.length + 1))]), (1, .arr 4 (chgs (d.waits ++ [c])))] 2) (.int .i64 k) [(0, .arr 9 [d.av .nilsl])] 1 := fun k m h1 h2 => by
    rw [if_pos (by rw [h1]; exact h2), h1]; exact ⟨rfl, rfl, rfl⟩
  refine go_rg TTok 100 rfl ?_
  refine c_run (beginE_ok d) [0] rfl rfl rfl rfl ct18 rfl rfl rfl ⟨rfl, trivial⟩ rfl rfl rfl rfl rfl rfl rfl ?_
  cases ho : d.off
  rotate_left
  · have e1 : (doD d c).2 = 15 := by rw [doD, if_pos ho]
    refine go_st TTok 100 rfl ?_
    exact c_ret ⟨_, _, _, 1, [0], rfl, bad 15 [] e1 (by decide), rfl, ⟨rfl, rfl, rfl, trivial, ⟨rfl, trivial⟩⟩⟩
  have ho' : ¬ d.off = true := by rw [ho]; decide
  refine go_st TTok 100 rfl ?_
  refine c_dgo TTok mixed rfl rfl rfl rfl ?_
  refine f_call (done_ok d.now c h hl hc) rfl rfl rfl rfl ct19 rfl rfl rfl ?_
  refine f_go TTok rfl ?_
  refine f_end ?_
  refine go_st TTok 100 rfl ?_
  refine c_cond rfl (fun h1 => ?_) (fun h1 => ?_)
  · have h1 : (doneT d.now c).2 ≠ 0 := by simpa using h1
    have e1 : (doD d c).2 = (doneT d.now c).2 := by rw [doD, if_neg ho', if_pos h1]
    refine go_st TTok 100 rfl ?_
    exact c_ret ⟨_, _, _, 1, [0], rfl, bad _ [] e1 h1, rfl, ⟨rfl, rfl, rfl, trivial, ⟨rfl, trivial⟩⟩⟩
  have h1 : ¬ (doneT d.now c).2 ≠ 0 := by simpa using h1
  refine go_rg TTok 100 rfl ?_
  refine c_call (bytesT_ok _ hs) rfl rfl rfl rfl ct20 rfl rfl rfl rfl ?_
  refine go_rg TTok 100 rfl ?_
  have good : (¬ (d.quota < bytesT (doneT d.now c).1 ∧ bytesT d.now < bytesT (doneT d.now c).1)) → doD d c = ({ d with now := (doneT d.now c).1, waits := d.waits ++ [c], count := IntKind.i64.wrap (d.count + 1) }, 0) := fun h => by rw [doD, if_neg ho', if_neg h1, if_neg h]
  refine c_split 31 rfl (fun h2 => ?_) (fun h2 => ?_)
  · refine go_rg TTok 100 rfl ?_
    refine c_call (bytesT_ok _ h) rfl rfl rfl rfl ct20 rfl rfl rfl rfl ?_
    refine go_st TTok 100 rfl ?_
    refine c_cond rfl (fun h3 => ?_) (fun h3 => ?_)
    · have h23 : d.quota < bytesT (doneT d.now c).1 ∧ bytesT d.now < bytesT (doneT d.now c).1 := ⟨by simpa using h2, by simpa using h3⟩
      have e1 : (doD d c).2 = 9 := by rw [doD, if_neg ho', if_neg h1, if_pos h23]
      refine go_st TTok 100 rfl ?_
      exact c_ret ⟨_, _, _, 1, [0], rfl, bad 9 [] e1 (by decide), rfl, ⟨rfl, rfl, rfl, trivial, ⟨rfl, trivial⟩⟩⟩
    have e1 := good fun hh => by simp at h3; omega
    rw [e1, if_neg (show ¬ (({ d with now := (doneT d.now c).1, waits := d.waits ++ [c], count := IntKind.i64.wrap (d.count + 1) }, 0) : Dsk × Int).2 ≠ 0 from by simp)]
    refine go_st TTok 100 rfl ?_
    refine c_dgo TTok mixed rfl rfl rfl rfl ?_
    refine f_call (ownC_ok c hc) rfl rfl rfl rfl ct21 rfl rfl rfl ?_
    refine f_go TTok rfl ?_
    refine f_al (fun _ _ => al_buildSlice (vals := [c.av]) TIok rfl rfl rfl rfl rfl rfl rfl rfl rfl) rfl rfl rfl ?_
    refine f_ef (OpE.own 48 4 rfl (op_append (els := []) (l2 := [c.av]) rfl rfl rfl rfl (TTok _ _ rfl).ok rfl (TTok _ _ rfl).ok (TTok _ _ rfl).ok rfl rfl rfl rfl rfl rfl rfl (by decide) (by show (0 + 1) * 64 ≤ 140737488355328; decide)).e) rfl rfl rfl ?_
    refine f_go TTok rfl ?_
    refine f_end ?_
    refine go_st TTok 100 rfl ?_
    refine c_ret ⟨_, _, [(0, _), (1, .arr 4 (chgs (d.waits ++ [c])))], 2, [0, 27], rfl, ⟨rfl, rfl, rfl⟩, rfl, ⟨rfl, rfl, rfl, trivial, ⟨?_, emb_arr rfl rfl ?_ (chgs_nids _) trivial⟩⟩⟩
    · show some (Blk.arr 9 [AV.agg _]) = _
      simp only [hw0]; rfl
    · simp [chgs, hw0]
  have e1 := good fun hh => by simp at h2; omega
  rw [e1, if_neg (show ¬ (({ d with now := (doneT d.now c).1, waits := d.waits ++ [c], count := IntKind.i64.wrap (d.count + 1) }, 0) : Dsk × Int).2 ≠ 0 from by simp)]
  refine go_st TTok 100 rfl ?_
  refine c_dgo TTok mixed rfl rfl rfl rfl ?_
  refine f_call (ownC_ok c hc) rfl rfl rfl rfl ct21 rfl rfl rfl ?_
  refine f_go TTok rfl ?_
  refine f_al (fun _ _ => al_buildSlice (vals := [c.av]) TIok rfl rfl rfl rfl rfl rfl rfl rfl rfl) rfl rfl rfl ?_
  refine f_ef (OpE.own 48 4 rfl (op_append (els := []) (l2 := [c.av]) rfl rfl rfl rfl (TTok _ _ rfl).ok rfl (TTok _ _ rfl).ok (TTok _ _ rfl).ok rfl rfl rfl rfl rfl rfl rfl (by decide) (by show (0 + 1) * 64 ≤ 140737488355328; decide)).e) rfl rfl rfl ?_
  refine f_go TTok rfl ?_
  refine f_end ?_
  refine go_st TTok 100 rfl ?_
  refine c_ret ⟨_, _, [(0, _), (1, .arr 4 (chgs (d.waits ++ [c])))], 2, [0, 27], rfl, ⟨rfl, rfl, rfl⟩, rfl, ⟨rfl, rfl, rfl, trivial, ⟨?_, emb_arr rfl rfl ?_ (chgs_nids _) trivial⟩⟩⟩
  · show some (Blk.arr 9 [AV.agg _]) = _
    simp only [hw0]; rfl
  · simp [chgs, hw0]

theorem doF_ok (d : Dsk) (c : Chg) (h : Sm d.now) (hl : d.now.length < 2^30) (hc : c.Sm) (hs : Sm (doneT d.now c).1) (hn : d.waits.length ≤ 2^30)  :
    RunC Tryd.prog 7 [.ptr 0 9 0 0, c.av] [(0, .arr 9 [d.av (.ref 4 1 0 d.waits.length)]), (1, .arr 4 (chgs d.waits))] 2 (if (doD d c).2 ≠ 0 then QE (.int .i64 (doD d c).2) [(0, .arr 9 [d.av (.ref 4 1 0 d.waits.length)]), (1, .arr 4 (chgs d.waits))] 2 else QE (.int .i64 0) [(0, .arr 9 [(doD d c).1.av (.ref 4 2 0 (d.waits.length + 1))]), (2, .arr 4 (chgs (d.waits ++ [c])))] 3) := by
  refine RunC.of_c TIok Tryd.func7 rfl rfl rfl ?_
  have bad : ∀ (k : Int) (m : List Nat), (doD d c).2 = k → k ≠ 0 → (if (doD d c).2 ≠ 0 then QE (.int .i64 (doD d c).2) [(0, .arr 9 [d.av (.ref 4 1 0 d.waits.length)]), (1, .arr 4 (chgs d.waits))] 2 else QE (.int .i64 0) [(0, .arr 9 [(doD d c).1.av (.ref 4 2 0 (d.waits.length + 1))]), (2, .arr 4 (chgs (d.waits ++ [c])))] 3) (.int .i64 k) [(0, .arr 9 [d.av (.ref 4 1 0 d.waits.length)]), (1, .arr 4 (chgs d.waits))] 2 := fun k m h1 h2 => by
    rw [if_pos (by rw [h1]; exact h2), h1]; exact ⟨rfl, rfl, rfl⟩
  refine go_rg TTok 100 rfl ?_
  refine c_run (beginF_ok d) [0, 1] rfl rfl rfl rfl ct18 rfl rfl rfl ⟨rfl, emb_arr rfl rfl rfl (chgs_nids _) trivial⟩ rfl rfl rfl rfl rfl (backH_F _ _ _ _) rfl ?_
  cases ho : d.off
  rotate_left
  · have e1 : (doD d c).2 = 15 := by rw [doD, if_pos ho]
    refine go_st TTok 100 rfl ?_
    exact c_ret ⟨_, _, _, 2, [0, 1], rfl, bad 15 [] e1 (by decide), rfl, ⟨rfl, rfl, rfl, trivial, ⟨rfl, emb_arr rfl rfl rfl (chgs_nids _) trivial⟩⟩⟩
  have ho' : ¬ d.off = true := by rw [ho]; decide
  refine go_st TTok 100 rfl ?_
  refine c_dgo TTok mixed rfl rfl rfl rfl ?_
  refine f_call (done_ok d.now c h hl hc) rfl rfl rfl rfl ct19 rfl rfl rfl ?_
  refine f_go TTok rfl ?_
  refine f_end ?_
  refine go_st TTok 100 rfl ?_
  refine c_cond rfl (fun h1 => ?_) (fun h1 => ?_)
  · have h1 : (doneT d.now c).2 ≠ 0 := by simpa using h1
    have e1 : (doD d c).2 = (doneT d.now c).2 := by rw [doD, if_neg ho', if_pos h1]
    refine go_st TTok 100 rfl ?_
    exact c_ret ⟨_, _, _, 2, [0, 1], rfl, bad _ [] e1 h1, rfl, ⟨rfl, rfl, rfl, trivial, ⟨rfl, emb_arr rfl rfl rfl (chgs_nids _) trivial⟩⟩⟩
  have h1 : ¬ (doneT d.now c).2 ≠ 0 := by simpa using h1
  refine go_rg TTok 100 rfl ?_
  refine c_call (bytesT_ok _ hs) rfl rfl rfl rfl ct20 rfl rfl rfl rfl ?_
  refine go_rg TTok 100 rfl ?_
  have good : (¬ (d.quota < bytesT (doneT d.now c).1 ∧ bytesT d.now < bytesT (doneT d.now c).1)) → doD d c = ({ d with now := (doneT d.now c).1, waits := d.waits ++ [c], count := IntKind.i64.wrap (d.count + 1) }, 0) := fun h => by rw [doD, if_neg ho', if_neg h1, if_neg h]
  refine c_split 31 rfl (fun h2 => ?_) (fun h2 => ?_)
  · refine go_rg TTok 100 rfl ?_
    refine c_call (bytesT_ok _ h) rfl rfl rfl rfl ct20 rfl rfl rfl rfl ?_
    refine go_st TTok 100 rfl ?_
    refine c_cond rfl (fun h3 => ?_) (fun h3 => ?_)
    · have h23 : d.quota < bytesT (doneT d.now c).1 ∧ bytesT d.now < bytesT (doneT d.now c).1 := ⟨by simpa using h2, by simpa using h3⟩
      have e1 : (doD d c).2 = 9 := by rw [doD, if_neg ho', if_neg h1, if_pos h23]
      refine go_st TTok 100 rfl ?_
      exact c_ret ⟨_, _, _, 2, [0, 1], rfl, bad 9 [] e1 (by decide), rfl, ⟨rfl, rfl, rfl, trivial, ⟨rfl, emb_arr rfl rfl rfl (chgs_nids _) trivial⟩⟩⟩
    have e1 := good fun hh => by simp at h3; omega
    rw [e1, if_neg (show ¬ (({ d with now := (doneT d.now c).1, waits := d.waits ++ [c], count := IntKind.i64.wrap (d.count + 1) }, 0) : Dsk × Int).2 ≠ 0 from by simp)]
    refine go_st TTok 100 rfl ?_
    refine c_dgo TTok mixed rfl rfl rfl rfl ?_
    refine f_call (ownC_ok c hc) rfl rfl rfl rfl ct21 rfl rfl rfl ?_
    refine f_go TTok rfl ?_
    refine f_al (fun _ _ => al_buildSlice (vals := [c.av]) TIok rfl rfl rfl rfl rfl rfl rfl rfl rfl) rfl rfl rfl ?_
    refine f_ef (op_append (els := chgs d.waits) (l2 := [c.av]) rfl rfl rfl rfl (TTok _ _ rfl).ok rfl (TTok _ _ rfl).ok (TTok _ _ rfl).ok rfl rfl rfl rfl (by rw [chgs_len]; omega) rfl rfl (by decide) ?_).e rfl rfl rfl ?_
    · show (d.waits.length + 1) * 64 ≤ _
      omega
    refine f_go TTok rfl ?_
    refine f_end ?_
    refine go_st TTok 100 rfl ?_
    refine c_ret ⟨_, _, [(0, _), (2, .arr 4 (chgs (d.waits ++ [c])))], 3, [0, 1, 27], rfl, ⟨rfl, rfl, rfl⟩, rfl, ⟨rfl, rfl, rfl, trivial, ⟨?_, emb_arr rfl rfl ?_ (chgs_nids _) trivial⟩⟩⟩
    · rfl
    · simp [chgs]
  have e1 := good fun hh => by simp at h2; omega
  rw [e1, if_neg (show ¬ (({ d with now := (doneT d.now c).1, waits := d.waits ++ [c], count := IntKind.i64.wrap (d.count + 1) }, 0) : Dsk × Int).2 ≠ 0 from by simp)]
  refine go_st TTok 100 rfl ?_
  refine c_dgo TTok mixed rfl rfl rfl rfl ?_
  refine f_call (ownC_ok c hc) rfl rfl rfl rfl ct21 rfl rfl rfl ?_
  refine f_go TTok rfl ?_
  refine f_al (fun _ _ => al_buildSlice (vals := [c.av]) TIok rfl rfl rfl rfl rfl rfl rfl rfl rfl) rfl rfl rfl ?_
  refine f_ef (op_append (els := chgs d.waits) (l2 := [c.av]) rfl rfl rfl rfl (TTok _ _ rfl).ok rfl (TTok _ _ rfl).ok (TTok _ _ rfl).ok rfl rfl rfl rfl (by rw [chgs_len]; omega) rfl rfl (by decide) ?_).e rfl rfl rfl ?_
  · show (d.waits.length + 1) * 64 ≤ _
    omega
  refine f_go TTok rfl ?_
  refine f_end ?_
  refine go_st TTok 100 rfl ?_
  refine c_ret ⟨_, _, [(0, _), (2, .arr 4 (chgs (d.waits ++ [c])))], 3, [0, 1, 27], rfl, ⟨rfl, rfl, rfl⟩, rfl, ⟨rfl, rfl, rfl, trivial, ⟨?_, emb_arr rfl rfl ?_ (chgs_nids _) trivial⟩⟩⟩
  · rfl
  · simp [chgs]

theorem waitsE_ok (d : Dsk) : RunC Tryd.prog 9 [.ptr 0 9 0 0] [(0, .arr 9 [d.av .nilsl])] 1 (QE .nilsl [(0, .arr 9 [d.av .nilsl])] 1) := by
  refine RunC.of_c TIok Tryd.func9 rfl rfl rfl ?_
  refine go_st TTok 100 rfl ?_
  refine c_loop (ι := Unit) (fun _ => [(3, .nilsl), (10, .int .i64 0), (11, .int .i64 0)]) (fun _ => [(0, .arr 9 [d.av .nilsl])]) 1 (fun _ => 0) () [0] ⟨rfl, rfl, rfl, ⟨rfl, rfl, rfl, trivial⟩, ⟨rfl, trivial⟩⟩ ?_
  intro _
  refine go_st TTok 100 rfl ?_
  refine c_condF rfl (by decide) ?_
  refine go_st TTok 100 rfl ?_
  exact c_ret ⟨_, _, _, 1, [0], rfl, ⟨rfl, rfl, rfl⟩, rfl, ⟨rfl, rfl, rfl, trivial, ⟨rfl, trivial⟩⟩⟩
theorem waitsF_ok (d : Dsk) (hn : d.waits.length ≤ 2^30) (hs : ∀ c ∈ d.waits, c.Sm) : RunC Tryd.prog 9 [.ptr 0 9 0 0] [(0, .arr 9 [d.av (.ref 4 1 0 d.waits.length)]), (1, .arr 4 (chgs d.waits))] 2 (QE (.sl 4 (chgs d.waits)) [(0, .arr 9 [d.av (.ref 4 1 0 d.waits.length)]), (1, .arr 4 (chgs d.waits))] 2) := by
  refine RunC.of_c TIok Tryd.func9 rfl rfl rfl ?_
  refine go_st TTok 100 rfl ?_
  refine c_ownS 4 (t := 3) rfl ?_
  refine c_loopP (ι := Nat) (fun k => k ≤ d.waits.length) (fun k => [(3, .ref 4 2 0 k), (9, .ref 4 1 0 d.waits.length), (10, .int .i64 (d.waits.length : Nat)), (11, .int .i64 (k : Nat))])
    (fun k => [(0, .arr 9 [d.av (.ref 4 1 0 d.waits.length)]), (1, .arr 4 (chgs d.waits)), (2, .arr 4 (chgs (d.waits.take k)))]) 3 (fun k => d.waits.length - k) 0 (Nat.zero_le _) [0, 1, 2]
    ⟨rfl, rfl, rfl, ⟨rfl, rfl, rfl, rfl, trivial⟩, ⟨rfl, emb_arr rfl rfl rfl (chgs_nids _) (emb_arr rfl rfl rfl rfl trivial)⟩⟩ ?_
  intro k hk
  have htk : (d.waits.take k).length = k := by rw [List.length_take]; omega
  refine go_st TTok 100 rfl ?_
  refine c_cond rfl (fun hc => ?_) (fun hc => ?_)
  rotate_left
  · have hk : k = d.waits.length := by simp at hc; omega
    subst hk
    refine c_freezeS 2 [(3, .sl 4 (chgs d.waits))] rfl (chgs_nids _) ⟨⟨_, rfl, snap_ref rfl (by rw [chgs_len]; omega) (by rw [List.drop_zero, List.take_of_length_le (Nat.le_refl _), List.take_of_length_le (by rw [chgs_len]; exact Nat.le_refl _)])⟩, trivial⟩ ?_
    refine go_st TTok 100 rfl ?_
    exact c_ret ⟨_, _, _, 2, [0, 1], rfl, ⟨rfl, rfl, rfl⟩, rfl, ⟨rfl, rfl, rfl, trivial, ⟨rfl, emb_arr rfl rfl rfl (chgs_nids _) trivial⟩⟩⟩
  have hk : k < d.waits.length := by simpa using hc
  have hw : IntKind.i64.wrap ((k : Nat) + 1 : Int) = ((k + 1 : Nat) : Int) := by rw [IntWalk.i64_in _ ⟨by omega, by omega⟩]; omega
  refine go_rg TTok 100 rfl ?_
  refine c_op (op_indexAddr_ref rfl (TTok _ _ rfl).ok rfl (TTok _ _ rfl).ok rfl rfl rfl (by omega) (by omega)) rfl rfl rfl ?_
  refine c_eptr 13 rfl ?_
  refine c_op (op_load_whole (e := d.waits[k].av) rfl (TTok _ _ rfl).ok rfl rfl (by rw [Nat.zero_add, Int.toNat_natCast]; exact chgs_get _ hk) rfl rfl) rfl rfl rfl ?_
  refine go_rg TTok 100 rfl ?_
  refine c_call (ownC_ok d.waits[k] (hs _ (List.getElem_mem hk))) rfl rfl rfl rfl ct21 rfl rfl rfl rfl ?_
  refine go_rg TTok 100 rfl ?_
  refine c_op ((al_buildSlice (vals := [d.waits[k].av]) TIok rfl rfl rfl rfl rfl rfl rfl rfl rfl).opS) rfl rfl rfl ?_
  refine go_rg TTok 100 rfl ?_
  refine c_op (op_append (els := chgs (d.waits.take k)) (l2 := [d.waits[k].av]) rfl rfl rfl rfl (TTok _ _ rfl).ok rfl (TTok _ _ rfl).ok (TTok _ _ rfl).ok rfl rfl rfl rfl (by rw [chgs_len]; omega) rfl rfl (by decide) ?_) rfl rfl rfl ?_
  · show (k + 1) * 64 ≤ _
    omega
  refine go_st TTok 100 rfl ?_
  refine c_inv ⟨k + 1, [0, 1, 5], hk, by show d.waits.length - (k + 1) < d.waits.length - k; omega, rfl, rfl, rfl, ⟨rfl, rfl, rfl, congrArg (fun x => some (AV.int .i64 x)) hw, trivial⟩, ⟨rfl, emb_arr rfl rfl rfl (chgs_nids _) (emb_arr rfl rfl ?_ (chgs_nids _) trivial)⟩⟩
  show chgs (d.waits.take k) ++ [d.waits[k].av] = chgs (d.waits.take (k + 1))
  rw [List.take_succ_eq_append_getElem hk, chgs, chgs, List.map_append]; rfl

theorem tear_av (c : Chg) {torn : Int} (h1 : c.op = 1) (h2 : 0 ≤ torn) : (tearC c torn).av = .agg [.int .i64 c.op, .str c.path, .str c.to, .sl 1 (((bys c.b).take (if ((c.b.length : Nat) : Int) < torn then ((c.b.length : Nat) : Int) else torn).toNat).drop 0)] := by
  rw [tearC, if_pos ⟨h1, h2⟩]
  show AV.agg [.int .i64 c.op, .str c.path, .str c.to, byt (c.b.take torn.toNat)] = _
  have : (bys c.b).take (if ((c.b.length : Nat) : Int) < torn then ((c.b.length : Nat) : Int) else torn).toNat = bys (c.b.take torn.toNat) := by
    simp only [bys, ← List.map_take]
    split
    · rw [Int.toNat_natCast, List.take_of_length_le (Nat.le_refl _), List.take_of_length_le (by omega)]
    · rfl
  rw [List.drop_zero, this]; rfl
theorem tear_Sm {c : Chg} (h : c.Sm) (torn : Int) : (tearC c torn).Sm := by
  rw [tearC]
  split
  · exact ⟨h.path, h.to, Nat.le_trans (by simp; omega) h.b⟩
  · exact h

theorem crashE_off (d : Dsk) (keep : List Int) (torn : Int) (ho : d.off = true) : RunC Tryd.prog 10 [.ptr 0 9 0 0, .sl 1 (ints keep), .int .i64 torn] [(0, .arr 9 [d.av .nilsl])] 1 (QE (.tuple []) [(0, .arr 9 [d.av .nilsl])] 1) := by
  refine RunC.of_c TIok Tryd.func10 rfl rfl rfl ?_
  rw [off_on ho]
  refine go_st TTok 100 rfl ?_
  exact c_ret ⟨_, _, _, 1, [0], rfl, ⟨rfl, rfl, rfl⟩, rfl, ⟨rfl, rfl, rfl, trivial, ⟨rfl, trivial⟩⟩⟩
theorem crashE_ok (d : Dsk) (keep : List Int) (torn : Int) (hkl : keep.length ≤ 2^40) (hw0 : d.waits = []) :
    RunC Tryd.prog 10 [.ptr 0 9 0 0, .sl 1 (ints keep), .int .i64 torn] [(0, .arr 9 [({ d with off := false } : Dsk).av .nilsl])] 1 (QE (.tuple []) [(0, .arr 9 [(crashD { d with off := false } keep torn).av .nilsl])] 1) := by
  refine RunC.of_c TIok Tryd.func10 rfl rfl rfl ?_
  refine go_st TTok 100 rfl ?_
  refine c_loop (ι := Unit) (fun _ => [(0, .ptr 0 9 0 0), (18, .int .i64 0), (19, .int .i64 0)]) (fun _ => [(0, .arr 9 [({ d with off := false } : Dsk).av .nilsl])]) 1 (fun _ => 0) () [0] ⟨rfl, rfl, rfl, ⟨rfl, rfl, rfl, trivial⟩, ⟨rfl, trivial⟩⟩ ?_
  intro _
  refine go_st TTok 100 rfl ?_
  refine c_condF rfl (by decide) ?_
  refine go_st TTok 100 rfl ?_
  refine c_end ⟨_, _, [(0, .arr 9 [(crashD { d with off := false } keep torn).av .nilsl])], 1, [0], rfl, ⟨rfl, rfl, rfl⟩, rfl, ⟨rfl, rfl, rfl, trivial, ⟨?_, trivial⟩⟩⟩
  simp only [crashD, hw0, fallT, Bool.false_eq_true, if_false]
  rfl

theorem crashF_off (d : Dsk) (keep : List Int) (torn : Int) (ho : d.off = true) : RunC Tryd.prog 10 [.ptr 0 9 0 0, .sl 1 (ints keep), .int .i64 torn] [(0, .arr 9 [d.av (.ref 4 1 0 d.waits.length)]), (1, .arr 4 (chgs d.waits))] 2 (QE (.tuple []) [(0, .arr 9 [d.av (.ref 4 1 0 d.waits.length)]), (1, .arr 4 (chgs d.waits))] 2) := by
  refine RunC.of_c TIok Tryd.func10 rfl rfl rfl ?_
  rw [off_on ho]
  refine go_st TTok 100 rfl ?_
  exact c_ret ⟨_, _, _, 2, [0, 1], rfl, ⟨rfl, rfl, rfl⟩, rfl, ⟨rfl, rfl, rfl, trivial, ⟨rfl, emb_arr rfl rfl rfl (chgs_nids _) trivial⟩⟩⟩
theorem crashF_ok (d : Dsk) (keep : List Int) (torn : Int) (hkl : keep.length ≤ 2^40) (hn : d.waits.length ≤ 2^30) (hs : ∀ c ∈ d.waits, c.Sm) (hsm : ∀ L, goodT L = true → Sm L ∧ L.length ≤ 40) (hG : ∀ L c, goodT L = true → (doneT L c).2 = 0 → goodT (doneT L c).1 = true) (hl : goodT d.last = true) :
    RunC Tryd.prog 10 [.ptr 0 9 0 0, .sl 1 (ints keep), .int .i64 torn] [(0, .arr 9 [({ d with off := false } : Dsk).av (.ref 4 1 0 d.waits.length)]), (1, .arr 4 (chgs d.waits))] 2 (QE (.tuple []) [(0, .arr 9 [(crashD { d with off := false } keep torn).av .nilsl])] 2) := by
  refine RunC.of_c TIok Tryd.func10 rfl rfl rfl ?_
  refine go_st TTok 100 rfl ?_
  refine c_loopP (ι := Nat × List Ent) (fun x => x.1 ≤ d.waits.length ∧ fallT keep torn d.last 0 d.waits = fallT keep torn x.2 x.1 (d.waits.drop x.1) ∧ goodT x.2 = true)
    (fun x => [(0, .ptr 0 9 0 0), (1, .sl 1 (ints keep)), (2, .int .i64 torn), (17, .ref 4 1 0 d.waits.length), (18, .int .i64 (d.waits.length : Nat)), (19, .int .i64 (x.1 : Nat))])
    (fun x => [(0, .arr 9 [Dsk.av { d with last := x.2, off := false } (.ref 4 1 0 d.waits.length)]), (1, .arr 4 (chgs d.waits))]) 2 (fun x => d.waits.length - x.1) (0, d.last) ⟨Nat.zero_le _, rfl, hl⟩ [0, 1]
    ⟨rfl, rfl, rfl, ⟨rfl, rfl, rfl, rfl, rfl, rfl, trivial⟩, ⟨rfl, emb_arr rfl rfl rfl (chgs_nids _) trivial⟩⟩ ?_
  rintro ⟨k, L⟩ ⟨hk, hf, hgl⟩
  dsimp only at hk hf hgl
  refine go_st TTok 100 rfl ?_
  refine c_cond rfl (fun hc => ?_) (fun hc => ?_)
  rotate_left
  · have hk : k = d.waits.length := by simp at hc; omega
    subst hk
    rw [List.drop_of_length_le (Nat.le_refl _), fallT] at hf
    refine go_st TTok 100 rfl ?_
    refine c_end ⟨_, _, [(0, .arr 9 [(crashD { d with off := false } keep torn).av .nilsl])], 2, [0, 1], rfl, ⟨rfl, rfl, rfl⟩, rfl, ⟨rfl, rfl, rfl, trivial, ⟨?_, trivial⟩⟩⟩
    simp only [crashD, hf, Bool.false_eq_true, if_false]
    rfl
  have hk : k < d.waits.length := by simpa using hc
  have hw : IntKind.i64.wrap ((k : Nat) + 1 : Int) = ((k + 1 : Nat) : Int) := by rw [IntWalk.i64_in _ ⟨by omega, by omega⟩]; omega
  rw [List.drop_eq_getElem_cons hk, fallT] at hf
  obtain ⟨hsl, hll⟩ := hsm L hgl
  have hcS := hs _ (List.getElem_mem hk)
  refine go_rg TTok 100 rfl ?_
  refine c_op (op_indexAddr_ref rfl (TTok _ _ rfl).ok rfl (TTok _ _ rfl).ok rfl rfl rfl (by omega) (by omega)) rfl rfl rfl ?_
  refine c_eptr 22 rfl ?_
  refine c_op (op_load_whole (e := d.waits[k].av) rfl (TTok _ _ rfl).ok rfl rfl (by rw [Nat.zero_add, Int.toNat_natCast]; exact chgs_get _ hk) rfl rfl) rfl rfl rfl ?_
  refine go_rg TTok 100 rfl ?_
  refine c_call (containsI_ok keep k hkl) rfl rfl rfl rfl ct22 rfl rfl rfl rfl ?_
  refine go_st TTok 100 rfl ?_
  refine c_cond rfl (fun h1 => ?_) (fun h1 => ?_)
  · have h1 : ¬ ((k : Int) ∈ keep) := by simpa using h1
    rw [if_neg (fun h => h1 h.1)] at hf
    refine go_st TTok 100 rfl ?_
    exact c_inv ⟨(k + 1, L), [0, 1], ⟨hk, hf, hgl⟩, by show d.waits.length - (k + 1) < d.waits.length - k; omega, rfl, rfl, rfl, ⟨rfl, rfl, rfl, rfl, rfl, congrArg (fun x => some (AV.int .i64 x)) hw, trivial⟩, ⟨rfl, emb_arr rfl rfl rfl (chgs_nids _) trivial⟩⟩
  have h1 : (k : Int) ∈ keep := by simpa using h1
  have hdn := done_ok L (tearC d.waits[k] torn) hsl (by omega) (tear_Sm hcS torn)
  refine go_rg TTok 100 rfl ?_
  refine c_split 31 rfl (fun h2 => ?_) (fun h2 => ?_)
  · have h2 : d.waits[k].op = 1 := by simpa using h2
    refine go_st TTok 100 rfl ?_
    refine c_cond rfl (fun h3 => ?_) (fun h3 => ?_)
    · have h3 : 0 ≤ torn := by simpa using h3
      refine go_rg TTok 100 rfl ?_
      refine c_op (op_min rfl rfl rfl rfl rfl) rfl rfl rfl ?_
      refine go_rg TTok 100 rfl ?_
      have hbl : (bys d.waits[k].b).length = d.waits[k].b.length := by simp [bys]
      refine c_op (op_slice_sl (l := none) (h := some (if (((bys d.waits[k].b).length : Nat) : Int) < torn then (((bys d.waits[k].b).length : Nat) : Int) else torn)) rfl (TTok _ _ rfl).ok rfl (TTok _ _ rfl).ok rfl rfl rfl rfl (by decide) ?_ ?_) rfl rfl rfl ?_
      · show (0 : Int) ≤ if _ then _ else _
        split <;> omega
      · show (if _ then _ else _ : Int) ≤ _
        split <;> omega
      refine go_st TTok 100 rfl ?_
      refine c_dgo TTok mixed rfl rfl rfl rfl ?_
      refine f_call («as» := [treeAV L, .agg [.int .i64 d.waits[k].op, .str d.waits[k].path, .str d.waits[k].to, .sl 1 (((bys d.waits[k].b).take (if (((bys d.waits[k].b).length : Nat) : Int) < torn then (((bys d.waits[k].b).length : Nat) : Int) else torn).toNat).drop 0)]]) (caps := []) (r := .tuple [treeAV (doneT L (tearC d.waits[k] torn)).1, .int .i64 (doneT L (tearC d.waits[k] torn)).2]) (by rw [tear_av _ h2 h3] at hdn; rw [hbl]; exact hdn) rfl rfl rfl rfl ct19 rfl rfl rfl ?_
      refine f_go TTok rfl ?_
      refine f_end ?_
      refine go_st TTok 100 rfl ?_
      refine c_cond rfl (fun h4 => ?_) (fun h4 => ?_)
      · have h4 : (doneT L (tearC d.waits[k] torn)).2 = 0 := by simpa using h4
        rw [if_pos ⟨h1, h4⟩] at hf
        refine go_st TTok 100 rfl ?_
        exact c_inv ⟨(k + 1, (doneT L (tearC d.waits[k] torn)).1), [0, 1], ⟨hk, hf, hG _ _ hgl h4⟩, by show d.waits.length - (k + 1) < d.waits.length - k; omega, rfl, rfl, rfl, ⟨rfl, rfl, rfl, rfl, rfl, congrArg (fun x => some (AV.int .i64 x)) hw, trivial⟩, ⟨rfl, emb_arr rfl rfl rfl (chgs_nids _) trivial⟩⟩
      · have h4 : ¬ (doneT L (tearC d.waits[k] torn)).2 = 0 := by simpa using h4
        rw [if_neg fun h => h4 h.2] at hf
        refine go_st TTok 100 rfl ?_
        exact c_inv ⟨(k + 1, L), [0, 1], ⟨hk, hf, hgl⟩, by show d.waits.length - (k + 1) < d.waits.length - k; omega, rfl, rfl, rfl, ⟨rfl, rfl, rfl, rfl, rfl, congrArg (fun x => some (AV.int .i64 x)) hw, trivial⟩, ⟨rfl, emb_arr rfl rfl rfl (chgs_nids _) trivial⟩⟩
    · have htc : tearC d.waits[k] torn = d.waits[k] := by rw [tearC, if_neg fun h => by simp at h3; omega]
      refine go_st TTok 100 rfl ?_
      refine c_dgo TTok mixed rfl rfl rfl rfl ?_
      refine f_call («as» := [treeAV L, d.waits[k].av]) (caps := []) (r := .tuple [treeAV (doneT L (tearC d.waits[k] torn)).1, .int .i64 (doneT L (tearC d.waits[k] torn)).2]) (by rw [show (tearC d.waits[k] torn).av = d.waits[k].av from by rw [htc]] at hdn; exact hdn) rfl rfl rfl rfl ct19 rfl rfl rfl ?_
      refine f_go TTok rfl ?_
      refine f_end ?_
      refine go_st TTok 100 rfl ?_
      refine c_cond rfl (fun h4 => ?_) (fun h4 => ?_)
      · have h4 : (doneT L (tearC d.waits[k] torn)).2 = 0 := by simpa using h4
        rw [if_pos ⟨h1, h4⟩] at hf
        refine go_st TTok 100 rfl ?_
        exact c_inv ⟨(k + 1, (doneT L (tearC d.waits[k] torn)).1), [0, 1], ⟨hk, hf, hG _ _ hgl h4⟩, by show d.waits.length - (k + 1) < d.waits.length - k; omega, rfl, rfl, rfl, ⟨rfl, rfl, rfl, rfl, rfl, congrArg (fun x => some (AV.int .i64 x)) hw, trivial⟩, ⟨rfl, emb_arr rfl rfl rfl (chgs_nids _) trivial⟩⟩
      · have h4 : ¬ (doneT L (tearC d.waits[k] torn)).2 = 0 := by simpa using h4
        rw [if_neg fun h => h4 h.2] at hf
        refine go_st TTok 100 rfl ?_
        exact c_inv ⟨(k + 1, L), [0, 1], ⟨hk, hf, hgl⟩, by show d.waits.length - (k + 1) < d.waits.length - k; omega, rfl, rfl, rfl, ⟨rfl, rfl, rfl, rfl, rfl, congrArg (fun x => some (AV.int .i64 x)) hw, trivial⟩, ⟨rfl, emb_arr rfl rfl rfl (chgs_nids _) trivial⟩⟩
  · have htc : tearC d.waits[k] torn = d.waits[k] := by rw [tearC, if_neg fun h => by simp at h2; exact h2 h.1]
    refine go_st TTok 100 rfl ?_
    refine c_dgo TTok mixed rfl rfl rfl rfl ?_
    refine f_call («as» := [treeAV L, d.waits[k].av]) (caps := []) (r := .tuple [treeAV (doneT L (tearC d.waits[k] torn)).1, .int .i64 (doneT L (tearC d.waits[k] torn)).2]) (by rw [show (tearC d.waits[k] torn).av = d.waits[k].av from by rw [htc]] at hdn; exact hdn) rfl rfl rfl rfl ct19 rfl rfl rfl ?_
    refine f_go TTok rfl ?_
    refine f_end ?_
    refine go_st TTok 100 rfl ?_
    refine c_cond rfl (fun h4 => ?_) (fun h4 => ?_)
    · have h4 : (doneT L (tearC d.waits[k] torn)).2 = 0 := by simpa using h4
      rw [if_pos ⟨h1, h4⟩] at hf
      refine go_st TTok 100 rfl ?_
      exact c_inv ⟨(k + 1, (doneT L (tearC d.waits[k] torn)).1), [0, 1], ⟨hk, hf, hG _ _ hgl h4⟩, by show d.waits.length - (k + 1) < d.waits.length - k; omega, rfl, rfl, rfl, ⟨rfl, rfl, rfl, rfl, rfl, congrArg (fun x => some (AV.int .i64 x)) hw, trivial⟩, ⟨rfl, emb_arr rfl rfl rfl (chgs_nids _) trivial⟩⟩
    · have h4 : ¬ (doneT L (tearC d.waits[k] torn)).2 = 0 := by simpa using h4
      rw [if_neg fun h => h4 h.2] at hf
      refine go_st TTok 100 rfl ?_
      exact c_inv ⟨(k + 1, L), [0, 1], ⟨hk, hf, hgl⟩, by show d.waits.length - (k + 1) < d.waits.length - k; omega, rfl, rfl, rfl, ⟨rfl, rfl, rfl, rfl, rfl, congrArg (fun x => some (AV.int .i64 x)) hw, trivial⟩, ⟨rfl, emb_arr rfl rfl rfl (chgs_nids _) trivial⟩⟩

end Go.Proofs.YtikkobmghmphaaaDoor
namespace Go.Proofs.YtikkobmghmphaaaDoor
open Go Go.Av Go.Tm

set_option maxRecDepth 10000
def c0 : Chg := ⟨1, [97], [], [120, 121]⟩
def d0 : Dsk := ⟨99, [], [], [], false, 0⟩
theorem done0 : doneT [] c0 = ([⟨[97], false, [120, 121]⟩], 0) := by
  have h1 : goodT [] = true := rfl
  have h2 : goodP [97] = true := by decide
  have h3 : upOf [97] = [] := by decide
  have h4 : findI [] [97] = 0 := by simp [findI, bs]
  have h5 : findOk [] [97] = false := by simp [findOk, h4]
  simp [doneT, c0, putT, h1, h2, withT, upE, h3, h4, h5, cnt]
def d1 : Dsk := ⟨99, [⟨[97], false, [120, 121]⟩], [], [c0], false, 1⟩
theorem do0 : doD d0 c0 = (d1, 0) := by
  have h : bytesT [⟨[97], false, [120, 121]⟩] = 2 := by decide
  simp [doD, d0, done0, h, d1]
  decide
def d2 : Dsk := ⟨99, [], [], [], true, 1⟩
theorem crash0 : crashD { d1 with off := false } [] (-1) = d2 := by
  simp [crashD, d1, fallT, d2]

theorem le_tree0 : Le (.agg [.nilsl]) (treeAV []) := le_agg rfl fun i a b ha hb => by
  match i, ha, hb with
  | 0, rfl, rfl => exact le_nilsl 3
theorem sm0 : Sm [] := ⟨by decide, (fun _ h => by cases h), (fun _ h => by cases h)⟩
theorem awake_ok (hsm : ∀ L, goodT L = true → Sm L ∧ L.length ≤ 40) (hG : ∀ L c, goodT L = true → (doneT L c).2 = 0 → goodT (doneT L c).1 = true) : PureC Tryd.prog 5 [] (.bool true) := by
  refine PureC.of_c TIok Tryd.func5 rfl rfl rfl rfl ?_
  refine go_rg TTok 100 rfl ?_
  refine c_run ((newD_ok [] 99 sm0 rfl (by decide) (by decide)).args (.cons le_tree0 (.cons Le.rfl .nil))) [] rfl rfl rfl rfl ct6 rfl rfl rfl trivial rfl rfl rfl rfl rfl rfl rfl ?_
  refine go_rg TTok 100 rfl ?_
  refine c_known 12 false rfl rfl ?_
  refine go_rg TTok 100 rfl ?_
  refine c_op (op_eqnil rfl (TTok _ _ rfl).ok rfl rfl rfl rfl) rfl rfl rfl ?_
  refine go_rg TTok 100 rfl ?_
  refine c_op ((al_buildSlice (vals := [.int .u8 120, .int .u8 121]) TIok rfl rfl rfl rfl rfl rfl rfl rfl rfl).opS) rfl rfl rfl ?_
  refine c_opE (op_convs rfl (TTok _ _ rfl).ok rfl (TTok _ _ rfl).ok rfl rfl rfl rfl rfl (by decide) rfl) rfl rfl rfl ?_
  rintro _ _ _ ⟨rfl, rfl, rfl⟩
  refine go_rg TTok 100 rfl ?_
  have hdo := doE_ok d0 c0 sm0 (by decide) ⟨by decide, by decide, by decide⟩ (by rw [show doneT d0.now c0 = _ from done0]; exact (hsm _ (by decide)).1) (by decide) rfl
  rw [do0, if_neg (by decide)] at hdo
  refine c_run hdo [0] rfl rfl rfl rfl ct7 rfl rfl rfl ⟨rfl, trivial⟩ rfl rfl rfl rfl rfl rfl rfl ?_
  refine go_rg TTok 100 rfl ?_
  refine c_run (nowF_ok d1 (hsm _ (by decide)).1) [0, 2] rfl rfl rfl rfl ct8 rfl rfl rfl ⟨rfl, ⟨rfl, trivial⟩⟩ rfl rfl rfl rfl rfl rfl rfl ?_
  refine go_rg TTok 100 rfl ?_
  have hcr := crashF_ok d1 [] (-1) (by decide) (by decide) (fun c hc => by
    simp [d1] at hc; subst hc; exact ⟨by decide, by decide, by decide⟩) hsm hG rfl
  rw [crash0] at hcr
  refine c_run (hcr.args (.cons Le.rfl (.cons (le_nilsl 1) (.cons Le.rfl .nil)))) [0, 2] rfl rfl rfl rfl ct10 rfl rfl rfl ⟨rfl, ⟨rfl, trivial⟩⟩ rfl rfl rfl rfl rfl rfl rfl ?_
  refine go_rg TTok 100 rfl ?_
  refine c_known 29 true rfl rfl ?_
  refine go_rg TTok 100 rfl ?_
  refine c_known 33 true rfl rfl ?_
  refine go_rg TTok 100 rfl ?_
  refine c_run (nowE_ok d2 sm0) [0] rfl rfl rfl rfl ct8 rfl rfl rfl ⟨rfl, trivial⟩ rfl rfl rfl rfl rfl rfl rfl ?_
  refine go_rg TTok 100 rfl ?_
  refine c_known 40 true rfl rfl ?_
  refine go_rg TTok 100 rfl ?_
  refine c_run (offE_ok d2) [0] rfl rfl rfl rfl ct16 rfl rfl rfl ⟨rfl, trivial⟩ rfl rfl rfl rfl rfl rfl rfl ?_
  refine go_st TTok 100 rfl ?_
  exact c_ret ⟨_, rfl, rfl⟩
end Go.Proofs.YtikkobmghmphaaaDoor
namespace Go.Proofs.YtikkobmghmphaaaDoor
open Go Go.Av Go.Tm

set_option maxRecDepth 10000
/-- A disk in memory: what waits, if anything, under a name of its own. -/
noncomputable def dskH (d : Dsk) : Hp := if d.waits = [] then [(0, .arr 9 [d.av .nilsl])] else [(0, .arr 9 [d.av (.ref 4 1 0 d.waits.length)]), (1, .arr 4 (chgs d.waits))]
theorem dskH_E {d : Dsk} (h : d.waits = []) : dskH d = [(0, .arr 9 [d.av .nilsl])] := if_pos h
theorem dskH_F {d : Dsk} (h : d.waits ≠ []) : dskH d = [(0, .arr 9 [d.av (.ref 4 1 0 d.waits.length)]), (1, .arr 4 (chgs d.waits))] := if_neg h
theorem dead1 (b c : Blk) (id : Nat) : getB [(0, b)] id = getB [(0, b), (0, .dead), (0, c)] id := by
  simp only [getB_cons]
  by_cases h : 0 = id
  · simp only [if_pos h]
  · simp only [if_neg h]
theorem dead2 (b c e : Blk) (id : Nat) : getB [(0, b), (2, e)] id = getB [(0, b), (2, e), (0, .dead), (0, c)] id := by
  simp only [getB_cons]
  by_cases h : 0 = id
  · simp only [if_pos h]
  · simp only [if_neg h]
theorem nowD_ok (d : Dsk) (h : Sm d.now) : RunC Tryd.prog 8 [.ptr 0 9 0 0] (dskH d) 2 (QE (treeAV d.now) (dskH d) 2) := by
  by_cases hw : d.waits = []
  · rw [dskH_E hw]
    refine ((nowE_ok d h).emb [0] rfl rfl rfl ⟨rfl, trivial⟩ rfl).ext ?_
    rintro _ _ _ ⟨_, _, _, ⟨rfl, rfl, rfl⟩, rfl, rfl, rfl⟩
    exact ⟨_, fun id => dead1 _ _ id, rfl, rfl, rfl⟩
  · rw [dskH_F hw]; exact nowF_ok d h
theorem lastsD_ok (d : Dsk) (h : Sm d.last) : RunC Tryd.prog 12 [.ptr 0 9 0 0] (dskH d) 2 (QE (treeAV d.last) (dskH d) 2) := by
  by_cases hw : d.waits = []
  · rw [dskH_E hw]
    refine ((lastsE_ok d h).emb [0] rfl rfl rfl ⟨rfl, trivial⟩ rfl).ext ?_
    rintro _ _ _ ⟨_, _, _, ⟨rfl, rfl, rfl⟩, rfl, rfl, rfl⟩
    exact ⟨_, fun id => dead1 _ _ id, rfl, rfl, rfl⟩
  · rw [dskH_F hw]; exact lastsF_ok d h
theorem offD_ok (d : Dsk) : RunC Tryd.prog 16 [.ptr 0 9 0 0] (dskH d) 2 (QE (.bool d.off) (dskH d) 2) := by
  by_cases hw : d.waits = []
  · rw [dskH_E hw]
    refine ((offE_ok d).emb [0] rfl rfl rfl ⟨rfl, trivial⟩ rfl).ext ?_
    rintro _ _ _ ⟨_, _, _, ⟨rfl, rfl, rfl⟩, rfl, rfl, rfl⟩
    exact ⟨_, fun id => dead1 _ _ id, rfl, rfl, rfl⟩
  · rw [dskH_F hw]; exact offF_ok d
theorem syncD_ok (d : Dsk) (ho : d.off = false) : RunC Tryd.prog 13 [.ptr 0 9 0 0] (dskH d) 2 (QE (.int .i64 0) (dskH (syncD d).1) 2) := by
  rw [dskH_E (d := (syncD d).1) (by simp [syncD, ho])]
  by_cases hw : d.waits = []
  · rw [dskH_E hw]
    have := syncE_ok d
    rw [ho, if_neg (by decide)] at this
    refine (this.emb [0] rfl rfl rfl ⟨rfl, trivial⟩ rfl).ext ?_
    rintro _ _ _ ⟨_, _, _, ⟨rfl, rfl, rfl⟩, rfl, rfl, rfl⟩
    exact ⟨_, fun id => dead1 _ _ id, rfl, rfl, rfl⟩
  · rw [dskH_F hw]
    have := syncF_ok d
    rw [ho, if_neg (by decide)] at this
    exact this
/-- What a Do leaves. -/
theorem doD_run (d : Dsk) (c : Chg) (h : Sm d.now) (hl : d.now.length < 2^30) (hc : c.Sm) (hs : Sm (doneT d.now c).1) (hn : d.waits.length ≤ 2^30) :
    RunC Tryd.prog 7 [.ptr 0 9 0 0, c.av] (dskH d) 2 (if (doD d c).2 ≠ 0 then QE (.int .i64 (doD d c).2) (dskH d) 2 else QE (.int .i64 0) [(0, .arr 9 [(doD d c).1.av (.ref 4 2 0 (d.waits.length + 1))]), (2, .arr 4 (chgs (d.waits ++ [c])))] 3) := by
  by_cases hw : d.waits = []
  · rw [dskH_E hw]
    have := doE_ok d c h hl hc hs hn hw
    by_cases h0 : (doD d c).2 ≠ 0
    · rw [if_pos h0] at this ⊢
      refine (this.emb [0] rfl rfl rfl ⟨rfl, trivial⟩ rfl).ext ?_
      rintro _ _ _ ⟨_, _, _, ⟨rfl, rfl, rfl⟩, rfl, rfl, rfl⟩
      exact ⟨_, fun id => dead1 _ _ id, rfl, rfl, rfl⟩
    · rw [if_neg h0] at this ⊢
      refine (this.emb [0] rfl rfl rfl ⟨rfl, trivial⟩ rfl).ext ?_
      rintro _ _ _ ⟨_, _, _, ⟨rfl, rfl, rfl⟩, rfl, rfl, rfl⟩
      refine ⟨_, fun id => dead2 _ _ _ id, rfl, ?_, rfl⟩
      show [(0, _), (2, Blk.arr 4 (AV.rens _ (chgs (d.waits ++ [c]))))] = _
      rw [AV.rens_nid _ _ (chgs_nids _)]
      rfl
  · rw [dskH_F hw]; exact doF_ok d c h hl hc hs hn
theorem crashD_run (d : Dsk) (keep : List Int) (torn : Int) (ho : d.off = false) (hkl : keep.length ≤ 2^40) (hn : d.waits.length ≤ 2^30) (hs : ∀ c ∈ d.waits, c.Sm) (hG : ∀ L c, goodT L = true → (doneT L c).2 = 0 → goodT (doneT L c).1 = true) (hl : goodT d.last = true) :
    RunC Tryd.prog 10 [.ptr 0 9 0 0, .sl 1 (ints keep), .int .i64 torn] (dskH d) 2 (QE (.tuple []) (dskH (crashD d keep torn)) 2) := by
  have hd : ({ d with off := false } : Dsk) = d := by cases d; simp at ho; subst ho; rfl
  rw [dskH_E (d := crashD d keep torn) (by simp [crashD, ho])]
  by_cases hw : d.waits = []
  · rw [dskH_E hw]
    have := crashE_ok d keep torn hkl hw
    rw [hd] at this
    refine (this.emb [0] rfl rfl rfl ⟨rfl, trivial⟩ rfl).ext ?_
    rintro _ _ _ ⟨_, _, _, ⟨rfl, rfl, rfl⟩, rfl, rfl, rfl⟩
    exact ⟨_, fun id => dead1 _ _ id, rfl, rfl, rfl⟩
  · rw [dskH_F hw]
    have := crashF_ok d keep torn hkl hn hs goodT_sm hG hl
    rw [hd] at this
    exact this
end Go.Proofs.YtikkobmghmphaaaDoor
namespace Go.Proofs.YtikkobmghmphaaaDoor
open Go Go.Av Go.Tm

set_option maxRecDepth 10000
def rng (n : Nat) : List Int := (List.range n).map fun (i : Nat) => (i : Int)
theorem rng_len (n : Nat) : (rng n).length = n := by simp [rng]
theorem rng_succ (n : Nat) : rng (n + 1) = rng n ++ [(n : Int)] := by simp [rng, List.range_succ]
theorem rng_mem {n i : Nat} (h : i < n) : (i : Int) ∈ rng n := by simp only [rng, List.mem_map, List.mem_range]; exact ⟨i, h, rfl⟩
theorem ints_nids (l : List Int) : AV.nids (ints l) = true := nids_map _ _ fun _ => rfl
theorem diskAll_ok (l : List Chg) (hl : l.length ≤ 2^20) (hs : ∀ c ∈ l, c.Sm) (hG : ∀ L c, goodT L = true → (doneT L c).2 = 0 → goodT (doneT L c).1 = true) : PureC Tryd.prog 3 [.sl 4 (chgs l)] (.bool true) := by
  refine PureC.of_c TIok Tryd.func3 rfl rfl rfl rfl ?_
  refine go_rg TTok 100 rfl ?_
  refine c_call (awake_ok goodT_sm hG) rfl rfl rfl rfl ct5 rfl rfl rfl rfl ?_
  refine go_st TTok 100 rfl ?_
  refine c_cond rfl (fun h1 => ?_) (fun h1 => ?_)
  · refine go_st TTok 100 rfl ?_
    exact c_ret ⟨_, rfl, rfl⟩
  have h1 : l.length ≤ 30 := by simp [chgs] at h1; omega
  refine go_rg TTok 100 rfl ?_
  refine c_run ((newD_ok [] 16384 sm0 rfl (by decide) (by decide)).args (.cons le_tree0 (.cons Le.rfl .nil))) [] rfl rfl rfl rfl ct6 rfl rfl rfl trivial rfl rfl rfl rfl rfl rfl rfl ?_
  refine go_rg TTok 100 rfl ?_
  refine c_op (op_eqnil rfl (TTok _ _ rfl).ok rfl rfl rfl rfl) rfl rfl rfl ?_
  refine go_st TTok 100 rfl ?_
  refine c_loopP (ι := Nat × Dsk) (fun x => x.1 ≤ l.length ∧ AI x.1 x.2) (fun x => [(0, .sl 4 (chgs l)), (3, .ptr 0 9 0 0), (5, .nilsl), (6, .int .i64 (x.1 : Nat))]) (fun x => dskH x.2) 2 (fun x => l.length - x.1) (0, dA) ⟨Nat.zero_le _, AI.init⟩ [0, 1]
    ⟨rfl, rfl, rfl, ⟨rfl, rfl, rfl, rfl, trivial⟩, by rw [show dskH ((0, dA) : Nat × Dsk).2 = _ from dskH_E rfl]; exact ⟨rfl, trivial⟩⟩ ?_
  rintro ⟨k, d⟩ ⟨hk, hI⟩
  dsimp only at hk hI
  by_cases hw : d.waits = []
  · rw [show dskH (k, d).2 = _ from dskH_E hw]
    refine go_st TTok 100 rfl ?_
    refine c_cond rfl (fun hc => ?_) (fun hc => ?_)
    rotate_left
    · refine go_rg TTok 100 rfl ?_
      have hsn := (goodT_sm _ hI.good).1
      have hsame : sameT d.now d.now = true := by simp [sameT, hI.good]
      have hd : ({ d with off := false } : Dsk) = d := by have := hI.off; cases d; simp at this; subst this; rfl
      refine c_run (nowE_ok d hsn) [0] rfl rfl rfl rfl ct8 rfl rfl rfl ⟨rfl, trivial⟩ rfl rfl rfl rfl rfl rfl rfl ?_
      refine go_st TTok 100 rfl ?_
      refine c_freezeS 2 [(7, .fp [.sl 3 (ents d.now)])] rfl rfl ⟨⟨_, rfl, rfl⟩, trivial⟩ ?_
      refine c_loop (ι := Unit) (fun _ => [(3, .ptr 0 9 0 0), (5, .nilsl), (7, .fp [.sl 3 (ents d.now)]), (8, .int .i64 0)]) (fun _ => [(0, .arr 9 [d.av .nilsl])]) 3 (fun _ => 0) () [0, 1, 2] ⟨rfl, rfl, rfl, ⟨rfl, rfl, rfl, rfl, trivial⟩, ⟨rfl, trivial⟩⟩ ?_
      intro _
      refine go_rg TTok 100 rfl ?_
      refine c_run (waitsE_ok d) [0] rfl rfl rfl rfl ct9 rfl rfl rfl ⟨rfl, trivial⟩ rfl rfl rfl rfl rfl rfl rfl ?_
      refine go_st TTok 100 rfl ?_
      refine c_condF rfl (by decide) ?_
      refine go_rg TTok 100 rfl ?_
      obtain ⟨d3, hd3⟩ : ∃ d3 : Dsk, d3 = ⟨d.quota, d.now, d.now, [], true, d.count⟩ := ⟨_, rfl⟩
      have hcr := crashE_ok d [] (-1) (by decide) hw
      rw [hd, show crashD d [] (-1) = d3 from by rw [hd3, crashD, if_neg (by rw [hI.off]; decide), hI.last, hI.rep [] (fun i hi => by rw [hw] at hi; simp at hi)]] at hcr
      subst hd3
      refine c_run (hcr.args (.cons Le.rfl (.cons (le_nilsl 1) (.cons Le.rfl .nil)))) [0] rfl rfl rfl rfl ct10 rfl rfl rfl ⟨rfl, trivial⟩ rfl rfl rfl rfl rfl rfl rfl ?_
      refine go_st TTok 100 rfl ?_
      refine c_dgo TTok mixed rfl rfl rfl rfl ?_
      refine f_rn (nowE_ok ⟨d.quota, d.now, d.now, [], true, d.count⟩ hsn) [0] rfl rfl rfl rfl ct8 rfl rfl rfl ⟨rfl, trivial⟩ rfl rfl rfl rfl rfl rfl rfl rfl rfl ?_
      refine f_go TTok rfl ?_
      refine f_call ((same_ok _ _ hsn hsn).le (le_sb hsame)) rfl rfl rfl rfl ct11 rfl rfl rfl ?_
      refine f_go TTok rfl ?_
      refine f_rn (lastsE_ok ⟨d.quota, d.now, d.now, [], true, d.count⟩ hsn) [0] rfl rfl rfl rfl ct12 rfl rfl rfl ⟨rfl, trivial⟩ rfl rfl rfl rfl rfl rfl rfl rfl rfl ?_
      refine f_go TTok rfl ?_
      refine f_call ((same_ok _ _ hsn hsn).le (le_sb hsame)) rfl rfl rfl rfl ct11 rfl rfl rfl ?_
      refine f_go TTok rfl ?_
      refine f_end ?_
      refine go_st TTok 100 rfl ?_
      exact c_ret ⟨_, rfl, rfl⟩
    have hk : k < l.length := by simp [chgs] at hc; omega
    have hw1 : IntKind.i64.wrap ((k : Nat) + 1 : Int) = ((k + 1 : Nat) : Int) := by rw [IntWalk.i64_in _ ⟨by omega, by omega⟩]; omega
    have hcS := hs _ (List.getElem_mem hk)
    have hAI := hI.step hG hcS
    refine go_rg TTok 100 rfl ?_
    refine c_op (op_indexAddr_sl (a := ((k : Nat) : Int)) rfl (TTok _ _ rfl).ok rfl (TTok _ _ rfl).ok rfl rfl rfl (by omega) (by rw [chgs_len]; omega) (chgs_get l (by simpa using hk))) rfl rfl rfl ?_
    refine go_st TTok 100 rfl ?_
    refine c_cond rfl (fun h2 => ?_) (fun h2 => ?_)
    · refine go_st TTok 100 rfl ?_
      exact c_ret ⟨_, rfl, rfl⟩
    refine go_rg TTok 100 rfl ?_
    refine c_op (op_indexAddr_sl (a := ((k : Nat) : Int)) rfl (TTok _ _ rfl).ok rfl (TTok _ _ rfl).ok rfl rfl rfl (by omega) (by rw [chgs_len]; omega) (chgs_get l (by simpa using hk))) rfl rfl rfl ?_
    refine go_rg TTok 100 rfl ?_
    have hdo := doE_ok d l[k] (goodT_sm _ hI.good).1 (by have := (goodT_sm _ hI.good).2; omega) hcS (done_sm hG _ hI.good) (by have := hI.wl; omega) hw
    by_cases h0 : (doD d l[k]).2 ≠ 0
    · rw [if_pos h0] at hdo
      refine c_run hdo [0] rfl rfl rfl rfl ct7 rfl rfl rfl ⟨rfl, trivial⟩ rfl rfl rfl rfl rfl rfl rfl ?_
      refine go_st TTok 100 rfl ?_
      refine c_inv ⟨(k + 1, (doD d l[k]).1), [0, 1], ⟨hk, hAI⟩, by show l.length - (k + 1) < l.length - k; omega, rfl, rfl, rfl, ⟨rfl, rfl, rfl, congrArg (fun x => some (AV.int .i64 x)) hw1, trivial⟩, ?_⟩
      rw [show dskH (k + 1, (doD d l[k]).1).2 = dskH d from congrArg dskH (doD_fail h0), dskH_E hw]
      exact ⟨rfl, trivial⟩
    · rw [if_neg h0] at hdo
      have h0 : (doD d l[k]).2 = 0 := by omega
      have hwt := doD_ok h0
      refine c_run hdo [0] rfl rfl rfl rfl ct7 rfl rfl rfl ⟨rfl, trivial⟩ rfl rfl rfl rfl rfl rfl rfl ?_
      refine go_st TTok 100 rfl ?_
      refine c_inv ⟨(k + 1, (doD d l[k]).1), [0, 2], ⟨hk, hAI⟩, by show l.length - (k + 1) < l.length - k; omega, rfl, rfl, rfl, ⟨rfl, rfl, rfl, congrArg (fun x => some (AV.int .i64 x)) hw1, trivial⟩, ?_⟩
      rw [show dskH (k + 1, (doD d l[k]).1).2 = _ from dskH_F (by rw [hwt]; simp), hwt]
      refine ⟨?_, emb_arr rfl rfl (AV.rens_nid _ _ (chgs_nids _)) (chgs_nids _) trivial⟩
      rw [List.length_append]; rfl
  · rw [show dskH (k, d).2 = _ from dskH_F hw]
    refine go_st TTok 100 rfl ?_
    refine c_cond rfl (fun hc => ?_) (fun hc => ?_)
    rotate_left
    · refine go_rg TTok 100 rfl ?_
      have hsn := (goodT_sm _ hI.good).1
      have hsame : sameT d.now d.now = true := by simp [sameT, hI.good]
      have hd : ({ d with off := false } : Dsk) = d := by have := hI.off; cases d; simp at this; subst this; rfl
      refine c_run (nowF_ok d hsn) [0, 1] rfl rfl rfl rfl ct8 rfl rfl rfl ⟨rfl, emb_arr rfl rfl rfl (chgs_nids _) trivial⟩ rfl rfl rfl rfl rfl (backH_F _ _ _ _) rfl ?_
      refine go_st TTok 100 rfl ?_
      refine c_freezeS 2 [(7, .fp [.sl 3 (ents d.now)])] rfl rfl ⟨⟨_, rfl, rfl⟩, trivial⟩ ?_
      refine c_ownS 1 (t := 5) rfl ?_
      have hn := hI.wl
      refine c_loopP (ι := Nat) (fun i => i ≤ d.waits.length) (fun i => [(3, .ptr 0 9 0 0), (5, .ref 1 3 0 i), (7, .fp [.sl 3 (ents d.now)]), (8, .int .i64 (i : Nat))]) (fun i => [(0, .arr 9 [d.av (.ref 4 1 0 d.waits.length)]), (1, .arr 4 (chgs d.waits)), (3, .arr 1 (ints (rng i)))]) 4 (fun i => d.waits.length - i) 0 (Nat.zero_le _) [0, 1, 2, 3]
        ⟨rfl, rfl, rfl, ⟨rfl, rfl, rfl, rfl, trivial⟩, ⟨rfl, emb_arr rfl rfl rfl (chgs_nids _) (emb_arr rfl rfl rfl rfl trivial)⟩⟩ ?_
      intro i hi
      refine go_rg TTok 100 rfl ?_
      refine c_run (waitsF_ok d (by omega) hI.ws) [0, 1] rfl rfl rfl rfl ct9 rfl rfl rfl ⟨rfl, emb_arr rfl rfl rfl (chgs_nids _) trivial⟩ rfl rfl rfl rfl rfl (backH_F _ _ _ _) rfl ?_
      refine go_st TTok 100 rfl ?_
      refine c_cond rfl (fun hc2 => ?_) (fun hc2 => ?_)
      · have hi2 : i < d.waits.length := by simp [chgs] at hc2; omega
        have hw2 : IntKind.i64.wrap ((i : Nat) + 1 : Int) = ((i + 1 : Nat) : Int) := by rw [IntWalk.i64_in _ ⟨by omega, by omega⟩]; omega
        refine go_rg TTok 100 rfl ?_
        refine c_op ((al_buildSlice (vals := [.int .i64 (i : Nat)]) TIok rfl rfl rfl rfl rfl rfl rfl rfl rfl).opS) rfl rfl rfl ?_
        refine go_rg TTok 100 rfl ?_
        refine c_op (op_append (els := ints (rng i)) (l2 := [.int .i64 (i : Nat)]) rfl rfl rfl rfl (TTok _ _ rfl).ok rfl (TTok _ _ rfl).ok (TTok _ _ rfl).ok rfl rfl rfl rfl (by rw [ints_len, rng_len]; omega) rfl rfl (by decide) ?_) rfl rfl rfl ?_
        · show (i + 1) * 8 ≤ _
          omega
        refine go_st TTok 100 rfl ?_
        refine c_inv ⟨i + 1, [0, 1, 2, 5], hi2, by show d.waits.length - (i + 1) < d.waits.length - i; omega, rfl, rfl, rfl, ⟨rfl, rfl, rfl, congrArg (fun x => some (AV.int .i64 x)) hw2, trivial⟩, ⟨rfl, emb_arr rfl rfl rfl (chgs_nids _) (emb_arr rfl rfl ?_ (ints_nids _) trivial)⟩⟩
        show ints (rng i) ++ [.int .i64 (i : Nat)] = ints (rng (i + 1))
        rw [rng_succ, ints, ints, List.map_append]; rfl
      have hi2 : i = d.waits.length := by simp [chgs] at hc2; omega
      subst hi2
      refine c_freezeS 3 [(5, .sl 1 (ints (rng d.waits.length)))] rfl (ints_nids _) ⟨⟨_, rfl, snap_ref rfl (by rw [ints_len, rng_len]; omega) (by rw [List.drop_zero, List.take_of_length_le (by rw [ints_len, rng_len]; exact Nat.le_refl _)])⟩, trivial⟩ ?_
      refine go_rg TTok 100 rfl ?_
      have hcr := crashF_ok d (rng d.waits.length) (-1) (by rw [rng_len]; omega) (by omega) hI.ws goodT_sm hG (by rw [hI.last]; rfl)
      rw [hd, show crashD d (rng d.waits.length) (-1) = ⟨d.quota, d.now, d.now, [], true, d.count⟩ from by rw [crashD, if_neg (by rw [hI.off]; decide), hI.last, hI.rep _ (fun i hi => rng_mem hi)]] at hcr
      refine c_run (hcr) [0, 1] rfl rfl rfl rfl ct10 rfl rfl rfl ⟨rfl, emb_arr rfl rfl rfl (chgs_nids _) trivial⟩ rfl rfl rfl rfl rfl rfl rfl ?_
      refine go_st TTok 100 rfl ?_
      refine c_dgo TTok mixed rfl rfl rfl rfl ?_
      refine f_rn (nowE_ok ⟨d.quota, d.now, d.now, [], true, d.count⟩ hsn) [0] rfl rfl rfl rfl ct8 rfl rfl rfl ⟨rfl, trivial⟩ rfl rfl rfl rfl rfl rfl rfl rfl rfl ?_
      refine f_go TTok rfl ?_
      refine f_call ((same_ok _ _ hsn hsn).le (le_sb hsame)) rfl rfl rfl rfl ct11 rfl rfl rfl ?_
      refine f_go TTok rfl ?_
      refine f_rn (lastsE_ok ⟨d.quota, d.now, d.now, [], true, d.count⟩ hsn) [0] rfl rfl rfl rfl ct12 rfl rfl rfl ⟨rfl, trivial⟩ rfl rfl rfl rfl rfl rfl rfl rfl rfl ?_
      refine f_go TTok rfl ?_
      refine f_call ((same_ok _ _ hsn hsn).le (le_sb hsame)) rfl rfl rfl rfl ct11 rfl rfl rfl ?_
      refine f_go TTok rfl ?_
      refine f_end ?_
      refine go_st TTok 100 rfl ?_
      exact c_ret ⟨_, rfl, rfl⟩
    have hk : k < l.length := by simp [chgs] at hc; omega
    have hw1 : IntKind.i64.wrap ((k : Nat) + 1 : Int) = ((k + 1 : Nat) : Int) := by rw [IntWalk.i64_in _ ⟨by omega, by omega⟩]; omega
    have hcS := hs _ (List.getElem_mem hk)
    have hAI := hI.step hG hcS
    refine go_rg TTok 100 rfl ?_
    refine c_op (op_indexAddr_sl (a := ((k : Nat) : Int)) rfl (TTok _ _ rfl).ok rfl (TTok _ _ rfl).ok rfl rfl rfl (by omega) (by rw [chgs_len]; omega) (chgs_get l (by simpa using hk))) rfl rfl rfl ?_
    refine go_st TTok 100 rfl ?_
    refine c_cond rfl (fun h2 => ?_) (fun h2 => ?_)
    · refine go_st TTok 100 rfl ?_
      exact c_ret ⟨_, rfl, rfl⟩
    refine go_rg TTok 100 rfl ?_
    refine c_op (op_indexAddr_sl (a := ((k : Nat) : Int)) rfl (TTok _ _ rfl).ok rfl (TTok _ _ rfl).ok rfl rfl rfl (by omega) (by rw [chgs_len]; omega) (chgs_get l (by simpa using hk))) rfl rfl rfl ?_
    refine go_rg TTok 100 rfl ?_
    have hdo := doF_ok d l[k] (goodT_sm _ hI.good).1 (by have := (goodT_sm _ hI.good).2; omega) hcS (done_sm hG _ hI.good) (by have := hI.wl; omega)
    by_cases h0 : (doD d l[k]).2 ≠ 0
    · rw [if_pos h0] at hdo
      refine c_run hdo [0, 1] rfl rfl rfl rfl ct7 rfl rfl rfl ⟨rfl, emb_arr rfl rfl rfl (chgs_nids _) trivial⟩ rfl rfl rfl rfl rfl (backH_F _ _ _ _) rfl ?_
      refine go_st TTok 100 rfl ?_
      refine c_inv ⟨(k + 1, (doD d l[k]).1), [0, 1], ⟨hk, hAI⟩, by show l.length - (k + 1) < l.length - k; omega, rfl, rfl, rfl, ⟨rfl, rfl, rfl, congrArg (fun x => some (AV.int .i64 x)) hw1, trivial⟩, ?_⟩
      rw [show dskH (k + 1, (doD d l[k]).1).2 = dskH d from congrArg dskH (doD_fail h0), dskH_F hw]
      exact ⟨rfl, emb_arr rfl rfl rfl (chgs_nids _) trivial⟩
    · rw [if_neg h0] at hdo
      have h0 : (doD d l[k]).2 = 0 := by omega
      have hwt := doD_ok h0
      refine c_run hdo [0, 1] rfl rfl rfl rfl ct7 rfl rfl rfl ⟨rfl, emb_arr rfl rfl rfl (chgs_nids _) trivial⟩ rfl rfl rfl rfl rfl rfl rfl ?_
      refine go_st TTok 100 rfl ?_
      refine c_inv ⟨(k + 1, (doD d l[k]).1), [0, 2], ⟨hk, hAI⟩, by show l.length - (k + 1) < l.length - k; omega, rfl, rfl, rfl, ⟨rfl, rfl, rfl, congrArg (fun x => some (AV.int .i64 x)) hw1, trivial⟩, ?_⟩
      rw [show dskH (k + 1, (doD d l[k]).1).2 = _ from dskH_F (by rw [hwt]; simp), hwt]
      refine ⟨?_, emb_arr rfl rfl (AV.rens_nid _ _ (chgs_nids _)) (chgs_nids _) trivial⟩
      rw [List.length_append]; rfl
end Go.Proofs.YtikkobmghmphaaaDoor
namespace Go.Proofs.YtikkobmghmphaaaDoor
open Go Go.Av Go.Tm Go.ChangeShapes Go.WideShapes Go.ChangeAt Go.RowKit

set_option maxRecDepth 100000
theorem c3 : Tryd.prog.cellsOf 3 = 1 := by kernel_rfl
theorem c5 : Tryd.prog.cellsOf 5 = 1 := by kernel_rfl
theorem c9 : Tryd.prog.cellsOf 9 = 1 := by kernel_rfl
theorem c32 : Tryd.prog.cellsOf 32 = 1 := by kernel_rfl
theorem c34 : Tryd.prog.cellsOf 34 = 4 := by kernel_rfl
theorem c22 : Tryd.prog.cellsOf 22 = 1 := by kernel_rfl
theorem lof : laidOutB Tryd.prog = true := by kernel_rfl
theorem sum_ones : ∀ l : List UInt8, (l.map fun _ => 1).sum = l.length
  | [] => rfl
  | _ :: l => by simp only [List.map_cons, List.sum_cons, List.length_cons, sum_ones l]; omega
noncomputable def rdB : Rd Tryd.prog 32 (List UInt8) :=
  (rdSlice Tryd.underlying32 c32 (rdByte Tryd.underlying5 c5) (Nat.le_refl 1)).map id (fun l => [byt l]) (fun l => l.length) (fun _ => rfl) (fun _ => rfl) (fun a => by
    have h := sum_ones a
    show a.length ≤ (a.map fun _ => 1).sum + 1
    omega)
noncomputable def rdChg : Rd Tryd.prog 34 Chg :=
  (rdStruct Tryd.underlying34 (.cons (rdInt Tryd.underlying3 c3) rfl (.cons (rdStr Tryd.underlying9 c9) rfl (.cons (rdStr Tryd.underlying9 c9) rfl (.cons rdB rfl .nil rfl) rfl) rfl) rfl) c34).map
    (fun p => ⟨p.1.1, p.2.1, p.2.2.1, p.2.2.2.1⟩) (fun c => [.int .i64 c.op, .str c.path, .str c.to, byt c.b]) (fun c => 1 + c.path.length + c.to.length + c.b.length) (fun _ => rfl) (fun _ => rfl) (fun a => by
    show 1 + a.2.1.length + a.2.2.1.length + a.2.2.2.1.length ≤ 1 + ((a.2.1.length + 1) + ((a.2.2.1.length + 1) + (a.2.2.2.1.length + 0)))
    omega)
noncomputable def rdChgs : Rd Tryd.prog 22 (List Chg) :=
  (rdSlice Tryd.underlying22 c22 rdChg (by decide)).map id (fun l => [.sl 4 (chgs l)]) (fun l => (l.map fun c => 1 + c.path.length + c.to.length + c.b.length).sum) (fun _ => rfl) (fun _ => rfl) (fun a => by
    show _ ≤ (a.map fun c => 1 + c.path.length + c.to.length + c.b.length).sum + 1
    exact Nat.le_succ _)
theorem chg_small {l : List Chg} {n : Nat} (h : (l.map fun c => 1 + c.path.length + c.to.length + c.b.length).sum ≤ n) : l.length ≤ n ∧ ∀ c ∈ l, 1 + c.path.length + c.to.length + c.b.length ≤ n := by
  induction l generalizing n with
  | nil => exact ⟨Nat.zero_le _, fun c hc => by cases hc⟩
  | cons a l ih =>
    simp only [List.map_cons, List.sum_cons] at h
    obtain ⟨h1, h2⟩ := ih (n := n - (1 + a.path.length + a.to.length + a.b.length)) (by omega)
    refine ⟨by simp only [List.length_cons]; omega, fun c hc => ?_⟩
    rcases List.mem_cons.1 hc with rfl | hc
    · omega
    · have := h2 c hc; omega
theorem chgs_sm {l : List Chg} {n : Nat} (h : (l.map fun c => 1 + c.path.length + c.to.length + c.b.length).sum ≤ n) (hn : n ≤ 1048576) : l.length ≤ 2^20 ∧ ∀ c ∈ l, c.Sm := by
  obtain ⟨h1, h2⟩ := chg_small h
  exact ⟨by omega, fun c hc => by have := h2 c hc; exact ⟨by omega, by omega, by omega⟩⟩

/-- WHAT THE WALK GIVES. -/
theorem contractAll (H : Type) (enc : TypeId × Value → H) (W : World) (args : Array Value) (ds gs : List (DataW H)) (before : List MemPlace) (base : Nat)
    (hval : ∀ (j : Nat) t v, Tryd.f3.params[j]? = some t → args[j]? = some v → Value.okWide Tryd.prog W .any base t v)
    (hW : DataW.Whole enc Tryd.prog Tryd.f3.params.toList Rows.diskAllSpec.vars false W args.toList ds gs before) (hk : Rows.uptoSmall H (ds ++ gs) = true) :
    Calls Tryd.prog 3 args W fun e W' => ∃ v, e = .returned v ∧ Rows.diskAllSpec.post enc Tryd.prog Tryd.f3 false true false false W args v W' := by
  have hW' := hW
  obtain ⟨p, q, hA0, hV, rfl, hfz, hnd⟩ := hW
  have hA : DataW.TrodAll enc Tryd.prog W 0 (fun _ => true) true Tryd.f3.params.toList args.toList ds p := hA0
  rw [Tryd.params3] at hA
  obtain ⟨v0, vs0, d0, ds0, p0, q0, hargs, rfl, rfl, h0, r0⟩ := trodAll_cons hA
  obtain ⟨rfl, rfl, rfl⟩ := trodAll_nil r0
  obtain rfl : args = #[v0] := by cases args; simp_all
  obtain ⟨rfl, rfl⟩ := trodVars_none hV
  clear hA0
  have hsm := small_le hk
  simp only [List.append_nil, blks, Nat.add_zero] at hsm
  obtain ⟨n0, hn0⟩ := h0
  obtain ⟨l, g1, _, g3⟩ := rdChgs.sound hn0
  have g3 : (l.map fun c => 1 + c.path.length + c.to.length + c.b.length).sum ≤ blk d0 := g3
  obtain ⟨k1, k2⟩ := chgs_sm g3 hsm
  obtain ⟨sa, sl, sc, rfl⟩ := okWide_slice Tryd.underlying22 (hval 0 _ v0 (by rw [Tryd.params3]; rfl) rfl)
  refine (diskAll_ok l k1 k2 goodT_done W (fun _ => False) [.slice sa sl sc] (fun _ h => h.elim) g1).mono ?_
  rintro e W' ⟨v, rfl, hP, hv⟩
  exact ⟨v, rfl, post_of_pres (tb := 4) rfl rfl rfl Tryd.underlying4 hv lof (fun t ht => by
    rw [Tryd.params3] at ht
    obtain rfl : t = 22 := by simpa using ht
    exact ⟨by kernel_rfl, of_decide_eq_true (by kernel_rfl)⟩) hW' hP⟩
end Go.Proofs.YtikkobmghmphaaaDoor
namespace Go.Proofs.YtikkobmghmphaaaDoor
open Go Go.Av Go.Tm Go.ChangeShapes Go.WideShapes Go.ChangeAt Go.RowKit
theorem own : ownKnob Tryd.prog.godebug = none := by kernel_rfl
def bytesV (l : List Nat) : Array Value := (l.map fun (n : Nat) => Value.int .u8 (n : Int)).toArray
def accZ : List Nat := [128, 191, 160, 191, 128, 159, 144, 191, 128, 143, 0, 0, 0, 0, 0, 0, 0, 0, 0, 0, 0, 0, 0, 0, 0, 0, 0, 0, 0, 0, 0, 0]
/-- A WORLD FOR THE WITNESS: the settled one, the two tables holding what their texts lay. -/
noncomputable def laidWorld (os : Os) : World :=
  { World.holding Tryd.prog os ⟨#[], #[], []⟩ with heap := (((World.holding Tryd.prog os ⟨#[], #[], []⟩).heap.modify 1 (fun o => match o with
      | .cells _ t frozen => .cells (bytesV Pinned.utf8FirstZ) t frozen
      | o => o)).modify 2 (fun o => match o with
      | .cells _ t frozen => .cells (bytesV accZ) t frozen
      | o => o)) }
theorem laid_met (os : Os) (args : Array Value) : laidMet Tryd.prog Rows.diskAllRow.laid ((laidWorld os).forCall (fun _ _ => 0) ⟨#[], args, []⟩).memory :=
  laidMet_of_run' 8 (by kernel_rfl) (by kernel_rfl)
theorem readsAll (os : Os) {H : Type} (enc : TypeId × Value → H) : ∃ places, DataW.whole enc Tryd.prog ((laidWorld os).forCall (fun _ _ => 0) ⟨#[], #[.slice none 0 0], []⟩).memory Tryd.f3.params.toList Rows.diskAllSpec.vars false #[Value.slice none 0 0].toList 8 = some ([.nil], [], places) :=
  ⟨[], by kernel_rfl⟩
set_option maxRecDepth 100000 in
theorem liftedAll (os : Os) (started : os.Started) (H : Type) (enc : TypeId × Value → H) (F : Stop.Interp) :
    ReturnsInHanded {} Tryd.checked os 3 .any ((Rows.OpenSpec.upto Rows.diskAllSpec).preRow enc Tryd.prog Tryd.f3 Rows.diskAllUptoRow.domain false Rows.diskAllUptoRow.laid) (((Rows.OpenSpec.upto Rows.diskAllSpec).at F).post enc Tryd.prog Tryd.f3 false true false false) := by
  obtain ⟨places, hx⟩ := readsAll os enc
  refine returnsInHanded_of_row (C := Tryd.checked) (s := Rows.OpenSpec.upto Rows.diskAllSpec) own started (by kernel_rfl) Tryd.func3
    (witness_row_at (enc := enc) (C := Tryd.checked) false (laidWorld os) #[.slice none 0 0] rfl (by kernel_rfl) (by kernel_rfl) (by kernel_rfl)
      (OpenSpec.preRow_of_cond 8 hx (by kernel_rfl) (fun k hk => by cases hk; kernel_rfl) (by kernel_rfl) (laid_met os _))) ?_
  intro W base args ds gs before hval hW _ hcond _ hL _ _
  exact contractAll H enc W args ds gs before base hval hW (hcond _ rfl)
theorem saidUptoAll : Rows.DiskAllUptoSaid :=
  OpenClaim.holds_of_cond 3 Tryd.f3 rfl rfl rfl rfl rfl rfl rfl ⟨rfl, rfl, rfl, rfl, rfl⟩ rfl rfl rfl rfl rfl (by kernel_rfl) Tryd.func3 (by kernel_rfl)
    (of_decide_eq_true (by kernel_rfl)) (by unfold Func.isWrapper; first | (rw [if_pos (by decide +kernel)]; kernel_rfl) | (rw [if_neg (by decide +kernel)]; exact ⟨rfl, rfl⟩))
    (fun os started H enc _ F => by rw [OpenClaim.pre_eq_preRow]; exact liftedAll os started H enc F)
theorem plainAll (f : FuncId) (fn : Func) (hf : Tryd.pinned.checked.prog.funcNamed "tallyman/tallymanlaw9.DiskAll" = some f) (hfn : Tryd.pinned.checked.prog.funcs[f]? = some fn) :
    false = Tryd.pinned.checked.prog.looks [] ∧ ∀ (j : Nat) t, fn.params[j]? = some t → Tryd.pinned.checked.prog.wantsStandIn t = false := by
  obtain rfl : f = 3 := Option.some.inj ((show Tryd.prog.funcNamed "tallyman/tallymanlaw9.DiskAll" = some 3 by kernel_rfl).symm.trans hf) |>.symm
  obtain rfl : fn = Tryd.f3 := (Option.some.inj (Tryd.func3.symm.trans hfn)).symm
  refine ⟨by kernel_rfl, fun j t ht => ?_⟩
  rw [Tryd.params3] at ht
  obtain rfl : t = 22 := by simpa using Array.mem_of_getElem? ht
  exact (show Tryd.prog.wantsStandIn 22 = false by kernel_rfl)
/-- THE CARD. -/
theorem diskAll_card : Rows.DiskAllUptoCardSaid :=
  Claim7.holds_tied_plain_at .later [] _ _ _ _ saidUptoAll (fun _ h => by cases h) (by kernel_rfl) (fun _ h => by cases h) diskAllUpto_row_tie rfl ⟨rfl, rfl⟩ (by kernel_rfl) rfl plainAll (by kernel_rfl)
end Go.Proofs.YtikkobmghmphaaaDoor
