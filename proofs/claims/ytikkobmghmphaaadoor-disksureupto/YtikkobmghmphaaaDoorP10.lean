/- Part 10 of the proof: what functions of this program compute. -/
import Derived.Test.YtikkobmghmphaaaDoorP09
namespace Go.Proofs.YtikkobmghmphaaaDoor
open Go Go.Av Go.Tm

set_option maxRecDepth 10000
theorem trim_ok (s : List UInt8) (hs : s.length ≤ 2^40) : PureC Tryd.prog 54 [.str s, .str letters] (.str ((dropR (fun c => inS letters c.toNat) s).dropWhile fun c => inS letters c.toNat)) := by
  refine PureC.of_c TIok Tryd.func54 rfl rfl rfl rfl ?_
  refine go_rg TTok 100 rfl ?_
  refine c_split 9 rfl (fun h => ?_) (fun h => ?_)
  · have h : s = [] := by simpa using h
    subst h
    refine go_st TTok 100 rfl ?_
    exact c_ret ⟨_, rfl, rfl⟩
  refine go_st TTok 100 rfl ?_
  refine c_condF rfl rfl ?_
  refine go_rg TTok 100 rfl ?_
  refine c_known 17 false rfl rfl ?_
  refine go_rg TTok 100 rfl ?_
  refine c_call (makeSet_ok letters (by decide) (by decide)) rfl rfl rfl rfl ct65 rfl rfl rfl rfl ?_
  refine go_rg TTok 100 rfl ?_
  refine c_op (op_alloc rfl tok95) rfl rfl rfl ?_
  refine c_op0 (op_store (e' := .agg (setF (inS letters))) rfl tok95 rfl rfl rfl rfl ?_ rfl rfl ?_) rfl rfl ?_
  · show Nat.beq (setF _).length 256 = true
    rw [setF_len]; rfl
  · show stA (.agg (setF _)) 0 _ = _
    simp [stA, AV.isAgg, setF_len]
  refine go_rg TTok 100 rfl ?_
  refine c_callS (as' := [.str s, .fp (setF (inS letters))]) (trimR_ok (inS letters) s hs) rfl rfl rfl rfl ct67 rfl ?_ rfl rfl rfl rfl ?_ ?_
  · simp [closedL, AV.nids, AV.nid, setF_nids, List.set, ti95]
  · simp [AV.nids, AV.nid, setF_nids]
  have hl : (dropR (fun c => inS letters c.toNat) s).length ≤ 2^40 := by
    have h1 : (s.reverse.dropWhile fun c => inS letters c.toNat).length ≤ s.reverse.length := (List.dropWhile_sublist _).length_le
    simp only [dropR, List.length_reverse] at *
    omega
  refine c_callS (as' := [.str (dropR (fun c => inS letters c.toNat) s), .fp (setF (inS letters))]) (trimL_ok (inS letters) _ hl) rfl rfl rfl rfl ct66 rfl ?_ rfl rfl rfl rfl ?_ ?_
  · simp [closedL, AV.nids, AV.nid, setF_nids, List.set, ti95]
  · simp [AV.nids, AV.nid, setF_nids]
  refine go_st TTok 100 rfl ?_
  exact c_ret ⟨_, rfl, rfl⟩

theorem goodName_ok (s : List UInt8) (hs : s.length ≤ 2^40) : PureC Tryd.prog 44 [.str s] (.sb (goodName s)) := by
  refine PureC.of_le TIok Tryd.func44 rfl rfl rfl rfl ?_
  refine go_rg TTok 100 rfl ?_
  refine c_split 5 rfl (fun h1 => ?_) (fun h1 => ?_)
  rotate_left
  · refine go_st TTok 100 rfl ?_
    exact c_ret ⟨_, rfl, le_bs (by simp only [goodName, h1, Bool.false_and])⟩
  refine go_rg TTok 100 rfl ?_
  refine c_split 10 rfl (fun h2 => ?_) (fun h2 => ?_)
  rotate_left
  · refine go_st TTok 100 rfl ?_
    exact c_ret ⟨_, rfl, le_bs (by simp only [goodName, h1, h2, Bool.false_and, Bool.true_and])⟩
  refine go_rg TTok 100 rfl ?_
  refine c_split 14 rfl (fun h3 => ?_) (fun h3 => ?_)
  rotate_left
  · refine go_st TTok 100 rfl ?_
    exact c_ret ⟨_, rfl, le_bs (by simp only [goodName, h1, h2, h3, Bool.false_and, Bool.true_and])⟩
  refine go_rg TTok 100 rfl ?_
  refine c_split 18 rfl (fun h4 => ?_) (fun h4 => ?_)
  rotate_left
  · refine go_st TTok 100 rfl ?_
    exact c_ret ⟨_, rfl, le_bs (by simp only [goodName, h1, h2, h3, h4, Bool.false_and, Bool.true_and])⟩
  refine go_rg TTok 100 rfl ?_
  refine c_call (trim_ok s hs) rfl rfl rfl rfl ct54 rfl rfl rfl rfl ?_
  refine go_st TTok 100 rfl ?_
  refine c_ret ⟨_, rfl, le_eq (congrArg AV.sb ?_)⟩
  rw [trim_nil]
  simp only [goodName, h1, h2, h3, h4, Bool.true_and]

theorem good1_ok (s : List UInt8) (hs : s.length ≤ 2^40) : PureC Tryd.prog 43 [.str s] (.sb (!goodName s)) := by
  refine PureC.of_c TIok Tryd.func43 rfl rfl rfl rfl ?_
  refine go_rg TTok 100 rfl ?_
  refine c_call (goodName_ok s hs) rfl rfl rfl rfl ct44 rfl rfl rfl rfl ?_
  refine go_st TTok 100 rfl ?_
  exact c_ret ⟨_, rfl, rfl⟩

def idxF (p : List UInt8 → Bool) : List (List UInt8) → Nat → Int
  | [], _ => -1
  | a :: l, k => if p a then k else idxF p l (k + 1)
theorem idxF_any (p : List UInt8 → Bool) : ∀ l k, decide (idxF p l k ≥ 0) = l.any p
  | [], k => by simp [idxF]
  | a :: l, k => by
    rw [idxF]
    split
    · rename_i h; simp [h]
    · rename_i h; rw [idxF_any p l (k + 1)]; simp [h]

theorem indexF_ok (f : FuncId) (p : List UInt8 → Bool) (A : List (List UInt8)) (hA : A.length ≤ 2^40) (hf : CallsTo Tryd.prog f f) (hp : ∀ s ∈ A, PureC Tryd.prog f [.str s] (.sb (p s))) :
    PureC Tryd.prog 53 [.sl 1 (strs A), .func (.func f) [] []] (.int .i64 (idxF p A 0)) := by
  refine PureC.of_c TIok Tryd.func53 rfl rfl rfl rfl ?_
  refine go_st TTok 100 rfl ?_
  have hlA : (strs A).length = A.length := by simp [strs]
  refine c_loop (ι := { k : Nat // k ≤ A.length ∧ idxF p A 0 = idxF p (A.drop k) k }) (fun x => [(0, .sl 1 (strs A)), (1, .func (.func f) [] []), (7, .int .i64 ((strs A).length : Nat)), (8, .int .i64 (x.1 : Nat))])
    (fun _ => []) 0 (fun x => A.length - x.1) ⟨0, Nat.zero_le _, rfl⟩ [] ⟨rfl, rfl, rfl, ⟨rfl, rfl, rfl, rfl, trivial⟩, trivial⟩ ?_
  rintro ⟨k, hk, h⟩
  refine go_st TTok 100 rfl ?_
  refine c_cond rfl (fun hc => ?_) (fun hc => ?_)
  · have hc : k < A.length := by simpa [strs] using hc
    have hAd : A.drop k = A[k] :: A.drop (k + 1) := List.drop_eq_getElem_cons hc
    refine go_rg TTok 100 rfl ?_
    refine c_op (op_indexAddr_sl rfl (TTok _ _ rfl).ok rfl (TTok _ _ rfl).ok rfl rfl rfl (by omega) (by show (k : Int) < _; omega) (av := .str A[k]) (by simp [strs, hc])) rfl rfl rfl ?_
    refine go_rg TTok 100 rfl ?_
    refine c_call (hp A[k] (List.getElem_mem hc)) rfl rfl rfl rfl hf rfl rfl rfl rfl ?_
    refine go_st TTok 100 rfl ?_
    refine c_cond rfl (fun hc2 => ?_) (fun hc2 => ?_)
    · refine go_st TTok 100 rfl ?_
      exact c_ret ⟨_, rfl, congrArg (AV.int .i64) (show (k : Int) = _ by rw [h, hAd, idxF, if_pos hc2])⟩
    · refine go_st TTok 100 rfl ?_
      have hw : IntKind.i64.wrap ((k : Nat) + 1 : Int) = ((k + 1 : Nat) : Int) := by rw [IntWalk.i64_in _ ⟨by omega, by omega⟩]; omega
      refine c_inv ⟨⟨k + 1, hc, by rw [h, hAd, idxF, if_neg (by rw [hc2]; simp)]⟩, [], by show A.length - (k + 1) < A.length - k; omega, rfl, rfl, rfl, ⟨rfl, rfl, rfl, congrArg (fun x => some (AV.int .i64 x)) hw, trivial⟩, trivial⟩
  · have hc : A.length ≤ k := by simpa [strs] using hc
    refine go_st TTok 100 rfl ?_
    exact c_ret ⟨_, rfl, congrArg (AV.int .i64) (show (-1 : Int) = _ by rw [h, List.drop_of_length_le hc]; rfl)⟩
theorem containsF_ok (f : FuncId) (p : List UInt8 → Bool) (A : List (List UInt8)) (hA : A.length ≤ 2^40) (hf : CallsTo Tryd.prog f f) (hp : ∀ s ∈ A, PureC Tryd.prog f [.str s] (.sb (p s))) :
    PureC Tryd.prog 42 [.sl 1 (strs A), .func (.func f) [] []] (.sb (A.any p)) := by
  refine PureC.of_c TIok Tryd.func42 rfl rfl rfl rfl ?_
  refine go_rg TTok 100 rfl ?_
  refine c_call (indexF_ok f p A hA hf hp) rfl rfl rfl rfl ct53 rfl rfl rfl rfl ?_
  refine go_st TTok 100 rfl ?_
  exact c_ret ⟨_, rfl, congrArg AV.sb (idxF_any p A 0)⟩

theorem splitB_mem : ∀ (s x : List UInt8), x ∈ splitB s → x.length ≤ s.length
  | [], x, h => by simp [splitB] at h; simp [h]
  | c :: s, x, h => by
    simp only [splitB] at h
    split at h
    · rcases List.mem_cons.1 h with rfl | h
      · simp
      · have := splitB_mem s x h; simp; omega
    · have ih := splitB_mem s
      split at h
      · rename_i y r hs
        rw [hs] at ih
        rcases List.mem_cons.1 h with rfl | h
        · have := ih y (by simp); simp; omega
        · have := ih x (by simp [h]); simp; omega
      · rename_i hs; exact absurd hs (splitB_ne s)

theorem goodP_ok (s : List UInt8) (hs : s.length ≤ 2^39) : PureC Tryd.prog 29 [.str s] (.sb (goodP s)) := by
  refine PureC.of_le TIok Tryd.func29 rfl rfl rfl rfl ?_
  refine go_rg TTok 100 rfl ?_
  refine c_call (split_ok s (by omega)) rfl rfl rfl rfl ct41 rfl rfl rfl rfl ?_
  refine go_st TTok 100 rfl ?_
  have hl := splitB_len s
  refine c_cond rfl (fun h => ?_) (fun h => ?_)
  · refine go_st TTok 100 rfl ?_
    refine c_ret ⟨_, rfl, le_bs ?_⟩
    have h : 4 < (splitB s).length := by have := h; simp [strs] at this; omega
    simp only [goodP]
    rw [decide_eq_false (by omega)]; rfl
  · have h : (splitB s).length ≤ 4 := by have := h; simp [strs] at this; omega
    refine go_rg TTok 100 rfl ?_
    refine c_call (containsF_ok 43 (fun x => !goodName x) (splitB s) (by omega) ct43 fun x hx => good1_ok x (by have := splitB_mem s x hx; omega)) rfl rfl rfl rfl ct42 rfl rfl rfl rfl ?_
    refine go_st TTok 100 rfl ?_
    refine c_ret ⟨_, rfl, le_eq (congrArg AV.sb ?_)⟩
    simp only [goodP]
    rw [decide_eq_true h, Bool.true_and, Bool.eq_iff_iff]
    simp

theorem mixed : Tryd.prog.follows .mixedOrders = true := by kernel_rfl

def partsP (p : List UInt8) : AV := if goodP p then .tuple [.str (upOf p), .str (baseOf p), .bool true] else .tuple [.str [], .str [], .bool false]
theorem parts_ok (s : List UInt8) (hs : s.length ≤ 2^39) : PureC Tryd.prog 39 [.str s] (.tuple [.str (if goodP s then upOf s else []), .str (if goodP s then baseOf s else []), .sb (goodP s)]) := by
  refine PureC.of_le TIok Tryd.func39 rfl rfl rfl rfl ?_
  refine go_rg TTok 100 rfl ?_
  refine c_call (goodP_ok s hs) rfl rfl rfl rfl ct29 rfl rfl rfl rfl ?_
  refine go_st TTok 100 rfl ?_
  refine c_cond rfl (fun h => ?_) (fun h => ?_)
  · have h : goodP s = false := by simpa using h
    refine go_st TTok 100 rfl ?_
    refine c_ret ⟨_, rfl, ?_⟩
    rw [h]
    exact le_tuple rfl fun i a b ha hb => by
      match i, ha, hb with
      | 0, rfl, rfl => exact Le.rfl
      | 1, rfl, rfl => exact Le.rfl
      | 2, rfl, rfl => exact le_bs rfl
  · have h : goodP s = true := by simpa using h
    refine go_rg TTok 100 rfl ?_
    refine c_call (lastIdx_ok s 47 (by omega)) rfl rfl rfl rfl ct50 rfl rfl rfl rfl ?_
    refine go_st TTok 100 rfl ?_
    have hli := lastIdx_ge s 47
    have hw : IntKind.i64.wrap (lastIdx s 47 + 1) = lastIdx s 47 + 1 := IntWalk.i64_in _ ⟨by omega, by omega⟩
    refine c_dgo TTok mixed rfl rfl rfl rfl ?_
    refine f_opP (fun _ _ => op_max rfl rfl rfl rfl rfl) rfl rfl ?_
    refine f_opP (fun _ _ => op_slice_str rfl (TTok _ _ rfl).ok rfl rfl rfl rfl (by decide) ?_ ?_) rfl rfl ?_
    · show (0 : Int) ≤ if _ then _ else _
      split <;> omega
    · show (if _ then _ else _ : Int) ≤ _
      split <;> omega
    refine f_go TTok rfl ?_
    refine f_opP (fun _ _ => op_slice_str rfl (TTok _ _ rfl).ok rfl rfl rfl rfl ?_ ?_ ?_) rfl rfl ?_
    · show (0 : Int) ≤ IntKind.i64.wrap (lastIdx s 47 + 1)
      omega
    · show IntKind.i64.wrap (lastIdx s 47 + 1) ≤ (s.length : Int)
      omega
    · exact Int.le_refl _
    refine f_go TTok rfl ?_
    refine f_end ?_
    refine go_st TTok 100 rfl ?_
    refine c_ret ⟨_, rfl, ?_⟩
    rw [h]
    refine le_tuple rfl fun i a b ha hb => ?_
    match i, ha, hb with
    | 0, rfl, rfl =>
      refine le_eq (congrArg AV.str ?_)
      show List.drop 0 (List.take (if (0 : Int) > lastIdx s 47 then 0 else lastIdx s 47).toNat s) = s.take (lastIdx s 47).toNat
      rw [List.drop_zero]
      split
      · rw [show (lastIdx s 47).toNat = 0 from by omega]; rfl
      · rfl
    | 1, rfl, rfl =>
      refine le_eq (congrArg AV.str ?_)
      show List.drop (IntKind.i64.wrap (lastIdx s 47 + 1)).toNat (List.take (s.length : Int).toNat s) = s.drop (lastIdx s 47 + 1).toNat
      rw [hw, Int.toNat_natCast, List.take_length]
    | 2, rfl, rfl => exact le_bs rfl

theorem up_ok (s : List UInt8) (hs : s.length ≤ 2^39) : PureC Tryd.prog 27 [.str s] (.tuple [.str (if goodP s then upOf s else []), .sb (goodP s)]) := by
  refine PureC.of_c TIok Tryd.func27 rfl rfl rfl rfl ?_
  refine go_rg TTok 100 rfl ?_
  refine c_call (parts_ok s hs) rfl rfl rfl rfl ct39 rfl rfl rfl rfl ?_
  refine go_st TTok 100 rfl ?_
  exact c_ret ⟨_, rfl, rfl⟩
end Go.Proofs.YtikkobmghmphaaaDoor
namespace Go.Proofs.YtikkobmghmphaaaDoor
open Go Go.Av Go.Tm

set_option maxRecDepth 10000
theorem bytesEq_ok (a b : List UInt8) : PureC Tryd.prog 25 [byt a, byt b] (.sb (a == b)) := by
  refine PureC.of_c TIok Tryd.func25 rfl rfl rfl rfl ?_
  refine go_rg TTok 100 rfl ?_
  refine c_op (op_bytes_str (l := a) rfl (TTok _ _ rfl).ok (TTok _ _ rfl).ok rfl (TTok _ _ rfl).ok rfl rfl rfl rfl) rfl rfl rfl ?_
  refine go_rg TTok 100 rfl ?_
  refine c_op (op_bytes_str (l := b) rfl (TTok _ _ rfl).ok (TTok _ _ rfl).ok rfl (TTok _ _ rfl).ok rfl rfl rfl rfl) rfl rfl rfl ?_
  refine go_st TTok 100 rfl ?_
  exact c_ret ⟨_, rfl, rfl⟩

theorem clone_ok (b : List UInt8) (hb : b.length ≤ 2^40) : PureC Tryd.prog 33 [byt b] (byt b) := by
  refine PureC.of_le TIok Tryd.func33 rfl rfl rfl rfl ?_
  refine go_rg TTok 100 rfl ?_
  refine c_opE (op_sleq rfl (TTok _ _ rfl).ok rfl rfl rfl rfl) rfl rfl rfl ?_
  rintro _ _ _ ⟨rfl, rfl, q, rfl, hq, _⟩
  refine go_st TTok 100 rfl ?_
  have hlb : (bys b).length = b.length := by simp [bys]
  refine c_cond rfl (fun h => ?_) (fun h => ?_)
  · have hb0 : b = [] := by
      have := hq h
      cases b with
      | nil => rfl
      | cons c r => simp [bys] at this
    subst hb0
    refine go_st TTok 100 rfl ?_
    exact c_ret ⟨_, rfl, fun w X ρ v hv => VR_nil_sl 1 v hv⟩
  · refine go_rg TTok 100 rfl ?_
    refine c_op ((al_buildSliceC (vals := []) TIok rfl rfl rfl rfl rfl rfl rfl rfl (by decide)).opS) rfl rfl rfl ?_
    refine go_rg TTok 100 rfl ?_
    by_cases hn : b = []
    · subst hn
      refine c_op (op_appendC_nil rfl rfl rfl rfl (TTok _ _ rfl).ok rfl (TTok _ _ rfl).ok (TTok _ _ rfl).ok rfl rfl rfl rfl rfl) rfl rfl rfl ?_
      refine c_freeze 0 [(7, .sl 1 [])] rfl rfl ⟨⟨_, rfl, snap_refc rfl (Nat.le_refl _) rfl⟩, trivial⟩ ?_
      refine go_st TTok 100 rfl ?_
      exact c_ret ⟨_, rfl, Le.rfl⟩
    · have hpos : 0 < b.length := List.length_pos_iff.2 hn
      refine c_opE (op_appendC_new (els := []) (l2 := bys b) (ev0 := []) rfl rfl rfl rfl (TTok _ _ rfl).ok rfl (TTok _ _ rfl).ok (TTok _ _ rfl).ok rfl rfl rfl rfl (Nat.le_refl _) rfl (by decide) ?_ (by rw [hlb]; omega) rfl rfl) rfl rfl rfl ?_
      · show (0 + (bys b).length) * 1 ≤ _
        rw [hlb]; omega
      rintro _ _ _ ⟨cap, hcap, rfl, rfl, rfl⟩
      refine c_freeze 1 [(7, byt b)] rfl ?_ ⟨⟨_, rfl, snap_refc rfl ?_ ?_⟩, trivial⟩ ?_
      · rw [nids_append, List.nil_append, bys, nids_map _ _ (fun _ => rfl), nids_replicate _ rfl]; rfl
      · simp
      · simp
      refine go_st TTok 100 rfl ?_
      exact c_ret ⟨_, rfl, Le.rfl⟩

theorem own_ok (e : Ent) (hb : e.b.length ≤ 2^40) : PureC Tryd.prog 31 [e.av] e.av := by
  refine PureC.of_c TIok Tryd.func31 rfl rfl rfl rfl ?_
  refine go_rg TTok 100 rfl ?_
  refine c_call (clone_ok e.b hb) rfl rfl rfl rfl ct33 rfl rfl rfl rfl ?_
  refine go_st TTok 100 rfl ?_
  exact c_ret ⟨_, rfl, rfl⟩

theorem count_ok' (l : List Ent) (h : Sm l) : PureC Tryd.prog 26 [.sl 3 (ents l)] (.int .i64 (cnt l)) := by
  have hc := h.cnt
  have hl := h.len
  refine PureC.of_c TIok Tryd.func26 rfl rfl rfl rfl ?_
  refine go_st TTok 100 rfl ?_
  have hlen : (ents l).length = l.length := by simp [ents]
  refine c_loop (ι := { k : Nat // k ≤ l.length }) (fun k => [(8, .int .i64 (k.1 : Nat)), (7, .int .i64 ((ents l).length : Nat)), (6, .sl 3 (ents l)), (3, .int .i64 (cnt (l.take k.1) : Nat))]) (fun _ => []) 0 (fun k => l.length - k.1) ⟨0, Nat.zero_le _⟩ [] ⟨rfl, rfl, rfl, ⟨rfl, rfl, rfl, rfl, trivial⟩, trivial⟩ ?_
  rintro ⟨k, hk⟩
  refine go_st TTok 100 rfl ?_
  refine c_cond rfl (fun hc => ?_) (fun hc => ?_)
  · have hk2 : k < l.length := by simpa [ents] using hc
    refine go_rg TTok 100 rfl ?_
    refine c_op (op_indexAddr_sl rfl (TTok _ _ rfl).ok rfl (TTok _ _ rfl).ok rfl rfl rfl (by omega) (by show (k : Int) < _; omega) (av := (l[k]).av) (by simp [ents, hk2])) rfl rfl rfl ?_
    refine go_st TTok 100 rfl ?_
    have h1 := cnt_take l k
    have h2 := cnt_take l (k + 1)
    have e : cnt (l.take (k + 1)) = cnt (l.take k) + l[k].b.length := by
      rw [List.take_succ_eq_append_getElem hk2, cnt_append]; simp [cnt]
    have hw : IntKind.i64.wrap ((k : Nat) + 1 : Int) = ((k + 1 : Nat) : Int) := by rw [IntWalk.i64_in _ ⟨by omega, by omega⟩]; omega
    have hw2 : IntKind.i64.wrap ((cnt (l.take k) : Nat) + ((bys l[k].b).length : Nat) : Int) = (cnt (l.take (k + 1)) : Nat) := by
      rw [show (bys l[k].b).length = l[k].b.length from by simp [bys], IntWalk.i64_in _ ⟨by omega, by omega⟩, e]; omega
    refine c_inv ⟨⟨k + 1, hk2⟩, [], by show l.length - (k + 1) < l.length - k; omega, rfl, rfl, rfl, ⟨congrArg (fun x => some (AV.int .i64 x)) hw, rfl, rfl, congrArg (fun x => some (AV.int .i64 x)) hw2, trivial⟩, trivial⟩
  · have hk2 : k = l.length := by simp [ents] at hc; omega
    subst hk2
    refine go_st TTok 100 rfl ?_
    exact c_ret ⟨_, rfl, congrArg (AV.int .i64) (show ((cnt (l.take l.length) : Nat) : Int) = _ by rw [List.take_length])⟩

theorem findf_ok (e : Ent) (p : List UInt8) (h1 : e.path.length ≤ 2^30) (h2 : p.length ≤ 2^30) : PureC Tryd.prog 46 [e.av, .str p] (.int .i64 (cmpP e.path p)) := by
  refine PureC.of_c TIok Tryd.func46 rfl rfl rfl rfl ?_
  refine go_rg TTok 100 rfl ?_
  refine c_call (cmpP_ok e.path p (by omega) (by omega)) rfl rfl rfl rfl ct28 rfl rfl rfl rfl ?_
  refine go_st TTok 100 rfl ?_
  exact c_ret ⟨_, rfl, rfl⟩

theorem same1_ok (x y : Ent) : PureC Tryd.prog 24 [x.av, y.av] (.sb (decide (x = y))) := by
  refine PureC.of_le TIok Tryd.func24 rfl rfl rfl rfl ?_
  have key : decide (x = y) = (x.path == y.path && (x.dir == y.dir && x.b == y.b)) := by
    cases x; cases y
    rw [Bool.eq_iff_iff]; simp
  refine go_rg TTok 100 rfl ?_
  refine c_split 10 rfl (fun h1 => ?_) (fun h1 => ?_)
  rotate_left
  · refine go_st TTok 100 rfl ?_
    exact c_ret ⟨_, rfl, le_bs (by rw [key, h1]; rfl)⟩
  refine go_rg TTok 100 rfl ?_
  refine c_op (op_eqb rfl (TTok _ _ rfl).ok rfl rfl rfl rfl rfl) rfl rfl rfl ?_
  refine go_rg TTok 100 rfl ?_
  refine c_split 17 rfl (fun h2 => ?_) (fun h2 => ?_)
  rotate_left
  · refine go_st TTok 100 rfl ?_
    exact c_ret ⟨_, rfl, le_bs (by rw [key, h1, h2]; rfl)⟩
  refine go_rg TTok 100 rfl ?_
  refine c_call (bytesEq_ok x.b y.b) rfl rfl rfl rfl ct25 rfl rfl rfl rfl ?_
  refine go_st TTok 100 rfl ?_
  exact c_ret ⟨_, rfl, le_eq (congrArg AV.sb (by rw [key, h1, h2]; rfl))⟩
end Go.Proofs.YtikkobmghmphaaaDoor
namespace Go.Proofs.YtikkobmghmphaaaDoor
open Go Go.Av Go.Tm

set_option maxRecDepth 10000
theorem ents_len (l : List Ent) : (ents l).length = l.length := by simp [ents]
theorem ents_get (l : List Ent) {k : Nat} (h : k < l.length) : (ents l)[k]? = some (l[k]).av := by simp [ents, h]
theorem cmpAt_get (l : List Ent) (p : List UInt8) {k : Nat} (h : k < l.length) : cmpAt l p k = cmpP (l[k]).path p := by simp [cmpAt, List.getD, h]

theorem u64half (a m : Nat) (h : a < 2^40) (hm : m = a / 2) : IntKind.i64.wrap ((IntKind.u64.wrap (IntKind.i64.wrap (a : Int))).fdiv 2) = (m : Int) := by
  rw [IntWalk.i64_in (a : Int) ⟨by omega, by omega⟩, IntWalk.u64_in (a : Int) ⟨by omega, by omega⟩]
  have : ((a : Int).fdiv 2) = (m : Int) := by
    rw [Int.fdiv_eq_ediv_of_nonneg _ (by decide)]; omega
  rw [this, IntWalk.i64_in (m : Int) ⟨by omega, by omega⟩]

structure BI (l : List Ent) (p : List UInt8) where
  i : Nat
  j : Nat
  h : i ≤ j
  hj : j ≤ l.length
  e : findI l p = bs (cmpAt l p) i j

theorem bsearch_ok (l : List Ent) (p : List UInt8) (h : Sm l) (hp : p.length ≤ 2^30) : PureC Tryd.prog 45 [.sl 3 (ents l), .str p, .func (.func 46) [] []] (.tuple [.int .i64 (findI l p), .sb (findOk l p)]) := by
  have hlen := h.len
  refine PureC.of_le TIok Tryd.func45 rfl rfl rfl rfl ?_
  refine go_st TTok 100 rfl ?_
  refine c_loop (ι := BI l p) (fun x => [(0, .sl 3 (ents l)), (1, .str p), (2, .func (.func 46) [] []), (8, .int .i64 ((ents l).length : Nat)), (9, .int .i64 (x.i : Nat)), (10, .int .i64 (x.j : Nat))]) (fun _ => []) 0 (fun x => x.j - x.i)
    ⟨0, l.length, Nat.zero_le _, Nat.le_refl _, rfl⟩ [] ⟨rfl, rfl, rfl, ⟨rfl, rfl, rfl, rfl, rfl, congrArg (fun n : Nat => some (AV.int .i64 n)) (ents_len l), trivial⟩, trivial⟩ ?_
  rintro ⟨i, j, hij, hj, he⟩
  refine go_st TTok 100 rfl ?_
  refine c_cond rfl (fun hc => ?_) (fun hc => ?_)
  · have hc : i < j := by simp at hc; omega
    refine go_rg TTok 100 rfl ?_
    obtain ⟨m, hm⟩ : ∃ m, m = (i + j) / 2 := ⟨_, rfl⟩
    have hh : m < l.length := by omega
    have hw := u64half (i + j) m (by omega) hm
    refine c_say 26 (.int .i64 (m : Int)) rfl (congrArg (AV.int .i64) (by rw [← hw]; rfl)) ?_
    refine c_op (op_indexAddr_sl rfl (TTok _ _ rfl).ok rfl (TTok _ _ rfl).ok rfl rfl rfl (by omega) (by rw [ents_len]; omega) (ents_get l hh)) rfl rfl rfl ?_
    refine go_rg TTok 100 rfl ?_
    have hmem : l[m] ∈ l := List.getElem_mem hh
    refine c_call (findf_ok l[m] p (h.path _ hmem) hp) rfl rfl rfl rfl ct46 rfl rfl rfl rfl ?_
    refine go_st TTok 100 rfl ?_
    refine c_cond rfl (fun hc2 => ?_) (fun hc2 => ?_)
    · have hc2 : cmpAt l p m < 0 := by rw [cmpAt_get l p hh]; simpa using hc2
      refine go_st TTok 100 rfl ?_
      have hw2 : IntKind.i64.wrap (IntKind.i64.wrap ((IntKind.u64.wrap (IntKind.i64.wrap ((i : Nat) + (j : Nat) : Int))).fdiv 2) + 1) = ((m + 1 : Nat) : Int) := by
        rw [show ((i : Int) + (j : Int)) = ((i + j : Nat) : Int) from by omega, hw, IntWalk.i64_in _ ⟨by omega, by omega⟩]; omega
      refine c_inv ⟨⟨m + 1, j, by omega, hj, by rw [he, bs, if_pos hc, ← hm, if_pos hc2]⟩, [], by show j - (m + 1) < j - i; omega, rfl, rfl, rfl,
        ⟨rfl, rfl, rfl, rfl, congrArg (fun x => some (AV.int .i64 x)) hw2, rfl, trivial⟩, trivial⟩
    · have hc2 : ¬ cmpAt l p m < 0 := by rw [cmpAt_get l p hh]; simpa using hc2
      refine go_st TTok 100 rfl ?_
      have hw2 : IntKind.i64.wrap ((IntKind.u64.wrap (IntKind.i64.wrap ((i : Nat) + (j : Nat) : Int))).fdiv 2) = (m : Int) := by
        rw [show ((i : Int) + (j : Int)) = ((i + j : Nat) : Int) from by omega, hw]
      refine c_inv ⟨⟨i, m, by omega, by omega, by rw [he, bs, if_pos hc, ← hm, if_neg hc2]⟩, [], by show m - i < j - i; omega, rfl, rfl, rfl,
        ⟨rfl, rfl, rfl, rfl, rfl, congrArg (fun x => some (AV.int .i64 x)) hw2, trivial⟩, trivial⟩
  · have hc : i = j := by simp at hc; omega
    subst hc
    have he : findI l p = i := by rw [he, bs, if_neg (by omega)]
    refine go_rg TTok 100 rfl ?_
    refine c_split 39 rfl (fun h1 => ?_) (fun h1 => ?_)
    · have h1 : i < l.length := by simp [ents] at h1; omega
      refine go_rg TTok 100 rfl ?_
      refine c_op (op_indexAddr_sl rfl (TTok _ _ rfl).ok rfl (TTok _ _ rfl).ok rfl rfl rfl (by omega) (by rw [ents_len]; show (i : Int) < _; omega) (ents_get l h1)) rfl rfl rfl ?_
      refine go_rg TTok 100 rfl ?_
      have hmem : l[i] ∈ l := List.getElem_mem h1
      refine c_call (findf_ok l[i] p (h.path _ hmem) hp) rfl rfl rfl rfl ct46 rfl rfl rfl rfl ?_
      refine go_st TTok 100 rfl ?_
      refine c_ret ⟨_, rfl, le_eq ?_⟩
      have : findOk l p = (cmpP l[i].path p == 0) := by
        simp only [findOk, he, decide_eq_true h1, Bool.true_and, cmpAt_get l p h1]
        rw [Bool.eq_iff_iff]; simp
      rw [this, he]; rfl
    · have h1 : ¬ i < l.length := by simp [ents] at h1; omega
      refine go_st TTok 100 rfl ?_
      refine c_ret ⟨_, rfl, ?_⟩
      have : findOk l p = false := by
        simp only [findOk, he, decide_eq_false h1, Bool.false_and]
      rw [this, he]
      exact le_tuple rfl fun k a b ha hb => by
        match k, ha, hb with
        | 0, rfl, rfl => exact Le.rfl
        | 1, rfl, rfl => exact le_bs rfl

theorem find_ok (l : List Ent) (p : List UInt8) (h : Sm l) (hp : p.length ≤ 2^30) : PureC Tryd.prog 30 [.sl 3 (ents l), .str p] (.tuple [.int .i64 (findI l p), .sb (findOk l p)]) := by
  refine PureC.of_c TIok Tryd.func30 rfl rfl rfl rfl ?_
  refine go_rg TTok 100 rfl ?_
  refine c_call (bsearch_ok l p h hp) rfl rfl rfl rfl ct45 rfl rfl rfl rfl ?_
  refine go_st TTok 100 rfl ?_
  exact c_ret ⟨_, rfl, rfl⟩

theorem upE_ok (l : List Ent) (p : List UInt8) (h : Sm l) (hp : p.length ≤ 2^30) : PureC Tryd.prog 55 [.sl 3 (ents l), .str p] (.int .i64 (upE l p)) := by
  refine PureC.of_c TIok Tryd.func55 rfl rfl rfl rfl ?_
  refine go_rg TTok 100 rfl ?_
  refine c_call (up_ok p (by omega)) rfl rfl rfl rfl ct27 rfl rfl rfl rfl ?_
  refine go_st TTok 100 rfl ?_
  obtain ⟨d, hd⟩ : ∃ d, d = if goodP p then upOf p else [] := ⟨_, rfl⟩
  have hdl : d.length ≤ 2^30 := by
    rw [hd]; split
    · simp only [upOf, List.length_take]; omega
    · simp
  rw [← hd]
  refine c_cond rfl (fun h1 => ?_) (fun h1 => ?_)
  · have h1 : d = [] := by simpa using h1
    refine go_st TTok 100 rfl ?_
    exact c_ret ⟨_, rfl, by simp only [upE, ← hd, if_pos h1]⟩
  have h1 : ¬ d = [] := by simpa using h1
  refine go_rg TTok 100 rfl ?_
  refine c_call (find_ok l d h hdl) rfl rfl rfl rfl ct30 rfl rfl rfl rfl ?_
  refine go_st TTok 100 rfl ?_
  refine c_cond rfl (fun h2 => ?_) (fun h2 => ?_)
  · have h2 : findOk l d = false := by simpa using h2
    refine go_st TTok 100 rfl ?_
    exact c_ret ⟨_, rfl, by simp only [upE, ← hd, if_neg h1, if_pos h2]⟩
  have h2 : findOk l d = true := by simpa using h2
  have h3 : findI l d < l.length := by simp [findOk] at h2; exact h2.1
  refine go_rg TTok 100 rfl ?_
  refine c_op (op_indexAddr_sl rfl (TTok _ _ rfl).ok rfl (TTok _ _ rfl).ok rfl rfl rfl (by omega) (by rw [ents_len]; omega) (ents_get l (by simpa using h3))) rfl rfl rfl ?_
  refine go_st TTok 100 rfl ?_
  have e : l.getD (findI l d) default = l[findI l d] := by simp [List.getD, h3]
  refine c_cond rfl (fun h4 => ?_) (fun h4 => ?_)
  · have h4 : l[findI l d].dir = false := by simpa using h4
    refine go_st TTok 100 rfl ?_
    exact c_ret ⟨_, rfl, by simp only [upE, ← hd, if_neg h1, h2, e, h4]; rfl⟩
  · have h4 : l[findI l d].dir = true := by simpa using h4
    refine go_st TTok 100 rfl ?_
    exact c_ret ⟨_, rfl, by simp only [upE, ← hd, if_neg h1, h2, e, h4]; rfl⟩
end Go.Proofs.YtikkobmghmphaaaDoor
namespace Go.Proofs.YtikkobmghmphaaaDoor
open Go Go.Av Go.Tm

set_option maxRecDepth 10000
theorem seenV_ren (m : Nat → Nat) (s : Seen) : (blkM (seenV s)).ren m = blkM (seenV s) := by
  simp only [blkM, Blk.ren, seenV, List.map_map]
  rfl
theorem embUp (m : List Nat) (nx : Nat) (s : Seen) (k : List UInt8) (d : Bool) : live (some (blkM (updM (seenV s) k (.bool d)))) = some ((blkM (seenV (updB s k d))).ren (mf m nx)) := by
  rw [updM_seen, seenV_ren]; rfl
theorem good_ok (l : List Ent) (h : Sm l) : PureC Tryd.prog 14 [.agg [.sl 3 (ents l)]] (.sb (goodT l)) := by
  have hlen := h.len
  have hcnt := h.cnt
  refine PureC.of_le TIok Tryd.func14 rfl rfl rfl rfl ?_
  refine go_rg TTok 100 rfl ?_
  refine c_split 12 rfl (fun h1 => ?_) (fun h1 => ?_)
  · have h1 : ¬ l.length ≤ 40 := by simp [ents] at h1; omega
    refine go_st TTok 100 rfl ?_
    exact c_ret ⟨_, rfl, le_bs (by simp only [goodT, decide_eq_false h1, Bool.false_and])⟩
  have h1 : l.length ≤ 40 := by simp [ents] at h1; omega
  refine go_rg TTok 100 rfl ?_
  refine c_call (count_ok' l h) rfl rfl rfl rfl ct26 rfl rfl rfl rfl ?_
  refine go_st TTok 100 rfl ?_
  refine c_cond rfl (fun h2 => ?_) (fun h2 => ?_)
  · have h2 : ¬ cnt l ≤ 16384 := by simp at h2; omega
    refine go_st TTok 100 rfl ?_
    exact c_ret ⟨_, rfl, le_bs (by simp only [goodT, decide_eq_true h1, decide_eq_false h2, Bool.false_and, Bool.true_and])⟩
  have h2 : cnt l ≤ 16384 := by simp at h2; omega
  have hT : goodT l = goodFrom [([], true)] none l := by simp only [goodT, decide_eq_true h1, decide_eq_true h2, Bool.true_and]
  rw [hT]
  refine go_rg TTok 100 rfl ?_
  refine c_op (al_makeMap rfl).opS rfl rfl rfl ?_
  refine c_op0 (op_mapUpdate (l := []) (.inr rfl) (TTok _ _ rfl).ok rfl (TTok _ _ rfl).ok rfl rfl rfl rfl rfl) rfl rfl ?_
  refine go_st TTok 100 rfl ?_
  refine c_loop (ι := GI l) (fun x => [(1, .ptr 0 1 0 0), (2, .bool false), (3, .map 1), (21, .sl 3 (ents l)), (22, .int .i64 ((ents l).length : Nat)), (23, .int .i64 (x.k : Nat))])
    (fun x => [(0, .arr 1 [.agg [.sl 3 (ents l)]]), (1, blkM (seenV x.s))]) 2 (fun x => l.length - x.k) ⟨0, [([], true)], Nat.zero_le _, rfl⟩ [0, 1]
    ⟨rfl, rfl, rfl, ⟨rfl, rfl, rfl, rfl, rfl, rfl, trivial⟩, ⟨rfl, rfl, trivial⟩⟩ ?_
  intro x
  refine go_st TTok 100 rfl ?_
  refine c_cond rfl (fun hc => ?_) (fun hc => ?_)
  rotate_left
  · have hk : l.length ≤ x.k := by simp [ents] at hc; omega
    refine go_st TTok 100 rfl ?_
    exact c_ret ⟨_, rfl, le_bs (by rw [x.h, List.drop_of_length_le hk]; rfl)⟩
  have hk : x.k < l.length := by simp [ents] at hc; omega
  have hmem : l[x.k] ∈ l := List.getElem_mem hk
  have hpl := h.path _ hmem
  have hw : IntKind.i64.wrap ((x.k : Nat) + 1 : Int) = ((x.k + 1 : Nat) : Int) := by rw [IntWalk.i64_in _ ⟨by omega, by omega⟩]; omega
  refine go_rg TTok 100 rfl ?_
  refine c_op (op_indexAddr_sl rfl (TTok _ _ rfl).ok rfl (TTok _ _ rfl).ok rfl rfl rfl (by omega) (by rw [ents_len]; omega) (ents_get l hk)) rfl rfl rfl ?_
  refine go_rg TTok 1 rfl ?_
  obtain ⟨d, hd⟩ : ∃ d, l[x.k].dir = d := ⟨_, rfl⟩
  refine c_say' 27 (.agg [.str l[x.k].path, .bool d, byt l[x.k].b]) rfl (le_ent _ d hd) ?_
  cases hgp : goodP l[x.k].path
  · -- no path
    refine go_rg TTok 100 rfl ?_
    refine c_call ((up_ok l[x.k].path (by omega)).le (r' := .tuple [.str [], .bool false]) ?_) rfl rfl rfl rfl ct27 rfl rfl rfl rfl ?_
    · rw [hgp]
      exact le_tuple rfl fun i a b ha hb => by
        match i, ha, hb with
        | 0, rfl, rfl => exact Le.rfl
        | 1, rfl, rfl => exact le_sb rfl
    refine go_st TTok 100 rfl ?_
    refine c_dgo TTok mixed rfl rfl rfl rfl ?_
    refine f_end ?_
    refine go_st TTok 100 rfl ?_
    exact c_ret ⟨_, rfl, le_bs (by rw [GI.bad x hk (by simp only [okE, hgp, Bool.false_and])])⟩
  cases hlk : lookB x.s (upOf l[x.k].path)
  · -- no directory
    refine go_rg TTok 100 rfl ?_
    refine c_call ((up_ok l[x.k].path (by omega)).le (r' := .tuple [.str (upOf l[x.k].path), .bool true]) ?_) rfl rfl rfl rfl ct27 rfl rfl rfl rfl ?_
    · rw [hgp]
      exact le_tuple rfl fun i a b ha hb => by
        match i, ha, hb with
        | 0, rfl, rfl => exact Le.rfl
        | 1, rfl, rfl => exact le_sb rfl
    refine go_st TTok 100 rfl ?_
    refine c_dgo TTok mixed rfl rfl rfl rfl ?_
    refine f_op (OpS.cast (op_lookup (l := seenV x.s) (k := upOf l[x.k].path) rfl (TTok _ _ rfl).ok rfl (TTok _ _ rfl).ok rfl (TTok _ _ rfl).ok rfl rfl rfl) ((lookM_seen _ _).trans (congrArg AV.bool hlk))) rfl rfl rfl ?_
    refine f_go TTok rfl ?_
    refine f_end ?_
    refine go_st TTok 100 rfl ?_
    exact c_ret ⟨_, rfl, le_bs (by rw [GI.bad x hk (by simp only [okE, hgp, hlk, Bool.false_and, Bool.true_and])])⟩
  cases d
  · -- a file
    refine go_rg TTok 100 rfl ?_
    refine c_call ((up_ok l[x.k].path (by omega)).le (r' := .tuple [.str (upOf l[x.k].path), .bool true]) ?_) rfl rfl rfl rfl ct27 rfl rfl rfl rfl ?_
    · rw [hgp]
      exact le_tuple rfl fun i a b ha hb => by
        match i, ha, hb with
        | 0, rfl, rfl => exact Le.rfl
        | 1, rfl, rfl => exact le_sb rfl
    refine go_st TTok 100 rfl ?_
    refine c_dgo TTok mixed rfl rfl rfl rfl ?_
    refine f_op (OpS.cast (op_lookup (l := seenV x.s) (k := upOf l[x.k].path) rfl (TTok _ _ rfl).ok rfl (TTok _ _ rfl).ok rfl (TTok _ _ rfl).ok rfl rfl rfl) ((lookM_seen _ _).trans (congrArg AV.bool hlk))) rfl rfl rfl ?_
    refine f_go TTok rfl ?_
    refine f_case TTok rfl rfl rfl rfl rfl (fun h4 => ?_) (fun h4 => ?_)
    · have h4 : ¬ l[x.k].b.length ≤ 2048 := by simp [bys] at h4; omega
      refine f_go TTok rfl ?_
      refine f_end ?_
      refine go_st TTok 100 rfl ?_
      exact c_ret ⟨_, rfl, le_bs (GI.bad x hk (okE_f2 h4)).symm⟩
    have h4 : l[x.k].b.length ≤ 2048 := by simp [bys] at h4; omega
    refine f_go TTok rfl ?_
    refine f_case TTok rfl rfl rfl rfl rfl (fun h5 => ?_) (fun h5 => ?_)
    rotate_left
    · have h5 : x.k = 0 := by simp at h5; omega
      refine f_go TTok rfl ?_
      refine f_end ?_
      refine go_rg TTok 100 rfl ?_
      refine c_op0 (op_mapUpdate (l := seenV x.s) (.inl rfl) (TTok _ _ rfl).ok rfl (TTok _ _ rfl).ok rfl rfl rfl rfl rfl) rfl rfl ?_
      refine go_st TTok 100 rfl ?_
      exact c_inv ⟨x.next hk false hd (okE_true hgp hlk (fun h => by rw [hd] at h; cases h) h4 (fun y hy => by rw [show prevOf l x.k = none from by rw [h5]; rfl] at hy; cases hy)), [0, 1], by show l.length - (x.k + 1) < l.length - x.k; omega, rfl, rfl, rfl, ⟨rfl, rfl, rfl, rfl, rfl, congrArg (fun x => some (AV.int .i64 x)) hw, trivial⟩, ⟨rfl, embUp _ _ _ _ _, trivial⟩⟩
    have h5 : 0 < x.k := by simp at h5; omega
    refine f_go TTok rfl ?_
    have hk1 : x.k - 1 < l.length := by omega
    have hw1 : IntKind.i64.wrap ((x.k : Nat) - 1 : Int) = ((x.k - 1 : Nat) : Int) := by rw [IntWalk.i64_in _ ⟨by omega, by omega⟩]; omega
    have hp1 := h.path _ (List.getElem_mem hk1)
    refine f_op (OpS.cast (op_indexAddr_sl (av := (l[x.k - 1]).av) rfl (TTok _ _ rfl).ok rfl (TTok _ _ rfl).ok rfl rfl rfl ?_ ?_ ?_) rfl) rfl rfl rfl ?_
    · show (0 : Int) ≤ IntKind.i64.wrap ((x.k : Nat) - 1 : Int)
      omega
    · show IntKind.i64.wrap ((x.k : Nat) - 1 : Int) < _
      rw [ents_len]; omega
    · show (ents l)[(IntKind.i64.wrap ((x.k : Nat) - 1 : Int)).toNat]? = _
      rw [hw1, Int.toNat_natCast]; exact ents_get l hk1
    refine f_go TTok rfl ?_
    refine f_call (cmpP_ok (l[x.k - 1]).path l[x.k].path (by omega) (by omega)) rfl rfl rfl rfl ct28 rfl rfl rfl ?_
    refine f_case TTok rfl rfl rfl rfl rfl (fun h6 => ?_) (fun h6 => ?_)
    · have h6 : ¬ cmpP (l[x.k - 1]).path l[x.k].path < 0 := by simp at h6; omega
      refine f_go TTok rfl ?_
      refine f_end ?_
      refine go_st TTok 100 rfl ?_
      exact c_ret ⟨_, rfl, le_bs (GI.bad x hk (by rw [prevOf_pos h5 hk]; exact okE_f3 h6)).symm⟩
    have h6 : cmpP (l[x.k - 1]).path l[x.k].path < 0 := by simp at h6; omega
    refine f_go TTok rfl ?_
    refine f_end ?_
    refine go_rg TTok 100 rfl ?_
    refine c_op0 (op_mapUpdate (l := seenV x.s) (.inl rfl) (TTok _ _ rfl).ok rfl (TTok _ _ rfl).ok rfl rfl rfl rfl rfl) rfl rfl ?_
    refine go_st TTok 100 rfl ?_
    exact c_inv ⟨x.next hk false hd (okE_true hgp hlk (fun h => by rw [hd] at h; cases h) h4 (by rw [prevOf_pos h5 hk]; rintro _ ⟨⟩; exact h6)), [0, 1], by show l.length - (x.k + 1) < l.length - x.k; omega, rfl, rfl, rfl, ⟨rfl, rfl, rfl, rfl, rfl, congrArg (fun x => some (AV.int .i64 x)) hw, trivial⟩, ⟨rfl, embUp _ _ _ _ _, trivial⟩⟩
  · -- a directory
    refine go_rg TTok 100 rfl ?_
    refine c_call ((up_ok l[x.k].path (by omega)).le (r' := .tuple [.str (upOf l[x.k].path), .bool true]) ?_) rfl rfl rfl rfl ct27 rfl rfl rfl rfl ?_
    · rw [hgp]
      exact le_tuple rfl fun i a b ha hb => by
        match i, ha, hb with
        | 0, rfl, rfl => exact Le.rfl
        | 1, rfl, rfl => exact le_sb rfl
    refine go_st TTok 100 rfl ?_
    refine c_dgo TTok mixed rfl rfl rfl rfl ?_
    refine f_op (OpS.cast (op_lookup (l := seenV x.s) (k := upOf l[x.k].path) rfl (TTok _ _ rfl).ok rfl (TTok _ _ rfl).ok rfl (TTok _ _ rfl).ok rfl rfl rfl) ((lookM_seen _ _).trans (congrArg AV.bool hlk))) rfl rfl rfl ?_
    refine f_go TTok rfl ?_
    refine f_case TTok rfl rfl rfl rfl rfl (fun h7 => ?_) (fun h7 => ?_)
    · have h7 : 0 < l[x.k].b.length := by simp [bys] at h7; omega
      refine f_go TTok rfl ?_
      refine f_end ?_
      refine go_st TTok 100 rfl ?_
      exact c_ret ⟨_, rfl, le_bs (GI.bad x hk (okE_f1 hd h7)).symm⟩
    have h7 : l[x.k].b.length = 0 := by simp [bys] at h7; simp [h7]
    refine f_go TTok rfl ?_
    refine f_case TTok rfl rfl rfl rfl rfl (fun h4 => ?_) (fun h4 => ?_)
    · have h4 : ¬ l[x.k].b.length ≤ 2048 := by simp [bys] at h4; omega
      refine f_go TTok rfl ?_
      refine f_end ?_
      refine go_st TTok 100 rfl ?_
      exact c_ret ⟨_, rfl, le_bs (GI.bad x hk (okE_f2 h4)).symm⟩
    have h4 : l[x.k].b.length ≤ 2048 := by simp [bys] at h4; omega
    refine f_go TTok rfl ?_
    refine f_case TTok rfl rfl rfl rfl rfl (fun h5 => ?_) (fun h5 => ?_)
    rotate_left
    · have h5 : x.k = 0 := by simp at h5; omega
      refine f_go TTok rfl ?_
      refine f_end ?_
      refine go_rg TTok 100 rfl ?_
      refine c_op0 (op_mapUpdate (l := seenV x.s) (.inl rfl) (TTok _ _ rfl).ok rfl (TTok _ _ rfl).ok rfl rfl rfl rfl rfl) rfl rfl ?_
      refine go_st TTok 100 rfl ?_
      exact c_inv ⟨x.next hk true hd (okE_true hgp hlk (fun _ => h7) h4 (fun y hy => by rw [show prevOf l x.k = none from by rw [h5]; rfl] at hy; cases hy)), [0, 1], by show l.length - (x.k + 1) < l.length - x.k; omega, rfl, rfl, rfl, ⟨rfl, rfl, rfl, rfl, rfl, congrArg (fun x => some (AV.int .i64 x)) hw, trivial⟩, ⟨rfl, embUp _ _ _ _ _, trivial⟩⟩
    have h5 : 0 < x.k := by simp at h5; omega
    refine f_go TTok rfl ?_
    have hk1 : x.k - 1 < l.length := by omega
    have hw1 : IntKind.i64.wrap ((x.k : Nat) - 1 : Int) = ((x.k - 1 : Nat) : Int) := by rw [IntWalk.i64_in _ ⟨by omega, by omega⟩]; omega
    have hp1 := h.path _ (List.getElem_mem hk1)
    refine f_op (OpS.cast (op_indexAddr_sl (av := (l[x.k - 1]).av) rfl (TTok _ _ rfl).ok rfl (TTok _ _ rfl).ok rfl rfl rfl ?_ ?_ ?_) rfl) rfl rfl rfl ?_
    · show (0 : Int) ≤ IntKind.i64.wrap ((x.k : Nat) - 1 : Int)
      omega
    · show IntKind.i64.wrap ((x.k : Nat) - 1 : Int) < _
      rw [ents_len]; omega
    · show (ents l)[(IntKind.i64.wrap ((x.k : Nat) - 1 : Int)).toNat]? = _
      rw [hw1, Int.toNat_natCast]; exact ents_get l hk1
    refine f_go TTok rfl ?_
    refine f_call (cmpP_ok (l[x.k - 1]).path l[x.k].path (by omega) (by omega)) rfl rfl rfl rfl ct28 rfl rfl rfl ?_
    refine f_case TTok rfl rfl rfl rfl rfl (fun h6 => ?_) (fun h6 => ?_)
    · have h6 : ¬ cmpP (l[x.k - 1]).path l[x.k].path < 0 := by simp at h6; omega
      refine f_go TTok rfl ?_
      refine f_end ?_
      refine go_st TTok 100 rfl ?_
      exact c_ret ⟨_, rfl, le_bs (GI.bad x hk (by rw [prevOf_pos h5 hk]; exact okE_f3 h6)).symm⟩
    have h6 : cmpP (l[x.k - 1]).path l[x.k].path < 0 := by simp at h6; omega
    refine f_go TTok rfl ?_
    refine f_end ?_
    refine go_rg TTok 100 rfl ?_
    refine c_op0 (op_mapUpdate (l := seenV x.s) (.inl rfl) (TTok _ _ rfl).ok rfl (TTok _ _ rfl).ok rfl rfl rfl rfl rfl) rfl rfl ?_
    refine go_st TTok 100 rfl ?_
    exact c_inv ⟨x.next hk true hd (okE_true hgp hlk (fun _ => h7) h4 (by rw [prevOf_pos h5 hk]; rintro _ ⟨⟩; exact h6)), [0, 1], by show l.length - (x.k + 1) < l.length - x.k; omega, rfl, rfl, rfl, ⟨rfl, rfl, rfl, rfl, rfl, congrArg (fun x => some (AV.int .i64 x)) hw, trivial⟩, ⟨rfl, embUp _ _ _ _ _, trivial⟩⟩
end Go.Proofs.YtikkobmghmphaaaDoor
namespace Go.Proofs.YtikkobmghmphaaaDoor
open Go Go.Av Go.Tm

set_option maxRecDepth 10000
theorem equalF_ok (A B : List Ent) (hA : A.length ≤ 2^30) (hB : B.length ≤ 2^30) : PureC Tryd.prog 23 [.sl 3 (ents A), .sl 3 (ents B), .func (.func 24) [] []] (.sb (decide (A = B))) := by
  refine PureC.of_le TIok Tryd.func23 rfl rfl rfl rfl ?_
  refine go_st TTok 100 rfl ?_
  refine c_cond rfl (fun h => ?_) (fun h => ?_)
  · have h : A.length ≠ B.length := by intro e; simp [ents, e] at h
    refine go_st TTok 100 rfl ?_
    exact c_ret ⟨_, rfl, le_bs (by rw [eq_comm, decide_eq_false_iff_not]; rintro rfl; exact h rfl)⟩
  have hl : A.length = B.length := by simp [ents] at h; omega
  refine go_st TTok 100 rfl ?_
  refine c_loop (ι := { k : Nat // k ≤ A.length ∧ A.take k = B.take k }) (fun x => [(0, .sl 3 (ents A)), (1, .sl 3 (ents B)), (2, .func (.func 24) [] []), (15, .sl 3 (ents A)), (16, .int .i64 ((ents A).length : Nat)), (17, .int .i64 (x.1 : Nat))])
    (fun _ => []) 0 (fun x => A.length - x.1) ⟨0, Nat.zero_le _, rfl⟩ [] ⟨rfl, rfl, rfl, ⟨rfl, rfl, rfl, rfl, rfl, rfl, trivial⟩, trivial⟩ ?_
  rintro ⟨k, hk, hkk⟩
  refine go_st TTok 100 rfl ?_
  refine c_cond rfl (fun hc => ?_) (fun hc => ?_)
  · have hc : k < A.length := by simpa [ents] using hc
    have hc' : k < B.length := by omega
    refine go_rg TTok 100 rfl ?_
    refine c_op (op_indexAddr_sl rfl (TTok _ _ rfl).ok rfl (TTok _ _ rfl).ok rfl rfl rfl (by omega) (by rw [ents_len]; show (k : Int) < _; omega) (ents_get A hc)) rfl rfl rfl ?_
    refine go_rg TTok 100 rfl ?_
    refine c_op (op_indexAddr_sl rfl (TTok _ _ rfl).ok rfl (TTok _ _ rfl).ok rfl rfl rfl (by omega) (by rw [ents_len]; show (k : Int) < _; omega) (ents_get B hc')) rfl rfl rfl ?_
    refine go_rg TTok 100 rfl ?_
    refine c_call (same1_ok A[k] B[k]) rfl rfl rfl rfl ct24 rfl rfl rfl rfl ?_
    refine go_st TTok 100 rfl ?_
    refine c_cond rfl (fun h2 => ?_) (fun h2 => ?_)
    · have h2 : A[k] ≠ B[k] := by simpa using h2
      refine go_st TTok 100 rfl ?_
      exact c_ret ⟨_, rfl, le_bs (by rw [eq_comm, decide_eq_false_iff_not]; rintro rfl; exact h2 rfl)⟩
    · have h2 : A[k] = B[k] := by simpa using h2
      refine go_st TTok 100 rfl ?_
      have hw : IntKind.i64.wrap ((k : Nat) + 1 : Int) = ((k + 1 : Nat) : Int) := by rw [IntWalk.i64_in _ ⟨by omega, by omega⟩]; omega
      refine c_inv ⟨⟨k + 1, hc, by rw [List.take_succ_eq_append_getElem hc, List.take_succ_eq_append_getElem hc', hkk, h2]⟩, [], by show A.length - (k + 1) < A.length - k; omega, rfl, rfl, rfl,
        ⟨rfl, rfl, rfl, rfl, rfl, congrArg (fun x => some (AV.int .i64 x)) hw, trivial⟩, trivial⟩
  · have hc : A.length ≤ k := by simpa [ents] using hc
    refine go_st TTok 100 rfl ?_
    refine c_ret ⟨_, rfl, le_bs ?_⟩
    rw [eq_comm, decide_eq_true_iff]
    rw [List.take_of_length_le hc, List.take_of_length_le (by omega)] at hkk
    exact hkk

theorem same_ok (A B : List Ent) (hA : Sm A) (hB : Sm B) : PureC Tryd.prog 11 [treeAV A, treeAV B] (.sb (sameT A B)) := by
  refine PureC.of_le TIok Tryd.func11 rfl rfl rfl rfl ?_
  refine go_rg TTok 100 rfl ?_
  refine c_call (good_ok A hA) rfl rfl rfl rfl ct14 rfl rfl rfl rfl ?_
  refine go_rg TTok 100 rfl ?_
  refine c_split 7 rfl (fun h1 => ?_) (fun h1 => ?_)
  rotate_left
  · refine go_st TTok 100 rfl ?_
    exact c_ret ⟨_, rfl, le_bs (by simp only [sameT, h1, Bool.false_and])⟩
  refine go_rg TTok 100 rfl ?_
  refine c_call (good_ok B hB) rfl rfl rfl rfl ct14 rfl rfl rfl rfl ?_
  refine go_rg TTok 100 rfl ?_
  refine c_split 11 rfl (fun h2 => ?_) (fun h2 => ?_)
  rotate_left
  · refine go_st TTok 100 rfl ?_
    exact c_ret ⟨_, rfl, le_bs (by simp only [sameT, h1, h2, Bool.false_and, Bool.true_and])⟩
  refine go_rg TTok 100 rfl ?_
  refine c_call (equalF_ok A B hA.len hB.len) rfl rfl rfl rfl ct23 rfl rfl rfl rfl ?_
  refine go_st TTok 100 rfl ?_
  exact c_ret ⟨_, rfl, le_eq (congrArg AV.sb (by simp only [sameT, h1, h2, Bool.true_and]))⟩

theorem bytesT_ok (A : List Ent) (hA : Sm A) : PureC Tryd.prog 20 [treeAV A] (.int .i64 (bytesT A)) := by
  refine PureC.of_c TIok Tryd.func20 rfl rfl rfl rfl ?_
  refine go_rg TTok 100 rfl ?_
  refine c_call (good_ok A hA) rfl rfl rfl rfl ct14 rfl rfl rfl rfl ?_
  refine go_st TTok 100 rfl ?_
  refine c_cond rfl (fun h1 => ?_) (fun h1 => ?_)
  · have h1 : goodT A = false := by simpa using h1
    refine go_st TTok 100 rfl ?_
    exact c_ret ⟨_, rfl, by simp [bytesT, h1]⟩
  · have h1 : goodT A = true := by simpa using h1
    refine go_rg TTok 100 rfl ?_
    refine c_call (count_ok' A hA) rfl rfl rfl rfl ct26 rfl rfl rfl rfl ?_
    refine go_st TTok 100 rfl ?_
    exact c_ret ⟨_, rfl, by simp [bytesT, h1]⟩

theorem findT_ok (A : List Ent) (p : List UInt8) (hA : Sm A) (hp : p.length ≤ 2^30) : PureC Tryd.prog 15 [treeAV A, .str p] (.tuple [(findT A p).1.av, .int .i64 (findT A p).2]) := by
  refine PureC.of_le TIok Tryd.func15 rfl rfl rfl rfl ?_
  have bad : ∀ (r : Ent × Int) (k : Int), findT A p = r → r = (default, k) → Le (.tuple [.agg [.str [], .bool false, .nilsl], .int .i64 k]) (.tuple [(findT A p).1.av, .int .i64 (findT A p).2]) := by
    rintro r k h1 rfl
    rw [h1]
    exact le_tuple rfl fun i a b ha hb => by
      match i, ha, hb with
      | 0, rfl, rfl => exact le_zero
      | 1, rfl, rfl => exact Le.rfl
  refine go_rg TTok 100 rfl ?_
  refine c_call (good_ok A hA) rfl rfl rfl rfl ct14 rfl rfl rfl rfl ?_
  refine go_st TTok 100 rfl ?_
  refine c_cond rfl (fun h1 => ?_) (fun h1 => ?_)
  · have h1 : goodT A = false := by simpa using h1
    refine go_st TTok 100 rfl ?_
    exact c_ret ⟨_, rfl, bad _ 1 rfl (by simp only [findT, if_pos h1])⟩
  have h1 : goodT A = true := by simpa using h1
  refine go_rg TTok 100 rfl ?_
  refine c_call (goodP_ok p (by omega)) rfl rfl rfl rfl ct29 rfl rfl rfl rfl ?_
  refine go_st TTok 100 rfl ?_
  refine c_cond rfl (fun h2 => ?_) (fun h2 => ?_)
  · have h2 : goodP p = false := by simpa using h2
    refine go_st TTok 100 rfl ?_
    exact c_ret ⟨_, rfl, bad _ 4 rfl (by simp [findT, h1, h2])⟩
  have h2 : goodP p = true := by simpa using h2
  refine go_rg TTok 100 rfl ?_
  refine c_call (find_ok A p hA hp) rfl rfl rfl rfl ct30 rfl rfl rfl rfl ?_
  refine go_st TTok 100 rfl ?_
  refine c_cond rfl (fun h3 => ?_) (fun h3 => ?_)
  · have h3 : findOk A p = false := by simpa using h3
    refine go_st TTok 100 rfl ?_
    exact c_ret ⟨_, rfl, bad _ 5 rfl (by simp [findT, h1, h2, h3])⟩
  have h3 : findOk A p = true := by simpa using h3
  have h4 : findI A p < A.length := by simp [findOk] at h3; exact h3.1
  refine go_rg TTok 100 rfl ?_
  refine c_op (op_indexAddr_sl rfl (TTok _ _ rfl).ok rfl (TTok _ _ rfl).ok rfl rfl rfl (by omega) (by rw [ents_len]; omega) (ents_get A (by simpa using h4))) rfl rfl rfl ?_
  refine go_rg TTok 100 rfl ?_
  refine c_call (own_ok A[findI A p] (by have := hA.b _ (List.getElem_mem h4); omega)) rfl rfl rfl rfl ct31 rfl rfl rfl rfl ?_
  refine go_st TTok 100 rfl ?_
  refine c_ret ⟨_, rfl, le_eq ?_⟩
  have e : findT A p = (A[findI A p], 0) := by simp [findT, h1, h2, h3, List.getD, h4]
  rw [e]; rfl
end Go.Proofs.YtikkobmghmphaaaDoor
namespace Go.Proofs.YtikkobmghmphaaaDoor
open Go Go.Av Go.Tm

set_option maxRecDepth 10000
theorem ents_nids (l : List Ent) : AV.nids (ents l) = true := nids_map _ _ fun _ => rfl
/-- A row of one's own that begins with these entries. -/
def rowQ (L : List Ent) (id n1 : Nat) : AV → Hp → Nat → Prop := fun r hp nx => ∃ c els, r = .refc 3 id 0 L.length c ∧ hp = [(id, .arr 3 els)] ∧ nx = n1 ∧ els.length = c ∧ els.take L.length = ents L ∧ AV.nids els = true

theorem cloneE_ok (L : List Ent) (hL : L.length ≤ 2^30) : RunC Tryd.prog 32 [.sl 3 (ents L)] [] 0 (rowQ L 0 1) := by
  refine RunC.of_c TIok Tryd.func32 rfl rfl rfl ?_
  refine go_rg TTok 100 rfl ?_
  refine c_opE (op_sleq rfl (TTok _ _ rfl).ok rfl rfl rfl rfl) rfl rfl rfl ?_
  rintro _ _ _ ⟨rfl, rfl, q, rfl, hq, _⟩
  refine go_st TTok 100 rfl ?_
  refine c_cond rfl (fun h => ?_) (fun h => ?_)
  · have hb0 : L = [] := by
      have := hq h
      cases L with
      | nil => rfl
      | cons c r => simp [ents] at this
    subst hb0
    refine go_st TTok 100 rfl ?_
    refine c_ownCS 3 (t := 2) rfl ?_
    exact c_ret ⟨_, .refc 3 0 0 0 0, [(0, .arr 3 [])], 1, [0], rfl, ⟨0, [], rfl, rfl, rfl, rfl, rfl, rfl⟩, rfl, ⟨rfl, rfl, rfl, trivial, emb_arr rfl rfl rfl rfl trivial⟩⟩
  · refine go_rg TTok 100 rfl ?_
    refine c_op ((al_buildSliceC (vals := []) TIok rfl rfl rfl rfl rfl rfl rfl rfl (by decide)).opS) rfl rfl rfl ?_
    refine go_rg TTok 100 rfl ?_
    by_cases hn : L = []
    · subst hn
      refine c_op (op_appendC_nil rfl rfl rfl rfl (TTok _ _ rfl).ok rfl (TTok _ _ rfl).ok (TTok _ _ rfl).ok rfl rfl rfl rfl rfl) rfl rfl rfl ?_
      refine go_st TTok 100 rfl ?_
      exact c_ret ⟨_, .refc 3 0 0 0 0, [(0, .arr 3 [])], 1, [0], rfl, ⟨0, [], rfl, rfl, rfl, rfl, rfl, rfl⟩, rfl, ⟨rfl, rfl, rfl, trivial, emb_arr rfl rfl rfl rfl trivial⟩⟩
    · have hpos : 0 < L.length := List.length_pos_iff.2 hn
      have hle := ents_len L
      refine c_opE (op_appendC_new (els := []) (l2 := ents L) (ev0 := []) rfl rfl rfl rfl (TTok _ _ rfl).ok rfl (TTok _ _ rfl).ok (TTok _ _ rfl).ok rfl rfl rfl rfl (Nat.le_refl _) rfl (by decide) ?_ (by rw [hle]; omega) rfl rfl) rfl rfl rfl ?_
      · show (0 + (ents L).length) * 48 ≤ _
        rw [hle]; omega
      rintro _ _ _ ⟨cap, hcap, rfl, rfl, rfl⟩
      refine go_st TTok 100 rfl ?_
      have hcl : AV.nids ([] ++ ents L ++ List.replicate (cap - (0 + (ents L).length)) ti45.ti.zero) = true := by
        rw [List.nil_append, nids_append, ents_nids, nids_replicate _ rfl]; rfl
      refine c_ret ⟨_, .refc 3 0 0 L.length cap, [(0, .arr 3 ([] ++ ents L ++ List.replicate (cap - (0 + (ents L).length)) ti45.ti.zero))], 1, [1], rfl, ⟨cap, _, rfl, rfl, rfl, ?_, ?_, hcl⟩, ?_, ⟨rfl, rfl, rfl, trivial, emb_arr rfl rfl rfl hcl trivial⟩⟩
      · simp only [List.length_append, List.length_nil, List.length_replicate]; omega
      · rw [List.nil_append, List.take_append_of_le_length (by omega), List.take_of_length_le (by omega)]
      · show AV.refc 3 1 0 (0 + (ents L).length) cap = _
        rw [Nat.zero_add, hle]; rfl
theorem cloneR_ok (L : List Ent) (hL : L.length ≤ 2^30) : RunC Tryd.prog 32 [.sl 3 (ents L)] [] 0 (QE (.ref 3 0 0 L.length) [(0, .arr 3 (ents L))] 1) := by
  refine RunC.of_c TIok Tryd.func32 rfl rfl rfl ?_
  refine go_rg TTok 100 rfl ?_
  refine c_opE (op_sleq rfl (TTok _ _ rfl).ok rfl rfl rfl rfl) rfl rfl rfl ?_
  rintro _ _ _ ⟨rfl, rfl, q, rfl, hq, _⟩
  refine go_st TTok 100 rfl ?_
  refine c_cond rfl (fun h => ?_) (fun h => ?_)
  · have hb0 : L = [] := by
      have := hq h
      cases L with
      | nil => rfl
      | cons c r => simp [ents] at this
    subst hb0
    refine go_st TTok 100 rfl ?_
    refine c_ownS 3 (t := 2) rfl ?_
    exact c_ret ⟨_, _, [(0, .arr 3 [])], 1, [0], rfl, ⟨rfl, rfl, rfl⟩, rfl, ⟨rfl, rfl, rfl, trivial, emb_arr rfl rfl rfl rfl trivial⟩⟩
  · refine go_rg TTok 100 rfl ?_
    refine c_op ((al_buildSliceC (vals := []) TIok rfl rfl rfl rfl rfl rfl rfl rfl (by decide)).opS) rfl rfl rfl ?_
    refine go_rg TTok 100 rfl ?_
    by_cases hn : L = []
    · subst hn
      refine c_op (op_appendC_nil rfl rfl rfl rfl (TTok _ _ rfl).ok rfl (TTok _ _ rfl).ok (TTok _ _ rfl).ok rfl rfl rfl rfl rfl) rfl rfl rfl ?_
      refine go_st TTok 100 rfl ?_
      refine c_weakS 2 rfl ?_
      exact c_ret ⟨_, _, [(0, .arr 3 [])], 1, [0], rfl, ⟨rfl, rfl, rfl⟩, rfl, ⟨rfl, rfl, rfl, trivial, emb_arr rfl rfl rfl rfl trivial⟩⟩
    · have hpos : 0 < L.length := List.length_pos_iff.2 hn
      have hle := ents_len L
      refine c_opE (op_appendC_new (els := []) (l2 := ents L) (ev0 := []) rfl rfl rfl rfl (TTok _ _ rfl).ok rfl (TTok _ _ rfl).ok (TTok _ _ rfl).ok rfl rfl rfl rfl (Nat.le_refl _) rfl (by decide) ?_ (by rw [hle]; omega) rfl rfl) rfl rfl rfl ?_
      · show (0 + (ents L).length) * 48 ≤ _
        rw [hle]; omega
      rintro _ _ _ ⟨cap, hcap, rfl, rfl, rfl⟩
      refine go_st TTok 100 rfl ?_
      refine c_weakS 2 rfl ?_
      refine c_shrinkS 1 L.length (els' := ents L) rfl ?_ ?_
      · rw [List.nil_append, List.take_append_of_le_length (by omega), List.take_of_length_le (by omega)]
      refine c_ret ⟨_, _, [(0, .arr 3 (ents L))], 1, [1], rfl, ⟨rfl, rfl, rfl⟩, ?_, ⟨rfl, rfl, rfl, trivial, emb_arr rfl rfl rfl (ents_nids _) trivial⟩⟩
      show AV.ref 3 1 0 (0 + (ents L).length) = _
      rw [Nat.zero_add, hle]; rfl
end Go.Proofs.YtikkobmghmphaaaDoor
namespace Go.Proofs.YtikkobmghmphaaaDoor
open Go Go.Av Go.Tm

set_option maxRecDepth 10000
/-- Of the clone, only what is in it. -/
theorem rdA_refc {hp : Hp} {sz id off len cap : Nat} {els : List AV} (hb : getB hp id = some (.arr sz els)) (h : off + len ≤ els.length) : rdA hp sz (.refc sz id off len cap) = some ((els.drop off).take len) := by
  simp only [rdA, hb, Nat.beq_refl, show Nat.ble (off + len) els.length = true from by rw [Nat.ble_eq]; exact h]
theorem nids_fillE {a b : List AV} (h : AV.nids a = true) (h' : AV.nids b = true) (k : Nat) : AV.nids (fillE a k b) = true := by
  simp only [fillE, nids_append, nids_take h, nids_drop h, h', Bool.and_self]
theorem del_take (els : List AV) (z : List AV) {n i : Nat} (hi : i < n) (hn : n ≤ els.length) :
    (fillE (fillE els i ((els.drop (i + 1)).take (n - (i + 1)))) (n - 1) z).take (n - 1) = (els.take n).eraseIdx i := by
  have h1 : (els.take i ++ (els.drop (i + 1)).take (n - (i + 1))).length = n - 1 := by
    simp only [List.length_append, List.length_take, List.length_drop]; omega
  have h2 : (fillE els i ((els.drop (i + 1)).take (n - (i + 1)))).take (n - 1) = els.take i ++ (els.drop (i + 1)).take (n - (i + 1)) := by
    rw [fillE, List.take_append_of_le_length (by omega), List.take_of_length_le (by omega)]
  rw [show fillE (fillE els i ((els.drop (i + 1)).take (n - (i + 1)))) (n - 1) z = (fillE els i ((els.drop (i + 1)).take (n - (i + 1)))).take (n - 1) ++ z ++ (fillE els i ((els.drop (i + 1)).take (n - (i + 1)))).drop (n - 1 + z.length) from rfl, h2,
    List.append_assoc, List.take_append_of_le_length (by omega), List.take_of_length_le (by omega), List.eraseIdx_eq_take_drop_succ, List.take_take, List.drop_take, Nat.min_eq_left (by omega)]
theorem ents_erase (L : List Ent) (i : Nat) : ents (L.eraseIdx i) = (ents L).eraseIdx i := by
  rw [List.eraseIdx_eq_take_drop_succ, List.eraseIdx_eq_take_drop_succ]
  simp only [ents, List.map_append, List.map_take, List.map_drop]
theorem delete_ok (L : List Ent) (hL : L.length ≤ 2^30) (i : Nat) (hi : i < L.length) :
    RunC Tryd.prog 49 [.ref 3 0 0 L.length, .int .i64 i, .int .i64 ((i + 1 : Nat) : Int)] [(0, .arr 3 (ents L))] 1 (QE (.sl 3 (ents (L.eraseIdx i))) [] 1) := by
  obtain ⟨els, hels⟩ : ∃ els, els = ents L := ⟨_, rfl⟩
  rw [← hels]
  have he : els.take L.length = ents L := by rw [hels, List.take_of_length_le (by rw [ents_len]; exact Nat.le_refl _)]
  have hn : AV.nids els = true := by rw [hels, ents_nids]
  have hle : L.length ≤ els.length := by rw [hels, ents_len]; exact Nat.le_refl _
  refine RunC.of_c TIok Tryd.func49 rfl rfl rfl ?_
  refine c_capS 0 rfl fun cap hcap => ?_
  refine go_rg TTok 100 rfl ?_
  refine c_op (op_slice3 rfl (TTok _ _ rfl).ok rfl (TTok _ _ rfl).ok rfl rfl rfl rfl (by omega) (by omega) (by omega)) rfl rfl rfl ?_
  refine go_st TTok 100 rfl ?_
  refine c_condF rfl (by simp; omega) ?_
  refine go_st TTok 100 rfl ?_
  refine c_dgo TTok mixed rfl rfl rfl rfl ?_
  refine f_opP (fun _ _ => op_slice_refc (l := none) (h := some (i : Int)) (len := L.length) (L := 0) (H := i) (cap := cap) rfl (TTok _ _ rfl).ok rfl (TTok _ _ rfl).ok rfl rfl rfl rfl rfl rfl (by omega) (by omega)) rfl rfl ?_
  refine f_go TTok rfl ?_
  refine f_opP (fun _ _ => op_slice_refc (l := some ((i + 1 : Nat) : Int)) (h := none) (len := L.length) (L := i + 1) (H := L.length) (cap := cap) rfl (TTok _ _ rfl).ok rfl (TTok _ _ rfl).ok rfl rfl rfl rfl rfl rfl (by omega) (by omega)) rfl rfl ?_
  refine f_ef (op_appendC_in (els := els) (l2 := (els.drop (0 + (i + 1))).take (L.length - (i + 1))) rfl rfl rfl rfl (TTok _ _ rfl).ok rfl (TTok _ _ rfl).ok (TTok _ _ rfl).ok rfl rfl rfl rfl ?_ rfl ?_ ?_ ?_).e rfl rfl rfl ?_
  · show 0 + 0 + (i - 0) + ((els.drop (0 + (i + 1))).take (L.length - (i + 1))).length ≤ els.length
    simp only [List.length_take, List.length_drop]; omega
  · exact rdA_refc (els := els) rfl (by omega)
  · show 0 < cap - 0
    omega
  · show (i - 0) + ((els.drop (0 + (i + 1))).take (L.length - (i + 1))).length ≤ cap - 0
    simp only [List.length_take, List.length_drop]; omega
  refine f_go TTok rfl ?_
  refine f_end ?_
  have hlen : (i - 0) + ((els.drop (0 + (i + 1))).take (L.length - (i + 1))).length = L.length - 1 := by
    simp only [List.length_take, List.length_drop]; omega
  refine go_rg TTok 100 rfl ?_
  refine c_op (op_slice_refc (l := some (((i - 0) + ((els.drop (0 + (i + 1))).take (L.length - (i + 1))).length : Nat) : Int)) (h := some (L.length : Int)) (L := L.length - 1) (H := L.length) (cap := cap) rfl (TTok _ _ rfl).ok rfl (TTok _ _ rfl).ok rfl rfl rfl rfl (by rw [hlen]; rfl) rfl (by omega) (by omega)) rfl rfl rfl ?_
  refine c_weak 31 rfl ?_
  have hfl : (fillE els (0 + 0 + (i - 0)) ((els.drop (0 + (i + 1))).take (L.length - (i + 1)))).length = els.length := by
    simp only [fillE, List.length_append, List.length_take, List.length_drop]; omega
  refine c_op0 (op_clear rfl rfl rfl rfl (TTok _ _ rfl).ok rfl (TTok _ _ rfl).ok rfl rfl rfl ?_ ?_) rfl rfl ?_
  · show 0 + (L.length - 1) + (L.length - (L.length - 1)) ≤ (fillE els (0 + 0 + (i - 0)) ((els.drop (0 + (i + 1))).take (L.length - (i + 1)))).length
    rw [hfl]; omega
  · omega
  refine go_st TTok 100 rfl ?_
  have hcl : AV.nids (fillE (fillE els (0 + 0 + (i - 0)) ((els.drop (0 + (i + 1))).take (L.length - (i + 1)))) (0 + (L.length - 1)) (List.replicate (L.length - (L.length - 1)) ti45.ti.zero)) = true := by
    refine nids_fillE (nids_fillE hn (nids_take (nids_drop hn _) _) _) (nids_replicate _ rfl) _
  have hfl2 : ∀ l2 : List AV, l2.length = 1 → (fillE (fillE els (0 + 0 + (i - 0)) ((els.drop (0 + (i + 1))).take (L.length - (i + 1)))) (0 + (L.length - 1)) l2).length = els.length := fun l2 h2 => by
    simp only [fillE, List.length_append, List.length_take, List.length_drop]; omega
  refine c_freezeS 0 [(6, .sl 3 (ents (L.eraseIdx i)))] rfl hcl ⟨⟨_, rfl, snap_refc rfl ?_ ?_⟩, trivial⟩ ?_
  · show 0 + ((i - 0) + ((els.drop (0 + (i + 1))).take (L.length - (i + 1))).length) ≤ _
    rw [hlen, hfl2 _ (by simp; omega)]; omega
  · show List.take ((i - 0) + ((els.drop (0 + (i + 1))).take (L.length - (i + 1))).length) _ = _
    rw [hlen, ents_erase, ← he]
    simpa only [Nat.zero_add, Nat.sub_zero, List.drop_zero] using del_take els _ hi hle
  exact c_ret ⟨_, _, [], 1, [0], rfl, ⟨rfl, rfl, rfl⟩, rfl, ⟨rfl, rfl, rfl, trivial, trivial⟩⟩
end Go.Proofs.YtikkobmghmphaaaDoor
namespace Go.Proofs.YtikkobmghmphaaaDoor
open Go Go.Av Go.Tm

set_option maxRecDepth 10000
theorem ins_list (els : List AV) (e : AV) (z : List AV) {n i : Nat} (hi : i ≤ n) (hn : n ≤ els.length) (X : List AV) (hX : X.take i = els.take i) (hX2 : (X.drop (i + 1)).take (n - i) = (els.drop i).take (n - i)) (hl : n + 1 ≤ X.length) :
    (fillE X i [e]).take (n + 1) = els.take i ++ e :: (els.drop i).take (n - i) := by
  have h1 : (X.take i).length = i := by rw [List.length_take]; omega
  rw [fillE, hX] at *
  rw [show n + 1 = i + (1 + (n - i)) by omega, List.append_assoc, List.take_append, h1, List.take_of_length_le (by omega), Nat.add_sub_cancel_left]
  rw [List.singleton_append, Nat.add_comm 1, List.take_succ_cons, ← hX2]
  rfl
theorem ins_list2 (e : AV) (Y A R : List AV) {n i : Nat} (hA : A.length = i) (hR : R.length = n - i) (hi : i ≤ n) (hY : Y.take i = A) (hl : n + 1 ≤ Y.length) :
    (fillE (fillE Y i [e]) (i + 1) R).take (n + 1) = A ++ e :: R := by
  have h1 : (fillE Y i [e]).take (i + 1) = A ++ [e] := by
    rw [fillE, hY, List.take_append_of_le_length (by simp; omega), List.take_of_length_le (by simp; omega)]
  rw [show fillE (fillE Y i [e]) (i + 1) R = (fillE Y i [e]).take (i + 1) ++ R ++ (fillE Y i [e]).drop (i + 1 + R.length) from rfl, h1, List.take_append_of_le_length (by simp; omega), List.take_of_length_le (by simp; omega)]
  simp
theorem ents_ins (L : List Ent) (i : Nat) (e : Ent) : ents (L.take i ++ e :: L.drop i) = (ents L).take i ++ e.av :: (ents L).drop i := by
  simp only [ents, List.map_append, List.map_take, List.map_drop, List.map_cons]
theorem insert_ok (L : List Ent) (hL : L.length ≤ 2^30) (els : List AV) (e : Ent) (i : Nat) (hi : i ≤ L.length) (he : els.take L.length = ents L) (hn : AV.nids els = true) :
    RunC Tryd.prog 56 [.refc 3 0 0 L.length els.length, .int .i64 i, .ref 3 1 0 1] [(0, .arr 3 els), (1, .arr 3 [e.av])] 2 (QE (.sl 3 (ents (L.take i ++ e :: L.drop i))) [] 2) := by
  have hle : L.length ≤ els.length := by
    have := congrArg List.length he
    rw [List.length_take, ents_len] at this; omega
  have hwn : IntKind.i64.wrap ((L.length : Nat) + ((1 : Nat) : Int) : Int) = ((L.length + 1 : Nat) : Int) := by rw [IntWalk.i64_in _ ⟨by omega, by omega⟩]; omega
  have hwi : IntKind.i64.wrap ((i : Nat) + ((1 : Nat) : Int) : Int) = ((i + 1 : Nat) : Int) := by rw [IntWalk.i64_in _ ⟨by omega, by omega⟩]; omega
  refine RunC.of_c TIok Tryd.func56 rfl rfl rfl ?_
  refine go_rg TTok 100 rfl ?_
  refine c_op (op_slice_refc (l := some (i : Int)) (h := none) (L := i) (H := L.length) rfl (TTok _ _ rfl).ok rfl (TTok _ _ rfl).ok rfl rfl rfl rfl rfl rfl (by omega) (by omega)) rfl rfl rfl ?_
  refine go_st TTok 100 rfl ?_
  refine c_condF rfl (by decide) ?_
  refine go_st TTok 100 rfl ?_
  refine c_cond rfl (fun h1 => ?_) (fun h1 => ?_)
  · have h1 : i = L.length := by simp at h1; omega
    subst h1
    have hfin : ents (L.take L.length ++ e :: L.drop L.length) = ents L ++ [e.av] := by
      rw [List.take_of_length_le (Nat.le_refl _), List.drop_of_length_le (Nat.le_refl _)]; simp [ents]
    have heL := ents_len L
    refine go_rg TTok 100 rfl ?_
    by_cases h2 : L.length + 1 ≤ els.length
    · refine c_op (op_appendC_in (els := els) (l2 := [e.av]) rfl rfl rfl rfl (TTok _ _ rfl).ok rfl (TTok _ _ rfl).ok (TTok _ _ rfl).ok rfl rfl rfl rfl ?_ rfl rfl (by omega) h2) rfl rfl rfl ?_
      · show 0 + L.length + 1 ≤ els.length
        omega
      refine go_st TTok 100 rfl ?_
      refine c_freezeS 0 [(6, .sl 3 (ents (L.take L.length ++ e :: L.drop L.length)))] rfl (nids_fillE hn rfl _) ⟨⟨_, rfl, snap_refc rfl ?_ ?_⟩, trivial⟩ ?_
      · show 0 + (L.length + 1) ≤ (fillE els (0 + L.length) [e.av]).length
        simp only [fillE, List.length_append, List.length_take, List.length_drop, List.length_singleton]; omega
      · show List.take (L.length + 1) (List.drop 0 (fillE els (0 + L.length) [e.av])) = _
        rw [hfin, List.drop_zero, Nat.zero_add, fillE, he, List.take_append_of_le_length (by simp; omega), List.take_of_length_le (by simp; omega)]
      exact c_ret ⟨_, _, [], 2, [0, 1], rfl, ⟨rfl, rfl, rfl⟩, rfl, ⟨rfl, rfl, rfl, trivial, trivial⟩⟩
    · refine c_opE (op_appendC_new (els := els) (l2 := [e.av]) (ev0 := ents L) rfl rfl rfl rfl (TTok _ _ rfl).ok rfl (TTok _ _ rfl).ok (TTok _ _ rfl).ok rfl rfl rfl rfl (by omega) (by simpa using he) (by decide) ?_ (by show els.length < L.length + 1; omega) rfl rfl) rfl rfl rfl ?_
      · show (L.length + 1) * 48 ≤ _
        omega
      rintro _ _ _ ⟨cap, hcap, rfl, rfl, rfl⟩
      refine go_st TTok 100 rfl ?_
      refine c_freezeS 2 [(6, .sl 3 (ents (L.take L.length ++ e :: L.drop L.length)))] rfl ?_ ⟨⟨_, rfl, snap_refc rfl ?_ ?_⟩, trivial⟩ ?_
      · rw [nids_append, nids_append, ents_nids, nids_replicate _ rfl]; rfl
      · show 0 + (L.length + 1) ≤ (ents L ++ [e.av] ++ _).length
        simp only [List.length_append, List.length_singleton]; omega
      · show List.take (L.length + 1) (List.drop 0 (ents L ++ [e.av] ++ _)) = _
        rw [hfin, List.drop_zero, List.take_append_of_le_length (by simp; omega), List.take_of_length_le (by simp; omega)]
      exact c_ret ⟨_, _, [], 2, [0, 1], rfl, ⟨rfl, rfl, rfl⟩, rfl, ⟨rfl, rfl, rfl, trivial, trivial⟩⟩
  have h1 : i < L.length := by simp at h1; omega
  refine go_rg TTok 100 rfl ?_
  refine c_op (op_cap rfl rfl rfl rfl (TTok _ _ rfl).ok rfl rfl) rfl rfl rfl ?_
  refine go_st TTok 100 rfl ?_
  refine c_cond rfl (fun h2 => ?_) (fun h2 => ?_)
  · have h2 : els.length < L.length + 1 := by
      have h2 : (els.length : Int) < IntKind.i64.wrap ((L.length : Nat) + ((1 : Nat) : Int) : Int) := by simpa using h2
      omega
    refine go_rg TTok 100 rfl ?_
    refine c_op (op_slice_refc (l := none) (h := some (i : Int)) (L := 0) (H := i) rfl (TTok _ _ rfl).ok rfl (TTok _ _ rfl).ok rfl rfl rfl rfl rfl rfl (by omega) (by omega)) rfl rfl rfl ?_
    refine go_rg TTok 100 rfl ?_
    have hwk : IntKind.i64.wrap (IntKind.i64.wrap ((L.length : Nat) + ((1 : Nat) : Int) : Int) - (i : Int)) = ((L.length + 1 - i : Nat) : Int) := by rw [hwn, IntWalk.i64_in _ ⟨by omega, by omega⟩]; omega
    refine c_say 39 (.int .i64 ((L.length + 1 - i : Nat) : Int)) rfl (congrArg (AV.int .i64) hwk) ?_
    refine c_opE (op_appendC_make (els := els) (ev0 := els.take i) (k := L.length + 1 - i) rfl rfl rfl rfl (TTok _ _ rfl).ok rfl (TTok _ _ rfl).ok (TTok _ _ rfl).ok rfl rfl rfl rfl (by omega) (by simp) (by decide) (by decide) ?_ (by omega) rfl (by omega) (by omega) (by omega)) rfl rfl rfl ?_
    · show (i - 0 + (L.length + 1 - i)) * 48 ≤ _
      omega
    rintro _ _ _ ⟨cap, hcap, rfl, rfl, rfl⟩
    generalize hY : els.take i ++ List.replicate (L.length + 1 - i) ti45.ti.zero ++ List.replicate (cap - (i - 0 + (L.length + 1 - i))) ti45.ti.zero = Y
    have hYl : L.length + 1 ≤ Y.length := by
      subst hY; simp only [List.length_append, List.length_take, List.length_replicate]; omega
    have hYn : AV.nids Y = true := by
      subst hY; rw [nids_append, nids_append, nids_take hn, nids_replicate _ rfl, nids_replicate _ rfl]; rfl
    have hYt : Y.take i = els.take i := by
      subst hY; rw [List.append_assoc, List.take_append_of_le_length (by simp; omega), List.take_of_length_le (by rw [List.length_take]; omega)]
    refine go_rg TTok 100 rfl ?_
    refine c_op (op_slice_refc (l := some (i : Int)) (h := none) (L := i) rfl (TTok _ _ rfl).ok rfl (TTok _ _ rfl).ok rfl rfl rfl rfl rfl rfl (by omega) (by omega)) rfl rfl rfl ?_
    refine go_rg TTok 100 rfl ?_
    refine c_op (OpS.weak 43 rfl (op_copy (l2 := [e.av]) (k := 1) rfl rfl rfl rfl (TTok _ _ rfl).ok rfl (TTok _ _ rfl).ok rfl rfl rfl ?_ rfl rfl ?_ ?_)) rfl rfl rfl ?_
    · show 0 + i + (i - 0 + (L.length + 1 - i) - i) ≤ Y.length
      omega
    · omega
    · show min 1 (i - 0 + (L.length + 1 - i) - i) = 1
      omega
    refine go_st TTok 100 rfl ?_
    refine c_dgo TTok mixed rfl rfl rfl rfl ?_
    refine f_opP (fun _ _ => op_slice_refc (l := some (IntKind.i64.wrap ((i : Nat) + ((1 : Nat) : Int) : Int))) (h := none) (L := i + 1) rfl (TTok _ _ rfl).ok rfl (TTok _ _ rfl).ok rfl rfl rfl rfl hwi rfl (by omega) (by omega)) rfl rfl ?_
    refine f_go TTok rfl ?_
    refine f_opP (fun _ _ => op_slice_refc (l := some (i : Int)) (h := none) (L := i) rfl (TTok _ _ rfl).ok rfl (TTok _ _ rfl).ok rfl rfl rfl rfl rfl rfl (by omega) (by omega)) rfl rfl ?_
    have hk : min (List.take (L.length - i) (List.drop (0 + i) els)).length (i - 0 + (L.length + 1 - i) - (i + 1)) = L.length - i := by
      simp only [List.length_take, List.length_drop]; omega
    refine f_ef (OpS.weak 50 rfl (op_copy (l2 := List.take (L.length - i) (List.drop (0 + i) els)) (k := L.length - i) rfl rfl rfl rfl (TTok _ _ rfl).ok rfl (TTok _ _ rfl).ok rfl rfl rfl ?_ rfl ?_ ?_ hk)).e rfl rfl rfl ?_
    · show 0 + (i + 1) + (i - 0 + (L.length + 1 - i) - (i + 1)) ≤ (fillE Y (0 + i) [e.av]).length
      simp only [fillE, List.length_append, List.length_take, List.length_drop, List.length_singleton]; omega
    · exact rdA_refc (els := els) rfl (by omega)
    · omega
    refine f_go TTok rfl ?_
    refine f_end ?_
    refine go_st TTok 100 rfl ?_
    refine c_freezeS 2 [(6, .sl 3 (ents (L.take i ++ e :: L.drop i)))] rfl (nids_fillE (nids_fillE hYn rfl _) (nids_take (nids_take (nids_drop hn _) _) _) _) ⟨⟨_, rfl, snap_refc rfl ?_ ?_⟩, trivial⟩ ?_
    · show 0 + (i - 0 + (L.length + 1 - i)) ≤ (fillE (fillE Y (0 + i) [e.av]) (0 + (i + 1)) (List.take (L.length - i) (List.take (L.length - i) (List.drop (0 + i) els)))).length
      simp only [fillE, List.length_append, List.length_take, List.length_drop, List.length_singleton]; omega
    · show List.take (i - 0 + (L.length + 1 - i)) (List.drop 0 (fillE (fillE Y (0 + i) [e.av]) (0 + (i + 1)) (List.take (L.length - i) (List.take (L.length - i) (List.drop (0 + i) els))))) = _
      rw [ents_ins, ← he, show i - 0 + (L.length + 1 - i) = L.length + 1 by omega]
      simp only [Nat.zero_add, List.drop_zero]
      rw [ins_list2 e.av Y (els.take i) _ (by simp; omega) (by simp; omega) hi hYt hYl, List.take_take, List.take_take, Nat.min_self, Nat.min_eq_left hi, List.drop_take]
    exact c_ret ⟨_, _, [], 2, [0, 1], rfl, ⟨rfl, rfl, rfl⟩, rfl, ⟨rfl, rfl, rfl, trivial, trivial⟩⟩
  have h2 : ¬ els.length < L.length + 1 := by
    have h2 : ¬ (els.length : Int) < IntKind.i64.wrap ((L.length : Nat) + ((1 : Nat) : Int) : Int) := by simpa using h2
    omega
  refine go_rg TTok 100 rfl ?_
  refine c_op (op_slice_refc (l := none) (h := some (IntKind.i64.wrap ((L.length : Nat) + ((1 : Nat) : Int) : Int))) (L := 0) (H := L.length + 1) rfl (TTok _ _ rfl).ok rfl (TTok _ _ rfl).ok rfl rfl rfl rfl rfl hwn (by omega) (by omega)) rfl rfl rfl ?_
  refine go_rg TTok 100 rfl ?_
  refine c_op (op_slice_refc (l := some (IntKind.i64.wrap ((i : Nat) + ((1 : Nat) : Int) : Int))) (h := none) (L := i + 1) (H := L.length + 1) rfl (TTok _ _ rfl).ok rfl (TTok _ _ rfl).ok rfl rfl rfl rfl hwi rfl (by omega) (by omega)) rfl rfl rfl ?_
  refine c_op (op_overlaps (tS := 28) (rs := #[4]) rfl rfl rfl rfl Tryd.func70 (by kernel_rfl) rfl (by kernel_rfl) (by kernel_rfl) rfl (TTok _ _ rfl).ok rfl (TTok _ _ rfl).ok rfl rfl (by decide) (by decide) (by omega) (by decide)) rfl rfl rfl ?_
  refine go_st TTok 100 rfl ?_
  refine c_dgo TTok mixed rfl rfl rfl rfl ?_
  refine f_opP (fun _ _ => op_slice_refc (l := some (IntKind.i64.wrap ((i : Nat) + ((1 : Nat) : Int) : Int))) (h := none) (L := i + 1) (H := L.length + 1) rfl (TTok _ _ rfl).ok rfl (TTok _ _ rfl).ok rfl rfl rfl rfl hwi rfl (by omega) (by omega)) rfl rfl ?_
  refine f_go TTok rfl ?_
  refine f_opP (fun _ _ => op_slice_refc (l := some (i : Int)) (h := none) (L := i) (H := L.length + 1) rfl (TTok _ _ rfl).ok rfl (TTok _ _ rfl).ok rfl rfl rfl rfl rfl rfl (by omega) (by omega)) rfl rfl ?_
  have hk : min (List.take (L.length + 1 - i) (List.drop (0 + i) els)).length (L.length + 1 - (i + 1)) = L.length - i := by
    simp only [List.length_take, List.length_drop]; omega
  refine f_ef (OpS.weak 73 rfl (op_copy (l2 := List.take (L.length + 1 - i) (List.drop (0 + i) els)) (k := L.length - i) rfl rfl rfl rfl (TTok _ _ rfl).ok rfl (TTok _ _ rfl).ok rfl rfl rfl ?_ rfl ?_ ?_ hk)).e rfl rfl rfl ?_
  · show 0 + 0 + (i + 1) + (L.length + 1 - (i + 1)) ≤ els.length
    omega
  · exact rdA_refc (els := els) rfl (by omega)
  · omega
  refine f_go TTok rfl ?_
  refine f_end ?_
  refine go_rg TTok 100 rfl ?_
  refine c_op (op_slice_refc (l := some (i : Int)) (h := none) (L := i) (H := L.length + 1) rfl (TTok _ _ rfl).ok rfl (TTok _ _ rfl).ok rfl rfl rfl rfl rfl rfl (by omega) (by omega)) rfl rfl rfl ?_
  refine go_rg TTok 100 rfl ?_
  generalize hX : fillE els (0 + 0 + (i + 1)) (List.take (L.length - i) (List.take (L.length + 1 - i) (List.drop (0 + i) els))) = X
  have hXl : X.length = els.length := by
    subst hX; simp only [fillE, List.length_append, List.length_take, List.length_drop]; omega
  have hXn : AV.nids X = true := by
    subst hX; exact nids_fillE hn (nids_take (nids_take (nids_drop hn _) _) _) _
  refine c_op (OpS.weak 80 rfl (op_copy (l2 := [e.av]) (k := 1) rfl rfl rfl rfl (TTok _ _ rfl).ok rfl (TTok _ _ rfl).ok rfl rfl rfl ?_ rfl rfl ?_ ?_)) rfl rfl rfl ?_
  · show 0 + 0 + i + (L.length + 1 - i) ≤ X.length
    omega
  · omega
  · show min 1 (L.length + 1 - i) = 1
    omega
  refine go_st TTok 100 rfl ?_
  refine c_freezeS 0 [(6, .sl 3 (ents (L.take i ++ e :: L.drop i)))] rfl (nids_fillE hXn rfl _) ⟨⟨_, rfl, snap_refc rfl ?_ ?_⟩, trivial⟩ ?_
  · show 0 + 0 + (L.length + 1 - 0) ≤ (fillE X (0 + 0 + i) [e.av]).length
    simp only [fillE, List.length_append, List.length_take, List.length_drop, List.length_singleton]; omega
  · show List.take (L.length + 1 - 0) (List.drop (0 + 0) (fillE X (0 + 0 + i) [e.av])) = _
    have hli : L.length - i + i = L.length := by omega
    rw [ents_ins, ← he]
    simp only [Nat.zero_add, Nat.sub_zero, List.drop_zero] at hX ⊢
    rw [ins_list els e.av [] hi hle X ?_ ?_ (by omega)]
    · rw [List.take_take, Nat.min_eq_left hi, List.drop_take]
    · subst hX
      rw [fillE, List.append_assoc, List.take_append_of_le_length (by simp; omega), List.take_take, Nat.min_eq_left (by omega)]
    · subst hX
      have e1 : (els.take (i + 1)).length = i + 1 := by simp; omega
      rw [fillE, List.append_assoc, List.drop_append, e1, Nat.sub_self, List.drop_of_length_le (by omega), List.nil_append, List.drop_zero, List.take_append_of_le_length (by simp; omega), List.take_take, List.take_take]
      congr 1
      omega
  exact c_ret ⟨_, _, [], 2, [0, 1], rfl, ⟨rfl, rfl, rfl⟩, rfl, ⟨rfl, rfl, rfl, trivial, trivial⟩⟩
end Go.Proofs.YtikkobmghmphaaaDoor
namespace Go.Proofs.YtikkobmghmphaaaDoor
open Go Go.Av Go.Tm

set_option maxRecDepth 10000
def kidK (l : List Ent) (p : List UInt8) (k : Nat) : List (List UInt8) := ((l.take k).filter fun e => upN e.path == p).map (·.path)
theorem kidK_next (l : List Ent) (p : List UInt8) {k : Nat} (h : k < l.length) : kidK l p (k + 1) = kidK l p k ++ (if upN l[k].path == p then [l[k].path] else []) := by
  rw [kidK, List.take_succ_eq_append_getElem h, List.filter_append, List.map_append, kidK]
  congr 1
  by_cases hh : upN l[k].path == p
  · rw [if_pos hh]; simp only [List.filter, hh]; rfl
  · rw [if_neg hh]; simp only [Bool.not_eq_true] at hh; simp only [List.filter, hh]; rfl
theorem kidK_len (l : List Ent) (p : List UInt8) (k : Nat) : (kidK l p k).length ≤ k := by
  rw [kidK, List.length_map]
  exact Nat.le_trans (List.length_filter_le _ _) (by rw [List.length_take]; omega)
theorem strs_nids (l : List (List UInt8)) : AV.nids (strs l) = true := nids_map _ _ fun _ => rfl
theorem strs_len (l : List (List UInt8)) : (strs l).length = l.length := by simp [strs]
theorem kids_ok (l : List Ent) (p : List UInt8) (h : Sm l) : PureC Tryd.prog 48 [treeAV l, .str p] (.sl 1 (strs (kidsT l p))) := by
  have hlen := h.len
  refine PureC.of_le TIok Tryd.func48 rfl rfl rfl rfl ?_
  refine go_rg TTok 100 rfl ?_
  refine c_call (good_ok l h) rfl rfl rfl rfl ct14 rfl rfl rfl rfl ?_
  refine go_st TTok 100 rfl ?_
  refine c_cond rfl (fun h1 => ?_) (fun h1 => ?_)
  · have h1 : goodT l = false := by simpa using h1
    refine go_st TTok 100 rfl ?_
    exact c_ret ⟨_, rfl, by rw [kidsT, h1]; exact le_nilsl 1⟩
  have h1 : goodT l = true := by simpa using h1
  refine go_st TTok 100 rfl ?_
  refine c_ownS 1 (t := 5) rfl ?_
  refine c_loopP (ι := Nat) (fun k => k ≤ l.length) (fun x => [(1, .str p), (5, .ref 1 1 0 (kidK l p x).length), (14, .sl 3 (ents l)), (15, .int .i64 ((ents l).length : Nat)), (16, .int .i64 (x : Nat))])
    (fun x => [(1, .arr 1 (strs (kidK l p x)))]) 2 (fun x => l.length - x) 0 (Nat.zero_le _) [0, 1] ⟨rfl, rfl, rfl, ⟨rfl, rfl, rfl, rfl, rfl, trivial⟩, ⟨rfl, trivial⟩⟩ ?_
  intro k hk
  refine go_st TTok 100 rfl ?_
  refine c_cond rfl (fun hc => ?_) (fun hc => ?_)
  rotate_left
  · have hk : k = l.length := by simp [ents] at hc; omega
    subst hk
    refine go_st TTok 100 rfl ?_
    refine c_freezeS 1 [(4, .sl 1 (strs (kidsT l p)))] rfl (strs_nids _) ⟨⟨_, rfl, snap_ref rfl ?_ ?_⟩, trivial⟩ ?_
    · rw [strs_len]; omega
    · rw [List.drop_zero, List.take_of_length_le (by rw [strs_len]; exact Nat.le_refl _), kidsT, h1, kidK, List.take_of_length_le (Nat.le_refl _)]; rfl
    exact c_ret ⟨_, rfl, Le.rfl⟩
  have hk : k < l.length := by simp [ents] at hc; omega
  have hmem : l[k] ∈ l := List.getElem_mem hk
  have hpl := h.path _ hmem
  have hw : IntKind.i64.wrap ((k : Nat) + 1 : Int) = ((k + 1 : Nat) : Int) := by rw [IntWalk.i64_in _ ⟨by omega, by omega⟩]; omega
  have hkl := kidK_len l p k
  refine go_rg TTok 100 rfl ?_
  refine c_op (op_indexAddr_sl rfl (TTok _ _ rfl).ok rfl (TTok _ _ rfl).ok rfl rfl rfl (by omega) (by rw [ents_len]; omega) (ents_get l hk)) rfl rfl rfl ?_
  refine go_rg TTok 100 rfl ?_
  refine c_call (up_ok l[k].path (by omega)) rfl rfl rfl rfl ct27 rfl rfl rfl rfl ?_
  refine go_st TTok 100 rfl ?_
  refine c_cond rfl (fun h2 => ?_) (fun h2 => ?_)
  · have hn := kidK_next l p hk
    rw [if_pos (show (upN l[k].path == p) = true from h2)] at hn
    refine go_rg TTok 100 rfl ?_
    refine c_op ((al_buildSlice (vals := [.str l[k].path]) TIok rfl rfl rfl rfl rfl rfl rfl rfl rfl).opS) rfl rfl rfl ?_
    refine go_rg TTok 100 rfl ?_
    refine c_op (op_append (els := strs (kidK l p k)) (l2 := [.str l[k].path]) rfl rfl rfl rfl (TTok _ _ rfl).ok rfl (TTok _ _ rfl).ok (TTok _ _ rfl).ok rfl rfl rfl rfl ?_ rfl rfl (by decide) ?_) rfl rfl rfl ?_
    · rw [strs_len]; omega
    · show ((kidK l p k).length + 1) * 16 ≤ _
      omega
    refine go_st TTok 100 rfl ?_
    refine c_inv ⟨k + 1, [0, 4], hk, by show l.length - (k + 1) < l.length - k; omega, rfl, rfl, rfl, ⟨rfl, ?_, rfl, rfl, congrArg (fun x => some (AV.int .i64 x)) hw, trivial⟩, ?_⟩
    · show some (AV.ref 1 4 0 ((kidK l p k).length + 1)) = _
      rw [hn, List.length_append]; rfl
    · refine emb_arr rfl rfl ?_ (strs_nids _) trivial
      rw [hn]; simp [strs]
  · have hn := kidK_next l p hk
    rw [if_neg (show ¬ (upN l[k].path == p) = true from by rw [show (upN l[k].path == p) = false from h2]; decide), List.append_nil] at hn
    refine go_st TTok 100 rfl ?_
    refine c_inv ⟨k + 1, [0, 1], hk, by show l.length - (k + 1) < l.length - k; omega, rfl, rfl, rfl, ⟨rfl, by rw [hn]; rfl, rfl, rfl, congrArg (fun x => some (AV.int .i64 x)) hw, trivial⟩, ?_⟩
    exact emb_arr rfl rfl (by rw [hn]) (strs_nids _) trivial
end Go.Proofs.YtikkobmghmphaaaDoor
namespace Go.Proofs.YtikkobmghmphaaaDoor
open Go Go.Av Go.Tm

set_option maxRecDepth 10000
theorem row_run {L : List Ent} {hp hp2 : Hp} {nx nx2 : Nat} {av : AV} (h : ∃ r hp' nx', rowQ L 0 1 r hp' nx' ∧ av = r.ren (mg [] nx) ∧ hp2 = backH [] nx hp hp' ∧ nx2 = Nat.add nx (Nat.sub nx' 0)) :
    ∃ c els, av = .refc 3 nx 0 L.length c ∧ hp2 = (nx, .arr 3 els) :: hp ∧ nx2 = Nat.succ nx ∧ els.length = c ∧ els.take L.length = ents L ∧ AV.nids els = true := by
  obtain ⟨r, hp', nx', ⟨c, els, rfl, rfl, rfl, h1, h2, h3⟩, rfl, rfl, rfl⟩ := h
  refine ⟨c, els, rfl, ?_, rfl, h1, h2, h3⟩
  show (nx, Blk.arr 3 (AV.rens _ els)) :: hp = _
  rw [AV.rens_nid _ _ h3]
theorem els_get {L : List Ent} {els : List AV} (h : els.take L.length = ents L) {k : Nat} (hk : k < L.length) : els[k]? = some (L[k]).av := by
  have := ents_get L hk
  rw [← h, List.getElem?_take, if_pos hk] at this
  exact this
theorem ents_set (L : List Ent) (k : Nat) (e : Ent) : (ents L).set k e.av = ents (L.set k e) := by simp [ents, List.map_set]
theorem set_take {els l : List AV} {n : Nat} (h : els.take n = l) (k : Nat) (v : AV) : (els.set k v).take n = l.set k v := by
  rw [← h, List.take_set]
theorem nids_set {l : List AV} {a : AV} (h : AV.nids l = true) (ha : a.nid = true) (k : Nat) : AV.nids (l.set k a) = true := by
  rw [nids_iff] at *
  intro x hx
  rcases List.mem_or_eq_of_mem_set hx with hx | rfl
  · exact h x hx
  · exact ha
theorem with_ok (L : List Ent) (e : Ent) (h : Sm L) (hl : L.length < 2^30) (h1 : e.path.length ≤ 2^30) (h2 : e.b.length ≤ 2^30) :
    PureC Tryd.prog 47 [treeAV L, e.av] (.tuple [treeAV (withT L e).1, .int .i64 (withT L e).2]) := by
  have hlen := h.len
  refine PureC.of_c TIok Tryd.func47 rfl rfl rfl rfl ?_
  refine go_rg TTok 100 rfl ?_
  refine c_call (upE_ok L e.path h h1) rfl rfl rfl rfl ct55 rfl rfl rfl rfl ?_
  refine go_st TTok 100 rfl ?_
  refine c_cond rfl (fun h3 => ?_) (fun h3 => ?_)
  · have h3 : upE L e.path ≠ 0 := by simpa using h3
    have e1 : withT L e = (L, upE L e.path) := by rw [withT, if_pos h3]
    refine go_st TTok 100 rfl ?_
    exact c_ret ⟨_, rfl, by rw [e1]; rfl⟩
  have h3 : ¬ upE L e.path ≠ 0 := by simpa using h3
  refine go_rg TTok 100 rfl ?_
  refine c_opE ((OpE.run (cloneE_ok L hlen) rfl rfl rfl rfl ct32 [] rfl rfl rfl trivial rfl).mono fun _ _ _ => row_run) rfl rfl rfl ?_
  rintro _ _ _ ⟨c, els, rfl, rfl, rfl, hc, ht, hn⟩
  have hle : L.length ≤ els.length := by
    have := congrArg List.length ht
    rw [List.length_take, ents_len] at this; omega
  refine go_rg TTok 100 rfl ?_
  refine c_callS (find_ok L e.path h h1) rfl rfl rfl rfl ct30 (by
    show [AV.snap _ (.refc 3 3 0 L.length c), .str e.path] = [.sl 3 (ents L), .str e.path]
    rw [snap_refc (r := ents L) rfl (by omega) (by rw [List.drop_zero]; exact ht)]) ⟨hn, rfl, rfl, rfl, trivial⟩ rfl rfl rfl rfl rfl ?_
  have hfi := findI_le L e.path
  have fin : ∀ (M : List Ent), (if findOk L e.path then L.set (findI L e.path) e else L.take (findI L e.path) ++ e :: L.drop (findI L e.path)) = M → ¬ (findOk L e.path = true ∧ (L.getD (findI L e.path) default).dir = true) →
      withT L e = if 40 < M.length ∨ 2048 < e.b.length ∨ 16384 < cnt M then (L, 9) else (M, 0) := fun M hM hd => by
    rw [withT, if_neg h3, if_neg hd]; subst hM; rfl
  refine go_rg TTok 100 rfl ?_
  cases hok : findOk L e.path
  · refine c_known 37 false rfl rfl ?_
    refine go_st TTok 100 rfl ?_
    refine c_condF rfl rfl ?_
    refine go_rg TTok 100 rfl ?_
    refine c_call (own_ok e (by omega)) rfl rfl rfl rfl ct31 rfl rfl rfl rfl ?_
    refine go_rg TTok 100 rfl ?_
    refine c_op ((al_buildSlice (vals := [e.av]) TIok rfl rfl rfl rfl rfl rfl rfl rfl rfl).opS) rfl rfl rfl ?_
    refine go_rg TTok 100 rfl ?_
    subst hc
    refine c_run (insert_ok L hlen els e (findI L e.path) hfi ht hn) [3, 4] rfl rfl rfl rfl ct56 rfl rfl rfl ?_ rfl rfl rfl rfl rfl rfl rfl ?_
    · exact emb_arr rfl rfl rfl hn (emb_arr rfl rfl rfl rfl trivial)
    obtain ⟨M, hM⟩ : ∃ M, M = L.take (findI L e.path) ++ e :: L.drop (findI L e.path) := ⟨_, rfl⟩
    have hf := fin M (by rw [hok, hM]; rfl) (by rw [hok]; simp)
    rw [← hM]
    have hSm : Sm M := hM ▸ h.ins hl h1 h2 _
    have hel := ents_len M
    refine go_rg TTok 100 rfl ?_
    refine c_split 55 rfl (fun h4 => ?_) (fun h4 => ?_)
    · have h4 : 40 < M.length := by simp [hel] at h4; omega
      have e1 : withT L e = (L, 9) := by rw [hf, if_pos (.inl h4)]
      refine go_st TTok 100 rfl ?_
      exact c_ret ⟨_, rfl, by rw [e1]; rfl⟩
    have h4 : ¬ 40 < M.length := by simp [hel] at h4; omega
    refine go_rg TTok 100 rfl ?_
    refine c_split 61 rfl (fun h5 => ?_) (fun h5 => ?_)
    · have h5 : 2048 < e.b.length := by simp [bys] at h5; omega
      have e1 : withT L e = (L, 9) := by rw [hf, if_pos (.inr (.inl h5))]
      refine go_st TTok 100 rfl ?_
      exact c_ret ⟨_, rfl, by rw [e1]; rfl⟩
    have h5 : ¬ 2048 < e.b.length := by simp [bys] at h5; omega
    refine go_rg TTok 100 rfl ?_
    refine c_call (count_ok' M hSm) rfl rfl rfl rfl ct26 rfl rfl rfl rfl ?_
    refine go_st TTok 100 rfl ?_
    refine c_cond rfl (fun h6 => ?_) (fun h6 => ?_)
    · have h6 : 16384 < cnt M := by simp at h6; omega
      have e1 : withT L e = (L, 9) := by rw [hf, if_pos (.inr (.inr h6))]
      refine go_st TTok 100 rfl ?_
      exact c_ret ⟨_, rfl, by rw [e1]; rfl⟩
    have h6 : ¬ 16384 < cnt M := by simp at h6; omega
    have e1 : withT L e = (M, 0) := by rw [hf, if_neg (by rintro (h | h | h); exact h4 h; exact h5 h; exact h6 h)]
    refine go_st TTok 100 rfl ?_
    exact c_ret ⟨_, rfl, by rw [e1]; rfl⟩
  · have hlt : findI L e.path < L.length := by
      simp [findOk] at hok; exact hok.1
    have hgD : L.getD (findI L e.path) default = L[findI L e.path] := by simp [List.getD, hlt]
    refine c_known 37 true rfl rfl ?_
    refine go_rg TTok 100 rfl ?_
    refine c_op (OpS.weak 38 rfl (op_indexAddr_ref rfl (TTok _ _ rfl).ok rfl (TTok _ _ rfl).ok rfl rfl rfl (by omega) (by omega))) rfl rfl rfl ?_
    refine go_rg TTok 100 rfl ?_
    refine c_eptr 41 rfl ?_
    refine c_op (op_load_part (e := L[findI L e.path].av) rfl (TTok _ _ rfl).ok rfl rfl (by rw [Nat.zero_add, Int.toNat_natCast]; exact els_get ht hlt) rfl) rfl rfl rfl ?_
    refine go_st TTok 100 rfl ?_
    refine c_cond rfl (fun h7 => ?_) (fun h7 => ?_)
    · have e1 : withT L e = (L, 7) := by rw [withT, if_neg h3, if_pos ⟨hok, by rw [hgD]; exact h7⟩]
      refine go_st TTok 100 rfl ?_
      exact c_ret ⟨_, rfl, by rw [e1]; rfl⟩
    refine go_st TTok 100 rfl ?_
    refine c_condT rfl rfl ?_
    refine go_rg TTok 100 rfl ?_
    refine c_call (own_ok e (by omega)) rfl rfl rfl rfl ct31 rfl rfl rfl rfl ?_
    refine go_rg TTok 100 rfl ?_
    refine c_op (OpS.weak 47 rfl (op_indexAddr_ref rfl (TTok _ _ rfl).ok rfl (TTok _ _ rfl).ok rfl rfl rfl (by omega) (by omega))) rfl rfl rfl ?_
    refine c_eptr 51 rfl ?_
    refine c_op0 (op_store (e := L[findI L e.path].av) (e' := e.av) rfl (TTok _ _ rfl).ok rfl rfl rfl (by rw [Nat.zero_add, Int.toNat_natCast]; exact els_get ht hlt) rfl rfl rfl rfl) rfl rfl ?_
    obtain ⟨M, hM⟩ : ∃ M, M = L.set (findI L e.path) e := ⟨_, rfl⟩
    have hf := fin M (by rw [hok, hM]; rfl) (by rintro ⟨_, hd⟩; rw [hgD, h7] at hd; cases hd)
    have hSm : Sm M := hM ▸ h.set h1 h2 _
    have hst : (els.set (0 + ((findI L e.path : Nat) : Int).toNat) e.av).take L.length = ents M := by
      rw [set_take ht, Nat.zero_add, Int.toNat_natCast, hM, ents_set]
    have hMl : M.length = L.length := by rw [hM, List.length_set]
    refine c_freeze 3 [(7, .sl 3 (ents M))] rfl (nids_set hn rfl _) ⟨⟨_, rfl, snap_refc (r := ents M) rfl ?_ (by rw [List.drop_zero]; exact hst)⟩, trivial⟩ ?_
    · rw [List.length_set]; omega
    have hel := ents_len M
    refine go_rg TTok 100 rfl ?_
    refine c_split 55 rfl (fun h4 => ?_) (fun h4 => ?_)
    · have h4 : 40 < M.length := by simp [hel] at h4; omega
      have e1 : withT L e = (L, 9) := by rw [hf, if_pos (.inl h4)]
      refine go_st TTok 100 rfl ?_
      exact c_ret ⟨_, rfl, by rw [e1]; rfl⟩
    have h4 : ¬ 40 < M.length := by simp [hel] at h4; omega
    refine go_rg TTok 100 rfl ?_
    refine c_split 61 rfl (fun h5 => ?_) (fun h5 => ?_)
    · have h5 : 2048 < e.b.length := by simp [bys] at h5; omega
      have e1 : withT L e = (L, 9) := by rw [hf, if_pos (.inr (.inl h5))]
      refine go_st TTok 100 rfl ?_
      exact c_ret ⟨_, rfl, by rw [e1]; rfl⟩
    have h5 : ¬ 2048 < e.b.length := by simp [bys] at h5; omega
    refine go_rg TTok 100 rfl ?_
    refine c_call (count_ok' M hSm) rfl rfl rfl rfl ct26 rfl rfl rfl rfl ?_
    refine go_st TTok 100 rfl ?_
    refine c_cond rfl (fun h6 => ?_) (fun h6 => ?_)
    · have h6 : 16384 < cnt M := by simp at h6; omega
      have e1 : withT L e = (L, 9) := by rw [hf, if_pos (.inr (.inr h6))]
      refine go_st TTok 100 rfl ?_
      exact c_ret ⟨_, rfl, by rw [e1]; rfl⟩
    have h6 : ¬ 16384 < cnt M := by simp at h6; omega
    have e1 : withT L e = (M, 0) := by rw [hf, if_neg (by rintro (h | h | h); exact h4 h; exact h5 h; exact h6 h)]
    refine go_st TTok 100 rfl ?_
    exact c_ret ⟨_, rfl, by rw [e1]; rfl⟩
end Go.Proofs.YtikkobmghmphaaaDoor
