/- Part 12 of the proof: what functions of this program compute. -/
import Derived.Test.YtikkobmghmphaaaDoorP11
namespace Go.Proofs.YtikkobmghmphaaaDoor
open Go Go.Av Go.Tm

set_option maxRecDepth 10000
theorem i64_next {k : Nat} (h : k < 2^40) : IntKind.i64.wrap ((k : Nat) + 1 : Int) = ((k + 1 : Nat) : Int) := by rw [IntWalk.i64_in _ ⟨by omega, by omega⟩]; omega
theorem embSame (m : List Nat) (nx : Nat) (s : Seen) : live (some (blkM (seenV s))) = some ((blkM (seenV s)).ren (mf m nx)) := by
  rw [seenV_ren]; rfl
theorem emb_dsk1 (d : Dsk) (X : Blk) (nx : Nat) : embH [0, 1, 2] nx ((2, X) :: dskH d) (dskH d) := by
  by_cases hw : d.waits = []
  · rw [dskH_E hw]; exact ⟨rfl, trivial⟩
  · rw [dskH_F hw]; exact ⟨rfl, emb_arr rfl rfl rfl (chgs_nids _) trivial⟩
theorem emb_dsk2 (d : Dsk) (X Y : Blk) (nx : Nat) : embH [0, 1, 2] nx ((2, X) :: (2, Y) :: dskH d) (dskH d) := by
  by_cases hw : d.waits = []
  · rw [dskH_E hw]; exact ⟨rfl, trivial⟩
  · rw [dskH_F hw]; exact ⟨rfl, emb_arr rfl rfl rfl (chgs_nids _) trivial⟩
theorem diskSure_ok (la lb : List Chg) (keep : List Int) (torn : Int) (hla : la.length ≤ 2^20) (hlb : lb.length ≤ 2^20) (hlk : keep.length ≤ 2^20) (hsa : ∀ c ∈ la, c.Sm) (hsb : ∀ c ∈ lb, c.Sm) :
    PureC Tryd.prog 4 [.sl 4 (chgs la), .sl 4 (chgs lb), .sl 1 (ints keep), .int .i64 torn] (.bool true) := by
  have hG := goodT_done
  refine PureC.of_c TIok Tryd.func4 rfl rfl rfl rfl ?_
  refine go_rg TTok 100 rfl ?_
  refine c_call (awake_ok goodT_sm hG) rfl rfl rfl rfl ct5 rfl rfl rfl rfl ?_
  refine go_rg TTok 100 rfl ?_
  refine c_split 28 rfl (fun h1 => ?_) (fun h1 => ?_)
  · refine go_st TTok 100 rfl ?_
    exact c_ret ⟨_, rfl, rfl⟩
  refine go_rg TTok 100 rfl ?_
  refine c_split 33 rfl (fun h2 => ?_) (fun h2 => ?_)
  · refine go_st TTok 100 rfl ?_
    exact c_ret ⟨_, rfl, rfl⟩
  refine go_st TTok 100 rfl ?_
  refine c_cond rfl (fun h3 => ?_) (fun h3 => ?_)
  · refine go_st TTok 100 rfl ?_
    exact c_ret ⟨_, rfl, rfl⟩
  have h1 : la.length ≤ 30 := by simp [chgs] at h1; omega
  have h2 : lb.length ≤ 30 := by simp [chgs] at h2; omega
  have h3 : keep.length ≤ 50 := by simp [ints] at h3; omega
  refine go_rg TTok 100 rfl ?_
  refine c_run ((newD_ok [] 16384 sm0 rfl (by decide) (by decide)).args (.cons le_tree0 (.cons Le.rfl .nil))) [] rfl rfl rfl rfl ct6 rfl rfl rfl trivial rfl rfl rfl rfl rfl rfl rfl ?_
  refine go_rg TTok 100 rfl ?_
  refine c_op (op_eqnil rfl (TTok _ _ rfl).ok rfl rfl rfl rfl) rfl rfl rfl ?_
  refine go_st TTok 100 rfl ?_
  refine c_loopP (ι := Nat × Dsk) (fun x => x.1 ≤ la.length ∧ AI x.1 x.2) (fun x => [(0, .sl 4 (chgs la)), (1, .sl 4 (chgs lb)), (2, .sl 1 (ints keep)), (3, .int .i64 torn), (9, .ptr 0 9 0 0), (11, .int .i64 (x.1 : Nat))]) (fun x => dskH x.2) 2 (fun x => la.length - x.1) (0, dA) ⟨Nat.zero_le _, AI.init⟩ [0, 1]
    ⟨rfl, rfl, rfl, ⟨rfl, rfl, rfl, rfl, rfl, rfl, trivial⟩, by rw [show dskH ((0, dA) : Nat × Dsk).2 = _ from dskH_E rfl]; exact ⟨rfl, trivial⟩⟩ ?_
  rintro ⟨k, d⟩ ⟨hk, hI⟩
  dsimp only at hk hI
  refine go_st TTok 100 rfl ?_
  refine c_cond rfl (fun hc => ?_) (fun hc => ?_)
  · -- one more
    have hk : k < la.length := by simp [chgs] at hc; omega
    have hw1 := i64_next (k := k) (by omega)
    have hcS := hsa _ (List.getElem_mem hk)
    have hAI := hI.step hG hcS
    by_cases hw : d.waits = []
    · rw [show dskH (k, d).2 = _ from dskH_E hw]
      refine go_rg TTok 100 rfl ?_
      refine c_op (op_indexAddr_sl (a := ((k : Nat) : Int)) rfl (TTok _ _ rfl).ok rfl (TTok _ _ rfl).ok rfl rfl rfl (by omega) (by rw [chgs_len]; omega) (chgs_get la (by simpa using hk))) rfl rfl rfl ?_
      refine go_rg TTok 100 rfl ?_
      have hdo := doE_ok d la[k] (goodT_sm _ hI.good).1 (by have := (goodT_sm _ hI.good).2; omega) hcS (done_sm hG _ hI.good) (by have := hI.wl; omega) hw
      by_cases h0 : (doD d la[k]).2 ≠ 0
      · rw [if_pos h0] at hdo
        refine c_run hdo [0] rfl rfl rfl rfl ct7 rfl rfl rfl ⟨rfl, trivial⟩ rfl rfl rfl rfl rfl rfl rfl ?_
        refine go_st TTok 100 rfl ?_
        refine c_inv ⟨(k + 1, (doD d la[k]).1), [0, 1], ⟨hk, hAI⟩, by show la.length - (k + 1) < la.length - k; omega, rfl, rfl, rfl, ⟨rfl, rfl, rfl, rfl, rfl, congrArg (fun x => some (AV.int .i64 x)) hw1, trivial⟩, ?_⟩
        rw [show dskH (k + 1, (doD d la[k]).1).2 = dskH d from congrArg dskH (doD_fail h0), dskH_E hw]
        exact ⟨rfl, trivial⟩
      · rw [if_neg h0] at hdo
        have h0 : (doD d la[k]).2 = 0 := by omega
        have hwt := doD_ok h0
        refine c_run hdo [0] rfl rfl rfl rfl ct7 rfl rfl rfl ⟨rfl, trivial⟩ rfl rfl rfl rfl rfl rfl rfl ?_
        refine go_st TTok 100 rfl ?_
        refine c_inv ⟨(k + 1, (doD d la[k]).1), [0, 2], ⟨hk, hAI⟩, by show la.length - (k + 1) < la.length - k; omega, rfl, rfl, rfl, ⟨rfl, rfl, rfl, rfl, rfl, congrArg (fun x => some (AV.int .i64 x)) hw1, trivial⟩, ?_⟩
        rw [show dskH (k + 1, (doD d la[k]).1).2 = _ from dskH_F (by rw [hwt]; simp), hwt]
        refine ⟨?_, emb_arr rfl rfl (AV.rens_nid _ _ (chgs_nids _)) (chgs_nids _) trivial⟩
        rw [List.length_append]; rfl
    · rw [show dskH (k, d).2 = _ from dskH_F hw]
      refine go_rg TTok 100 rfl ?_
      refine c_op (op_indexAddr_sl (a := ((k : Nat) : Int)) rfl (TTok _ _ rfl).ok rfl (TTok _ _ rfl).ok rfl rfl rfl (by omega) (by rw [chgs_len]; omega) (chgs_get la (by simpa using hk))) rfl rfl rfl ?_
      refine go_rg TTok 100 rfl ?_
      have hdo := doF_ok d la[k] (goodT_sm _ hI.good).1 (by have := (goodT_sm _ hI.good).2; omega) hcS (done_sm hG _ hI.good) (by have := hI.wl; omega)
      by_cases h0 : (doD d la[k]).2 ≠ 0
      · rw [if_pos h0] at hdo
        refine c_run hdo [0, 1] rfl rfl rfl rfl ct7 rfl rfl rfl ⟨rfl, emb_arr rfl rfl rfl (chgs_nids _) trivial⟩ rfl rfl rfl rfl rfl (backH_F _ _ _ _) rfl ?_
        refine go_st TTok 100 rfl ?_
        refine c_inv ⟨(k + 1, (doD d la[k]).1), [0, 1], ⟨hk, hAI⟩, by show la.length - (k + 1) < la.length - k; omega, rfl, rfl, rfl, ⟨rfl, rfl, rfl, rfl, rfl, congrArg (fun x => some (AV.int .i64 x)) hw1, trivial⟩, ?_⟩
        rw [show dskH (k + 1, (doD d la[k]).1).2 = dskH d from congrArg dskH (doD_fail h0), dskH_F hw]
        exact ⟨rfl, emb_arr rfl rfl rfl (chgs_nids _) trivial⟩
      · rw [if_neg h0] at hdo
        have h0 : (doD d la[k]).2 = 0 := by omega
        have hwt := doD_ok h0
        refine c_run hdo [0, 1] rfl rfl rfl rfl ct7 rfl rfl rfl ⟨rfl, emb_arr rfl rfl rfl (chgs_nids _) trivial⟩ rfl rfl rfl rfl rfl rfl rfl ?_
        refine go_st TTok 100 rfl ?_
        refine c_inv ⟨(k + 1, (doD d la[k]).1), [0, 2], ⟨hk, hAI⟩, by show la.length - (k + 1) < la.length - k; omega, rfl, rfl, rfl, ⟨rfl, rfl, rfl, rfl, rfl, congrArg (fun x => some (AV.int .i64 x)) hw1, trivial⟩, ?_⟩
        rw [show dskH (k + 1, (doD d la[k]).1).2 = _ from dskH_F (by rw [hwt]; simp), hwt]
        refine ⟨?_, emb_arr rfl rfl (AV.rens_nid _ _ (chgs_nids _)) (chgs_nids _) trivial⟩
        rw [List.length_append]; rfl
  -- synced
  have hB := NmI.start hI
  have ho : (syncD d).1.now = d.now := by rw [syncD, if_neg (by rw [hI.off]; decide)]
  have hol : (syncD d).1.last = d.now := hB.last
  have hnf : ¬ d.off = true := by rw [hI.off]; decide
  obtain ⟨d1, hd1⟩ : ∃ d1, d1 = (syncD d).1 := ⟨_, rfl⟩
  have hsE := syncE_ok d
  have hsF := syncF_ok d
  rw [if_neg hnf] at hsE hsF
  rw [← hd1] at hsE hsF hB ho hol
  obtain ⟨L0, hL0⟩ : ∃ L0, L0 = d.now := ⟨_, rfl⟩
  have hg0 : goodT L0 = true := by rw [hL0]; exact hI.good
  have hsn := (goodT_sm _ hg0).1
  rw [← hL0] at hB ho hol
  have hsame : sameT d1.now d1.last = true := by rw [ho, hol]; simp [sameT, hg0]
  have hs1 : Sm d1.now := by rw [ho]; exact hsn
  have hs2 : Sm d1.last := by rw [hol]; exact hsn
  apply with_key
  · intro key
    by_cases hw : d.waits = []
    · rw [show dskH (k, d).2 = _ from dskH_E hw]
      refine go_rg TTok 100 rfl ?_
      refine c_run hsE [0] rfl rfl rfl rfl ct13 rfl rfl rfl ⟨rfl, trivial⟩ rfl rfl rfl rfl rfl rfl rfl ?_
      refine go_rg TTok 100 rfl ?_
      refine c_split 60 rfl (fun h => absurd h (by decide)) (fun _ => ?_)
      refine go_rg TTok 100 rfl ?_
      refine c_run (nowE_ok d1 hs1) [0] rfl rfl rfl rfl ct8 rfl rfl rfl ⟨rfl, trivial⟩ rfl rfl rfl rfl rfl rfl rfl ?_
      refine go_rg TTok 100 rfl ?_
      refine c_run (lastsE_ok d1 hs2) [0] rfl rfl rfl rfl ct12 rfl rfl rfl ⟨rfl, trivial⟩ rfl rfl rfl rfl rfl rfl rfl ?_
      refine go_rg TTok 100 rfl ?_
      refine c_call ((same_ok _ _ hs1 hs2).le (le_sb hsame)) rfl rfl rfl rfl ct11 rfl rfl rfl rfl ?_
      refine go_rg TTok 100 rfl ?_
      refine c_run (lastsE_ok d1 hs2) [0] rfl rfl rfl rfl ct12 rfl rfl rfl ⟨rfl, trivial⟩ rfl rfl rfl rfl rfl rfl rfl ?_
      refine go_rg TTok 100 rfl ?_
      refine c_op ((al_makeMap rfl).opS) rfl rfl rfl ?_
      refine go_st TTok 100 rfl ?_
      refine c_freezeS 2 [(12, .fp [.sl 3 (ents d1.last)])] rfl rfl ⟨⟨_, rfl, rfl⟩, trivial⟩ ?_
      exact c_emb [(1, .sl 4 (chgs lb)), (2, .sl 1 (ints keep)), (3, .int .i64 torn), (9, .ptr 0 9 0 0), (12, .fp [.sl 3 (ents d1.last)]), (13, .map 2), (14, .int .i64 (0 : Nat))] ((2, blkM (seenV [])) :: [(0, .arr 9 [d1.av .nilsl])]) 3 [0, 1, 3]
        ⟨rfl, rfl, rfl, ⟨rfl, rfl, rfl, rfl, rfl, rfl, rfl, trivial⟩, ⟨rfl, rfl, trivial⟩⟩ key
    · rw [show dskH (k, d).2 = _ from dskH_F hw]
      refine go_rg TTok 100 rfl ?_
      refine c_run hsF [0, 1] rfl rfl rfl rfl ct13 rfl rfl rfl ⟨rfl, emb_arr rfl rfl rfl (chgs_nids _) trivial⟩ rfl rfl rfl rfl rfl rfl rfl ?_
      refine go_rg TTok 100 rfl ?_
      refine c_split 60 rfl (fun h => absurd h (by decide)) (fun _ => ?_)
      refine go_rg TTok 100 rfl ?_
      refine c_run (nowE_ok d1 hs1) [0] rfl rfl rfl rfl ct8 rfl rfl rfl ⟨rfl, trivial⟩ rfl rfl rfl rfl rfl rfl rfl ?_
      refine go_rg TTok 100 rfl ?_
      refine c_run (lastsE_ok d1 hs2) [0] rfl rfl rfl rfl ct12 rfl rfl rfl ⟨rfl, trivial⟩ rfl rfl rfl rfl rfl rfl rfl ?_
      refine go_rg TTok 100 rfl ?_
      refine c_call ((same_ok _ _ hs1 hs2).le (le_sb hsame)) rfl rfl rfl rfl ct11 rfl rfl rfl rfl ?_
      refine go_rg TTok 100 rfl ?_
      refine c_run (lastsE_ok d1 hs2) [0] rfl rfl rfl rfl ct12 rfl rfl rfl ⟨rfl, trivial⟩ rfl rfl rfl rfl rfl rfl rfl ?_
      refine go_rg TTok 100 rfl ?_
      refine c_op ((al_makeMap rfl).opS) rfl rfl rfl ?_
      refine go_st TTok 100 rfl ?_
      refine c_freezeS 2 [(12, .fp [.sl 3 (ents d1.last)])] rfl rfl ⟨⟨_, rfl, rfl⟩, trivial⟩ ?_
      exact c_emb [(1, .sl 4 (chgs lb)), (2, .sl 1 (ints keep)), (3, .int .i64 torn), (9, .ptr 0 9 0 0), (12, .fp [.sl 3 (ents d1.last)]), (13, .map 2), (14, .int .i64 (0 : Nat))] ((2, blkM (seenV [])) :: [(0, .arr 9 [d1.av .nilsl])]) 3 [0, 1, 3]
        ⟨rfl, rfl, rfl, ⟨rfl, rfl, rfl, rfl, rfl, rfl, rfl, trivial⟩, ⟨rfl, rfl, trivial⟩⟩ key
  · rw [hol]
    refine c_loopP (ι := Nat × Dsk × Seen) (fun x => x.1 ≤ lb.length ∧ NmI L0 x.1 x.2.1 x.2.2) (fun x => [(1, .sl 4 (chgs lb)), (2, .sl 1 (ints keep)), (3, .int .i64 torn), (9, .ptr 0 9 0 0), (12, .fp [.sl 3 (ents L0)]), (13, .map 2), (14, .int .i64 (x.1 : Nat))]) (fun x => (2, blkM (seenV x.2.2)) :: dskH x.2.1) 3 (fun x => lb.length - x.1) (0, d1, []) ⟨Nat.zero_le _, hB⟩ [0, 1, 2]
      ⟨rfl, rfl, rfl, ⟨rfl, rfl, rfl, rfl, rfl, rfl, rfl, trivial⟩, ?_⟩ ?_
    · rw [show dskH ((0, d1, []) : Nat × Dsk × Seen).2.1 = _ from dskH_E (by rw [hd1, syncD, if_neg hnf])]; exact ⟨rfl, rfl, trivial⟩
    rintro ⟨k, d, s⟩ ⟨hk, hI⟩
    dsimp only at hk hI
    refine go_st TTok 100 rfl ?_
    refine c_cond rfl (fun hc => ?_) (fun hc => ?_)
    · have hk : k < lb.length := by simp [chgs] at hc; omega
      have hw1 := i64_next (k := k) (by omega)
      have hcS := hsb _ (List.getElem_mem hk)
      have hNI := hI.step hcS
      have p0 : (0 : Int) ≤ ((k : Nat) : Int) := by omega
      have p1 : ((k : Nat) : Int) < (((chgs lb).length : Nat) : Int) := by rw [chgs_len]; omega
      have p2 : (chgs lb)[((k : Nat) : Int).toNat]? = some (lb[k]).av := chgs_get lb (by simpa using hk)
      have q1 : d.now.length < 2^30 := by have := (goodT_sm _ hI.good).2; omega
      have q2 : d.waits.length ≤ 2^30 := by have := hI.wl; omega
      have hdoE := doE_ok d lb[k] (goodT_sm _ hI.good).1 q1 hcS (done_sm hG _ hI.good) q2
      have hdoF := doF_ok d lb[k] (goodT_sm _ hI.good).1 q1 hcS (done_sm hG _ hI.good) q2
      obtain ⟨c, hcd⟩ : ∃ c, c = lb[k] := ⟨_, rfl⟩
      rw [← hcd] at hcS hNI p2 hdoE hdoF
      apply with_key
      · intro key
        by_cases hw : d.waits = []
        · rw [show dskH (k, d, s).2.1 = _ from dskH_E hw]
          refine go_rg TTok 100 rfl ?_
          refine c_op (op_indexAddr_sl (a := ((k : Nat) : Int)) rfl (TTok _ _ rfl).ok rfl (TTok _ _ rfl).ok rfl rfl rfl p0 p1 p2) rfl rfl rfl ?_
          refine go_rg TTok 100 rfl ?_
          have hdo := hdoE hw
          by_cases h0 : (doD d c).2 ≠ 0
          · rw [if_pos h0] at hdo
            refine c_run hdo [0] rfl rfl rfl rfl ct7 rfl rfl rfl ⟨rfl, trivial⟩ rfl rfl rfl rfl rfl rfl rfl ?_
            refine go_rg TTok 100 rfl ?_
            refine c_op (op_indexAddr_sl (a := ((k : Nat) : Int)) rfl (TTok _ _ rfl).ok rfl (TTok _ _ rfl).ok rfl rfl rfl p0 p1 p2) rfl rfl rfl ?_
            refine go_rg TTok 100 rfl ?_
            refine c_op0 (op_mapUpdate (l := seenV s) (.inl rfl) (TTok _ _ rfl).ok rfl (TTok _ _ rfl).ok rfl rfl rfl rfl rfl) rfl rfl ?_
            refine go_rg TTok 100 rfl ?_
            refine c_op (op_indexAddr_sl (a := ((k : Nat) : Int)) rfl (TTok _ _ rfl).ok rfl (TTok _ _ rfl).ok rfl rfl rfl p0 p1 p2) rfl rfl rfl ?_
            refine go_st TTok 100 rfl ?_
            refine c_emb [(1, .sl 4 (chgs lb)), (2, .sl 1 (ints keep)), (3, .int .i64 torn), (9, .ptr 0 9 0 0), (12, .fp [.sl 3 (ents L0)]), (13, .map 2), (14, .int .i64 (k : Nat)), (94, .sb (c.op == 4))] ((2, blkM (seenV (updB s c.path true))) :: dskH (doD d c).1) 3 [0, 1, 2] ⟨rfl, rfl, rfl, ⟨rfl, rfl, rfl, rfl, rfl, rfl, rfl, rfl, trivial⟩, ⟨embUp _ _ _ _ _, ?_⟩⟩ key
            rw [doD_fail h0, dskH_E hw]
            exact ⟨rfl, trivial⟩
          · rw [if_neg h0] at hdo
            have h0 : (doD d c).2 = 0 := Classical.not_not.1 h0
            have hwt := doD_ok h0
            refine c_run hdo [0] rfl rfl rfl rfl ct7 rfl rfl rfl ⟨rfl, trivial⟩ rfl rfl rfl rfl rfl rfl rfl ?_
            refine go_rg TTok 100 rfl ?_
            refine c_op (op_indexAddr_sl (a := ((k : Nat) : Int)) rfl (TTok _ _ rfl).ok rfl (TTok _ _ rfl).ok rfl rfl rfl p0 p1 p2) rfl rfl rfl ?_
            refine go_rg TTok 100 rfl ?_
            refine c_op0 (op_mapUpdate (l := seenV s) (.inl rfl) (TTok _ _ rfl).ok rfl (TTok _ _ rfl).ok rfl rfl rfl rfl rfl) rfl rfl ?_
            refine go_rg TTok 100 rfl ?_
            refine c_op (op_indexAddr_sl (a := ((k : Nat) : Int)) rfl (TTok _ _ rfl).ok rfl (TTok _ _ rfl).ok rfl rfl rfl p0 p1 p2) rfl rfl rfl ?_
            refine go_st TTok 100 rfl ?_
            refine c_emb [(1, .sl 4 (chgs lb)), (2, .sl 1 (ints keep)), (3, .int .i64 torn), (9, .ptr 0 9 0 0), (12, .fp [.sl 3 (ents L0)]), (13, .map 2), (14, .int .i64 (k : Nat)), (94, .sb (c.op == 4))] ((2, blkM (seenV (updB s c.path true))) :: dskH (doD d c).1) 3 [0, 3, 2] ⟨rfl, rfl, rfl, ⟨rfl, rfl, rfl, rfl, rfl, rfl, rfl, rfl, trivial⟩, ⟨embUp _ _ _ _ _, ?_⟩⟩ key
            rw [dskH_F (d := (doD d c).1) (by rw [hwt]; simp), hwt]
            refine ⟨?_, emb_arr rfl rfl (AV.rens_nid _ _ (chgs_nids _)) (chgs_nids _) trivial⟩
            rw [List.length_append]; rfl
        · rw [show dskH (k, d, s).2.1 = _ from dskH_F hw]
          refine go_rg TTok 100 rfl ?_
          refine c_op (op_indexAddr_sl (a := ((k : Nat) : Int)) rfl (TTok _ _ rfl).ok rfl (TTok _ _ rfl).ok rfl rfl rfl p0 p1 p2) rfl rfl rfl ?_
          refine go_rg TTok 100 rfl ?_
          have hdo := hdoF
          by_cases h0 : (doD d c).2 ≠ 0
          · rw [if_pos h0] at hdo
            refine c_run hdo [0, 1] rfl rfl rfl rfl ct7 rfl rfl rfl ⟨rfl, emb_arr rfl rfl rfl (chgs_nids _) trivial⟩ rfl rfl rfl rfl rfl (backH_F _ _ _ _) rfl ?_
            refine go_rg TTok 100 rfl ?_
            refine c_op (op_indexAddr_sl (a := ((k : Nat) : Int)) rfl (TTok _ _ rfl).ok rfl (TTok _ _ rfl).ok rfl rfl rfl p0 p1 p2) rfl rfl rfl ?_
            refine go_rg TTok 100 rfl ?_
            refine c_op0 (op_mapUpdate (l := seenV s) (.inl rfl) (TTok _ _ rfl).ok rfl (TTok _ _ rfl).ok rfl rfl rfl rfl rfl) rfl rfl ?_
            refine go_rg TTok 100 rfl ?_
            refine c_op (op_indexAddr_sl (a := ((k : Nat) : Int)) rfl (TTok _ _ rfl).ok rfl (TTok _ _ rfl).ok rfl rfl rfl p0 p1 p2) rfl rfl rfl ?_
            refine go_st TTok 100 rfl ?_
            refine c_emb [(1, .sl 4 (chgs lb)), (2, .sl 1 (ints keep)), (3, .int .i64 torn), (9, .ptr 0 9 0 0), (12, .fp [.sl 3 (ents L0)]), (13, .map 2), (14, .int .i64 (k : Nat)), (94, .sb (c.op == 4))] ((2, blkM (seenV (updB s c.path true))) :: dskH (doD d c).1) 3 [0, 1, 2] ⟨rfl, rfl, rfl, ⟨rfl, rfl, rfl, rfl, rfl, rfl, rfl, rfl, trivial⟩, ⟨embUp _ _ _ _ _, ?_⟩⟩ key
            rw [doD_fail h0, dskH_F hw]
            exact ⟨rfl, emb_arr rfl rfl rfl (chgs_nids _) trivial⟩
          · rw [if_neg h0] at hdo
            have h0 : (doD d c).2 = 0 := Classical.not_not.1 h0
            have hwt := doD_ok h0
            refine c_run hdo [0, 1] rfl rfl rfl rfl ct7 rfl rfl rfl ⟨rfl, emb_arr rfl rfl rfl (chgs_nids _) trivial⟩ rfl rfl rfl rfl rfl rfl rfl ?_
            refine go_rg TTok 100 rfl ?_
            refine c_op (op_indexAddr_sl (a := ((k : Nat) : Int)) rfl (TTok _ _ rfl).ok rfl (TTok _ _ rfl).ok rfl rfl rfl p0 p1 p2) rfl rfl rfl ?_
            refine go_rg TTok 100 rfl ?_
            refine c_op0 (op_mapUpdate (l := seenV s) (.inl rfl) (TTok _ _ rfl).ok rfl (TTok _ _ rfl).ok rfl rfl rfl rfl rfl) rfl rfl ?_
            refine go_rg TTok 100 rfl ?_
            refine c_op (op_indexAddr_sl (a := ((k : Nat) : Int)) rfl (TTok _ _ rfl).ok rfl (TTok _ _ rfl).ok rfl rfl rfl p0 p1 p2) rfl rfl rfl ?_
            refine go_st TTok 100 rfl ?_
            refine c_emb [(1, .sl 4 (chgs lb)), (2, .sl 1 (ints keep)), (3, .int .i64 torn), (9, .ptr 0 9 0 0), (12, .fp [.sl 3 (ents L0)]), (13, .map 2), (14, .int .i64 (k : Nat)), (94, .sb (c.op == 4))] ((2, blkM (seenV (updB s c.path true))) :: dskH (doD d c).1) 3 [0, 3, 2] ⟨rfl, rfl, rfl, ⟨rfl, rfl, rfl, rfl, rfl, rfl, rfl, rfl, trivial⟩, ⟨embUp _ _ _ _ _, ?_⟩⟩ key
            rw [dskH_F (d := (doD d c).1) (by rw [hwt]; simp), hwt]
            refine ⟨?_, emb_arr rfl rfl (AV.rens_nid _ _ (chgs_nids _)) (chgs_nids _) trivial⟩
            rw [List.length_append]; rfl
      · refine c_cond rfl (fun h4 => ?_) (fun h4 => ?_)
        · have h4 : c.op = 4 := by simpa using h4
          have hnm : nameB s c = updB (updB s c.path true) c.to true := by rw [nameB, if_pos h4]
          refine go_rg TTok 100 rfl ?_
          refine c_op (op_indexAddr_sl (a := ((k : Nat) : Int)) rfl (TTok _ _ rfl).ok rfl (TTok _ _ rfl).ok rfl rfl rfl p0 p1 p2) rfl rfl rfl ?_
          refine go_rg TTok 100 rfl ?_
          refine c_op0 (op_mapUpdate (l := seenV (updB s c.path true)) (.inl rfl) (TTok _ _ rfl).ok rfl (TTok _ _ rfl).ok rfl rfl rfl rfl rfl) rfl rfl ?_
          refine go_st TTok 100 rfl ?_
          rw [hnm] at hNI
          exact c_inv ⟨(k + 1, (doD d c).1, updB (updB s c.path true) c.to true), [0, 1, 2], ⟨hk, hNI⟩, by show lb.length - (k + 1) < lb.length - k; omega, rfl, rfl, rfl, ⟨rfl, rfl, rfl, rfl, rfl, rfl, congrArg (fun x => some (AV.int .i64 x)) hw1, trivial⟩, ⟨embUp _ _ _ _ _, emb_dsk2 _ _ _ _⟩⟩
        · have h4 : ¬ c.op = 4 := by simpa using h4
          have hnm : nameB s c = updB s c.path true := by rw [nameB, if_neg h4]
          refine go_st TTok 100 rfl ?_
          rw [hnm] at hNI
          exact c_inv ⟨(k + 1, (doD d c).1, updB s c.path true), [0, 1, 2], ⟨hk, hNI⟩, by show lb.length - (k + 1) < lb.length - k; omega, rfl, rfl, rfl, ⟨rfl, rfl, rfl, rfl, rfl, rfl, congrArg (fun x => some (AV.int .i64 x)) hw1, trivial⟩, ⟨embSame _ _ _, emb_dsk1 _ _ _⟩⟩
    -- the power goes
    have hdd : ({ d with off := false } : Dsk) = d := by have := hI.off; cases d; simp at this; subst this; rfl
    have hcrE := crashE_ok d keep torn (by omega)
    have hcrF := crashF_ok d keep torn (by omega) (by have := hI.wl; omega) hI.ws goodT_sm hG (by rw [hI.last]; exact hg0)
    rw [hdd] at hcrE hcrF
    have U := hI.crash hg0 keep torn
    have hnow : (crashD d keep torn).now = fallT keep torn d.last 0 d.waits := by rw [crashD, if_neg (by rw [hI.off]; decide)]
    have hlast : (crashD d keep torn).last = (crashD d keep torn).now := by rw [crashD, if_neg (by rw [hI.off]; decide)]
    rw [← hnow] at U
    obtain ⟨d3, hd3⟩ : ∃ d3, d3 = crashD d keep torn := ⟨_, rfl⟩
    rw [← hd3] at hcrE hcrF U hnow hlast
    have hs3 := (goodT_sm _ U.good).1
    have hs3' : Sm d3.last := by rw [hlast]; exact hs3
    have hsame3 : sameT d3.now d3.last = true := by rw [hlast]; simp [sameT, U.good]
    apply with_key
    · intro key
      by_cases hw : d.waits = []
      · rw [show dskH (k, d, s).2.1 = _ from dskH_E hw]
        refine go_rg TTok 100 rfl ?_
        refine c_run (hcrE hw) [0] rfl rfl rfl rfl ct10 rfl rfl rfl ⟨rfl, trivial⟩ rfl rfl rfl rfl rfl rfl rfl ?_
        refine go_st TTok 1 rfl ?_
        exact c_emb [(9, .ptr 0 9 0 0), (12, .fp [.sl 3 (ents L0)]), (13, .map 1)] [(0, .arr 9 [d3.av .nilsl]), (1, blkM (seenV s))] 2 [0, 2] ⟨rfl, rfl, rfl, ⟨rfl, rfl, rfl, trivial⟩, ⟨rfl, embSame _ _ _, trivial⟩⟩ key
      · rw [show dskH (k, d, s).2.1 = _ from dskH_F hw]
        refine go_rg TTok 100 rfl ?_
        refine c_run hcrF [0, 1] rfl rfl rfl rfl ct10 rfl rfl rfl ⟨rfl, emb_arr rfl rfl rfl (chgs_nids _) trivial⟩ rfl rfl rfl rfl rfl rfl rfl ?_
        refine go_st TTok 1 rfl ?_
        exact c_emb [(9, .ptr 0 9 0 0), (12, .fp [.sl 3 (ents L0)]), (13, .map 1)] [(0, .arr 9 [d3.av .nilsl]), (1, blkM (seenV s))] 2 [0, 2] ⟨rfl, rfl, rfl, ⟨rfl, rfl, rfl, trivial⟩, ⟨rfl, embSame _ _ _, trivial⟩⟩ key
    · refine go_rg TTok 100 rfl ?_
      refine c_run (nowE_ok d3 hs3) [0] rfl rfl rfl rfl ct8 rfl rfl rfl ⟨rfl, trivial⟩ rfl rfl rfl rfl rfl rfl rfl ?_
      refine go_st TTok 100 rfl ?_
      refine c_freezeS 2 [(15, .fp [.sl 3 (ents d3.now)])] rfl rfl ⟨⟨_, rfl, rfl⟩, trivial⟩ ?_
      refine c_dgo TTok mixed rfl rfl rfl rfl ?_
      refine f_call ((good_ok d3.now hs3).le (le_sb U.good)) rfl rfl rfl rfl ct14 rfl rfl rfl ?_
      refine f_go TTok rfl ?_
      refine f_rn (lastsE_ok d3 hs3') [0] rfl rfl rfl rfl ct12 rfl rfl rfl ⟨rfl, trivial⟩ rfl rfl rfl rfl rfl rfl rfl rfl rfl ?_
      refine f_go TTok rfl ?_
      refine f_call ((same_ok _ _ hs3 hs3').le (le_sb hsame3)) rfl rfl rfl rfl ct11 rfl rfl rfl ?_
      refine f_go TTok rfl ?_
      refine f_end ?_
      refine go_st TTok 100 rfl ?_
      obtain ⟨Lf, hLf⟩ : ∃ Lf, Lf = d3.now := ⟨_, rfl⟩
      rw [← hLf] at U hs3 ⊢
      have hp0 : ∀ x ∈ L0, x.path.length ≤ 2^30 := fun x hx => by have := hsn.path x hx; omega
      have hpf : ∀ x ∈ Lf, x.path.length ≤ 2^30 := fun x hx => by have := hs3.path x hx; omega
      have hn0 := (goodT_sm _ hg0).2
      have hnf := (goodT_sm _ U.good).2
      refine c_loopP (ι := Nat) (fun k => k ≤ L0.length) (fun k => [(12, .fp [.sl 3 (ents L0)]), (13, .map 0), (15, .fp [.sl 3 (ents Lf)]), (16, .int .i64 (k : Nat))]) (fun _ => [(0, blkM (seenV s))]) 1 (fun k => L0.length - k) 0 (Nat.zero_le _) [1]
        ⟨rfl, rfl, rfl, ⟨rfl, rfl, rfl, rfl, trivial⟩, ⟨embSame _ _ _, trivial⟩⟩ ?_
      intro k hk
      refine go_st TTok 100 rfl ?_
      refine c_cond rfl (fun hc => ?_) (fun hc => ?_)
      · have hk : k < L0.length := by simp [ents] at hc; omega
        have hw1 := i64_next (k := k) (by omega)
        obtain ⟨x, hx⟩ : ∃ x, x = L0[k] := ⟨_, rfl⟩
        have hxm : x ∈ L0 := by rw [hx]; exact List.getElem_mem hk
        have p2 : (ents L0)[((k : Nat) : Int).toNat]? = some x.av := by rw [hx]; exact ents_get L0 (by simpa using hk)
        refine go_rg TTok 100 rfl ?_
        refine c_op (op_indexAddr_sl (a := ((k : Nat) : Int)) rfl (TTok _ _ rfl).ok rfl (TTok _ _ rfl).ok rfl rfl rfl (by omega) (by rw [ents_len]; omega) p2) rfl rfl rfl ?_
        refine go_rg TTok 100 rfl ?_
        by_cases hl : lookB s x.path = true
        · refine c_op (OpS.cast (op_lookup (l := seenV s) (k := x.path) rfl (TTok _ _ rfl).ok rfl (TTok _ _ rfl).ok rfl (TTok _ _ rfl).ok rfl rfl rfl) ((lookM_seen _ _).trans (congrArg AV.bool hl))) rfl rfl rfl ?_
          refine go_st TTok 100 rfl ?_
          exact c_inv ⟨k + 1, [0], hk, by omega, rfl, rfl, rfl, ⟨rfl, rfl, rfl, congrArg (fun x => some (AV.int .i64 x)) hw1, trivial⟩, ⟨embSame _ _ _, trivial⟩⟩
        · have hl : lookB s x.path = false := by simpa using hl
          refine c_op (OpS.cast (op_lookup (l := seenV s) (k := x.path) rfl (TTok _ _ rfl).ok rfl (TTok _ _ rfl).ok rfl (TTok _ _ rfl).ok rfl rfl rfl) ((lookM_seen _ _).trans (congrArg AV.bool hl))) rfl rfl rfl ?_
          refine go_rg TTok 100 rfl ?_
          have hf := findT_ok Lf x.path hs3 (hp0 x hxm)
          rw [U.find hxm hl] at hf
          refine c_call hf rfl rfl rfl rfl ct15 rfl rfl rfl rfl ?_
          refine go_rg TTok 100 rfl ?_
          refine c_split 142 rfl (fun h => absurd h (by simp)) (fun _ => ?_)
          refine go_rg TTok 100 rfl ?_
          refine c_op (op_neb rfl (TTok _ _ rfl).ok rfl rfl rfl rfl rfl) rfl rfl rfl ?_
          refine go_rg TTok 100 rfl ?_
          refine c_split 149 rfl (fun h => absurd h (by simp)) (fun _ => ?_)
          refine go_rg TTok 100 rfl ?_
          refine c_op (op_bytes_str (l := x.b) rfl (TTok _ _ rfl).ok (TTok _ _ rfl).ok rfl (TTok _ _ rfl).ok rfl rfl rfl rfl) rfl rfl rfl ?_
          refine go_rg TTok 100 rfl ?_
          refine c_op (op_bytes_str (l := x.b) rfl (TTok _ _ rfl).ok (TTok _ _ rfl).ok rfl (TTok _ _ rfl).ok rfl rfl rfl rfl) rfl rfl rfl ?_
          refine go_st TTok 100 rfl ?_
          refine c_cond rfl (fun h => absurd h (by simp)) (fun _ => ?_)
          refine go_st TTok 100 rfl ?_
          exact c_inv ⟨k + 1, [0], hk, by show L0.length - (k + 1) < L0.length - k; omega, rfl, rfl, rfl, ⟨rfl, rfl, rfl, congrArg (fun x => some (AV.int .i64 x)) hw1, trivial⟩, ⟨embSame _ _ _, trivial⟩⟩
      · refine go_st TTok 100 rfl ?_
        refine c_loopP (ι := Nat) (fun k => k ≤ Lf.length) (fun k => [(12, .fp [.sl 3 (ents L0)]), (13, .map 0), (15, .fp [.sl 3 (ents Lf)]), (20, .int .i64 (k : Nat))]) (fun _ => [(0, blkM (seenV s))]) 1 (fun k => Lf.length - k) 0 (Nat.zero_le _) [0]
          ⟨rfl, rfl, rfl, ⟨rfl, rfl, rfl, rfl, trivial⟩, ⟨embSame _ _ _, trivial⟩⟩ ?_
        intro k hk
        refine go_st TTok 100 rfl ?_
        refine c_cond rfl (fun hc => ?_) (fun hc => ?_)
        · have hk : k < Lf.length := by simp [ents] at hc; omega
          have hw1 := i64_next (k := k) (by omega)
          obtain ⟨x, hx⟩ : ∃ x, x = Lf[k] := ⟨_, rfl⟩
          have hxm : x ∈ Lf := by rw [hx]; exact List.getElem_mem hk
          have p2 : (ents Lf)[((k : Nat) : Int).toNat]? = some x.av := by rw [hx]; exact ents_get Lf (by simpa using hk)
          refine go_st TTok 100 rfl ?_
          refine c_dgo TTok mixed rfl rfl rfl rfl ?_
          refine f_op (OpS.cast (op_indexAddr_sl (a := ((k : Nat) : Int)) (av := x.av) rfl (TTok _ _ rfl).ok rfl (TTok _ _ rfl).ok rfl rfl rfl (by omega) (by rw [ents_len]; omega) p2) rfl) rfl rfl rfl ?_
          refine f_go TTok rfl ?_
          refine f_call (findT_ok L0 x.path hsn (hpf x hxm)) rfl rfl rfl rfl ct15 rfl rfl rfl ?_
          refine f_go TTok rfl ?_
          refine f_end ?_
          refine go_rg TTok 100 rfl ?_
          refine c_split 178 rfl (fun he => ?_) (fun _ => ?_)
          · have hl : lookB s x.path = true := by
              cases hq : lookB s x.path with
              | true => rfl
              | false => rw [U.back hg0 hxm hq] at he; exact absurd he (by simp)
            refine go_rg TTok 100 rfl ?_
            refine c_op (op_indexAddr_sl (a := ((k : Nat) : Int)) rfl (TTok _ _ rfl).ok rfl (TTok _ _ rfl).ok rfl rfl rfl (by omega) (by rw [ents_len]; omega) p2) rfl rfl rfl ?_
            refine go_rg TTok 100 rfl ?_
            refine c_op (OpS.cast (op_lookup (l := seenV s) (k := x.path) rfl (TTok _ _ rfl).ok rfl (TTok _ _ rfl).ok rfl (TTok _ _ rfl).ok rfl rfl rfl) ((lookM_seen _ _).trans (congrArg AV.bool hl))) rfl rfl rfl ?_
            refine go_st TTok 100 rfl ?_
            exact c_inv ⟨k + 1, [0], hk, by show Lf.length - (k + 1) < Lf.length - k; omega, rfl, rfl, rfl, ⟨rfl, rfl, rfl, congrArg (fun x => some (AV.int .i64 x)) hw1, trivial⟩, ⟨embSame _ _ _, trivial⟩⟩
          · refine go_st TTok 100 rfl ?_
            exact c_inv ⟨k + 1, [0], hk, by show Lf.length - (k + 1) < Lf.length - k; omega, rfl, rfl, rfl, ⟨rfl, rfl, rfl, congrArg (fun x => some (AV.int .i64 x)) hw1, trivial⟩, ⟨embSame _ _ _, trivial⟩⟩
        · refine go_st TTok 100 rfl ?_
          exact c_ret ⟨_, rfl, rfl⟩
end Go.Proofs.YtikkobmghmphaaaDoor
namespace Go.Proofs.YtikkobmghmphaaaDoor
open Go Go.Av Go.Tm Go.ChangeShapes Go.WideShapes Go.ChangeAt Go.RowKit
set_option maxRecDepth 100000
theorem c31 : Tryd.prog.cellsOf 31 = 1 := by kernel_rfl
noncomputable def rdInts : Rd Tryd.prog 31 (List Int) :=
  (rdSlice Tryd.underlying31 c31 (rdInt Tryd.underlying3 c3) (Nat.le_refl 1)).map (fun l => l.map (·.1)) (fun l => [.sl 1 (ints l)]) (fun l => l.length) (fun a => by
    show [AV.sl 1 (ints (a.map (·.1)))] = [.sl 1 (a.map (rdInt Tryd.underlying3 c3).one)]
    rw [ints, List.map_map]; rfl) (fun _ => rfl) (fun a => by
    show (a.map (·.1)).length ≤ (a.map fun _ => 1).sum + 1
    rw [List.length_map]
    have : ∀ l : List { n : Int // (Lit.int .i64 n).wf = true }, (l.map fun _ => 1).sum = l.length := fun l => by
      induction l with
      | nil => rfl
      | cons x l ih => simp only [List.map_cons, List.sum_cons, List.length_cons, ih]; omega
    rw [this]; omega)

/-- WHAT THE WALK GIVES. -/
theorem contractSure (H : Type) (enc : TypeId × Value → H) (W : World) (args : Array Value) (ds gs : List (DataW H)) (before : List MemPlace) (base : Nat)
    (hval : ∀ (j : Nat) t v, Tryd.f4.params[j]? = some t → args[j]? = some v → Value.okWide Tryd.prog W .any base t v)
    (hW : DataW.Whole enc Tryd.prog Tryd.f4.params.toList Rows.diskSureSpec.vars false W args.toList ds gs before) (hk : Rows.uptoSmall H (ds ++ gs) = true) :
    Calls Tryd.prog 4 args W fun e W' => ∃ v, e = .returned v ∧ Rows.diskSureSpec.post enc Tryd.prog Tryd.f4 false true false false W args v W' := by
  have hW' := hW
  obtain ⟨p, q, hA0, hV, rfl, hfz, hnd⟩ := hW
  have hA : DataW.TrodAll enc Tryd.prog W 0 (fun _ => true) true Tryd.f4.params.toList args.toList ds p := hA0
  rw [Tryd.params4] at hA
  obtain ⟨v0, vs0, d0, ds0, p0, q0, hargs, rfl, rfl, h0, r0⟩ := trodAll_cons hA
  obtain ⟨v1, vs1, d1, ds1, p1, q1, rfl, rfl, rfl, h1, r1⟩ := trodAll_cons r0
  obtain ⟨v2, vs2, d2, ds2, p2, q2, rfl, rfl, rfl, h2, r2⟩ := trodAll_cons r1
  obtain ⟨v3, vs3, d3, ds3, p3, q3, rfl, rfl, rfl, h3, r3⟩ := trodAll_cons r2
  obtain ⟨rfl, rfl, rfl⟩ := trodAll_nil r3
  obtain rfl : args = #[v0, v1, v2, v3] := by cases args; simp_all
  obtain ⟨rfl, rfl⟩ := trodVars_none hV
  clear hA0
  have hsm := small_le hk
  simp only [List.append_nil, blks, Nat.add_zero] at hsm
  have hpar := Tryd.params4
  obtain ⟨n0, hn0⟩ := h0
  obtain ⟨n1, hn1⟩ := h1
  obtain ⟨n2, hn2⟩ := h2
  obtain ⟨n3, hn3⟩ := h3
  obtain ⟨la, a1, _, a3⟩ := rdChgs.sound hn0
  obtain ⟨lb, b1, _, b3⟩ := rdChgs.sound hn1
  obtain ⟨keep, e1, _, e3⟩ := rdInts.sound hn2
  obtain ⟨torn, t1, _, _⟩ := (rdInt Tryd.underlying3 c3).sound hn3
  have a3 : (la.map fun c => 1 + c.path.length + c.to.length + c.b.length).sum ≤ blk d0 := a3
  have b3 : (lb.map fun c => 1 + c.path.length + c.to.length + c.b.length).sum ≤ blk d1 := b3
  have e3 : keep.length ≤ blk d2 := e3
  obtain ⟨k1, k2⟩ := chgs_sm a3 (by omega)
  obtain ⟨k3, k4⟩ := chgs_sm b3 (by omega)
  obtain ⟨sa0, sl0, sc0, rfl⟩ := okWide_slice Tryd.underlying22 (hval 0 _ v0 (by rw [hpar]; rfl) rfl)
  obtain ⟨sa1, sl1, sc1, rfl⟩ := okWide_slice Tryd.underlying22 (hval 1 _ v1 (by rw [hpar]; rfl) rfl)
  obtain ⟨sa2, sl2, sc2, rfl⟩ := okWide_slice Tryd.underlying31 (hval 2 _ v2 (by rw [hpar]; rfl) rfl)
  obtain ⟨i3, rfl⟩ := okWide_int Tryd.underlying3 (hval 3 _ v3 (by rw [hpar]; rfl) rfl)
  refine (diskSure_ok la lb keep torn.1 k1 k3 (by omega) k2 k4 W (fun _ => False) [.slice sa0 sl0 sc0, .slice sa1 sl1 sc1, .slice sa2 sl2 sc2, .int .i64 i3] (fun _ h => h.elim) (a1.append (b1.append (e1.append t1)))).mono ?_
  rintro e W' ⟨v, rfl, hP, hv⟩
  exact ⟨v, rfl, post_of_pres (tb := 4) rfl rfl rfl Tryd.underlying4 hv lof (fun t ht => by
    rw [hpar] at ht
    simp only [List.mem_cons, List.not_mem_nil, or_false] at ht
    rcases ht with rfl | rfl | rfl | rfl
    all_goals exact ⟨by kernel_rfl, of_decide_eq_true (by kernel_rfl)⟩) hW' hP⟩
end Go.Proofs.YtikkobmghmphaaaDoor
