/- DiskAll returns true for every list of changes that, with all that it reads, holds at most 1048576 values and letters; conditions: the tables unicode/utf8.first and unicode/utf8.acceptRanges hold what the library's text lays (tied). -/
import GoSem.PinnedTables
import Derived.Test.YtikkobmghmphaaaDoorP11
namespace Go.Proofs.YtikkobmghmphaaaDoor
open Go Go.Av Go.Tm Go.ChangeShapes Go.WideShapes Go.ChangeAt Go.RowKit
theorem own : ownKnob Tryd.prog.godebug = none := by kernel_rfl
def bytesV (l : List Nat) : Array Value := (l.map fun (n : Nat) => Value.int .u8 (n : Int)).toArray
def accZ : List Nat := [128, 191, 160, 191, 128, 159, 144, 191, 128, 143, 0, 0, 0, 0, 0, 0, 0, 0, 0, 0, 0, 0, 0, 0, 0, 0, 0, 0, 0, 0, 0, 0]
/-- A WORLD FOR THE WITNESS: the settled one, the two tables holding what their texts lay. -/
noncomputable def laidWorld (os : Os) : World :=
  { World.holding Tryd.prog os ⟨#[], #[], []⟩ with heap := (((World.holding Tryd.prog os ⟨#[], #[], []⟩).heap.modify 1 (fun o => match o with
      | .cells _ t frozen => .cells (bytesV Pinned.utf8FirstZ) t frozen
      | o => o)).modify 2 (fun o => match o with
      | .cells _ t frozen => .cells (bytesV accZ) t frozen
      | o => o)) }
theorem laid_met (os : Os) (args : Array Value) : laidMet Tryd.prog Rows.diskAllRow.laid ((laidWorld os).forCall (fun _ _ => 0) ⟨#[], args, []⟩).memory :=
  laidMet_of_run' 8 (by kernel_rfl) (by kernel_rfl)
theorem readsAll (os : Os) {H : Type} (enc : TypeId × Value → H) : ∃ places, DataW.whole enc Tryd.prog ((laidWorld os).forCall (fun _ _ => 0) ⟨#[], #[.slice none 0 0], []⟩).memory Tryd.f3.params.toList Rows.diskAllSpec.vars false #[Value.slice none 0 0].toList 8 = some ([.nil], [], places) :=
  ⟨[], by kernel_rfl⟩
set_option maxRecDepth 100000 in
theorem liftedAll (os : Os) (started : os.Started) (H : Type) (enc : TypeId × Value → H) (F : Stop.Interp) :
    ReturnsInHanded {} Tryd.checked os 3 .any ((Rows.OpenSpec.upto Rows.diskAllSpec).preRow enc Tryd.prog Tryd.f3 Rows.diskAllUptoRow.domain false Rows.diskAllUptoRow.laid) (((Rows.OpenSpec.upto Rows.diskAllSpec).at F).post enc Tryd.prog Tryd.f3 false true false false) := by
  obtain ⟨places, hx⟩ := readsAll os enc
  refine returnsInHanded_of_row (C := Tryd.checked) (s := Rows.OpenSpec.upto Rows.diskAllSpec) own started (by kernel_rfl) Tryd.func3
    (witness_row_at (enc := enc) (C := Tryd.checked) false (laidWorld os) #[.slice none 0 0] rfl (by kernel_rfl) (by kernel_rfl) (by kernel_rfl)
      (OpenSpec.preRow_of_cond 8 hx (by kernel_rfl) (fun k hk => by cases hk; kernel_rfl) (by kernel_rfl) (laid_met os _))) ?_
  intro W base args ds gs before hval hW _ hcond _ hL _ _
  exact contractAll H enc W args ds gs before base hval hW (hcond _ rfl)
theorem saidUptoAll : Rows.DiskAllUptoSaid :=
  OpenClaim.holds_of_cond 3 Tryd.f3 rfl rfl rfl rfl rfl rfl rfl ⟨rfl, rfl, rfl, rfl, rfl⟩ rfl rfl rfl rfl rfl (by kernel_rfl) Tryd.func3 (by kernel_rfl)
    (of_decide_eq_true (by kernel_rfl)) (by unfold Func.isWrapper; first | (rw [if_pos (by decide +kernel)]; kernel_rfl) | (rw [if_neg (by decide +kernel)]; exact ⟨rfl, rfl⟩))
    (fun os started H enc _ F => by rw [OpenClaim.pre_eq_preRow]; exact liftedAll os started H enc F)
theorem plainAll (f : FuncId) (fn : Func) (hf : Tryd.pinned.checked.prog.funcNamed "tallyman/tallymanlaw9.DiskAll" = some f) (hfn : Tryd.pinned.checked.prog.funcs[f]? = some fn) :
    false = Tryd.pinned.checked.prog.looks [] ∧ ∀ (j : Nat) t, fn.params[j]? = some t → Tryd.pinned.checked.prog.wantsStandIn t = false := by
  obtain rfl : f = 3 := Option.some.inj ((show Tryd.prog.funcNamed "tallyman/tallymanlaw9.DiskAll" = some 3 by kernel_rfl).symm.trans hf) |>.symm
  obtain rfl : fn = Tryd.f3 := (Option.some.inj (Tryd.func3.symm.trans hfn)).symm
  refine ⟨by kernel_rfl, fun j t ht => ?_⟩
  rw [Tryd.params3] at ht
  obtain rfl : t = 22 := by simpa using Array.mem_of_getElem? ht
  exact (show Tryd.prog.wantsStandIn 22 = false by kernel_rfl)
/-- THE CARD. -/
theorem diskAll_card : Rows.DiskAllUptoCardSaid :=
  Claim7.holds_tied_plain_at .later [] _ _ _ _ saidUptoAll (fun _ h => by cases h) (by kernel_rfl) (fun _ h => by cases h) diskAllUpto_row_tie rfl ⟨rfl, rfl⟩ (by kernel_rfl) rfl plainAll (by kernel_rfl)
end Go.Proofs.YtikkobmghmphaaaDoor
