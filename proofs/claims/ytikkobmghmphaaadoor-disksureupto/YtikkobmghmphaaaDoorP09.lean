/- Part 9 of the proof: what functions of this program compute. -/
import Derived.Test.YtikkobmghmphaaaDoorCards
import Derived.Test.YtikkobmghmphaaaDoorTie
import Derived.WalkKit
import Derived.ProofKit
import Derived.OpenShut
import Derived.Deep.DeepHandedRow
import Derived.Lib.LaidTab
import Derived.Test.YtikkobmghmphaaaDoorProg
import Derived.KernelRfl
import Derived.Test.YtikkobmghmphaaaDoorP08
namespace Go.Proofs.YtikkobmghmphaaaDoor
open Go Go.Av Go.ChangeShapes Go.WideShapes Go.ChangeAt Go.RowKit
mutual
theorem bulk_blk {H : Type} : ∀ d : DataW H, Rows.uptoBulk d = blk d
  | .lit l => by cases l <;> rfl
  | .nil => rfl
  | .ptr d => by simp only [Rows.uptoBulk, blk, bulk_blk d]
  | .slice a b => by simp only [Rows.uptoBulk, blk, bulk_blks a, bulk_blks b]
  | .agg a => by simp only [Rows.uptoBulk, blk, bulk_blks a]
  | .iface _ d => by simp only [Rows.uptoBulk, blk, bulk_blk d]
  | .map es => by simp only [Rows.uptoBulk, blk, bulk_blkEs es]
  | .held _ => rfl
theorem bulk_blks {H : Type} : ∀ d : List (DataW H), Rows.uptoBulkAll d = blks d
  | [] => rfl
  | d :: r => by simp only [Rows.uptoBulkAll, blks, bulk_blk d, bulk_blks r]
theorem bulk_blkEs {H : Type} : ∀ d : List (Lit × DataW H), Rows.uptoBulkEntries d = blkEs d
  | [] => rfl
  | d :: r => by simp only [Rows.uptoBulkEntries, blkEs, bulk_blkE d, bulk_blkEs r]
theorem bulk_blkE {H : Type} : ∀ d : Lit × DataW H, Rows.uptoBulkEntry d = blkE d
  | (l, d) => by cases l <;> simp only [Rows.uptoBulkEntry, blkE, bulk_blk d]
end
theorem small_le {H : Type} {ds : List (DataW H)} (h : Rows.uptoSmall H ds = true) : blks ds ≤ 1048576 := by
  have h : Rows.uptoBulkAll ds ≤ 1048576 := of_decide_eq_true h
  rwa [bulk_blks] at h
end Go.Proofs.YtikkobmghmphaaaDoor
namespace Go.Proofs.YtikkobmghmphaaaDoor
open Go Go.Av
noncomputable def ti1 : FI := ⟨⟨Tryd.t1.desc, 1, 8, .nilfunc⟩, []⟩
theorem tok1 : FOk Tryd.prog 1 ti1 := ⟨TOk.mk' Tryd.underlying1 (f := Tryd.t1) (by kernel_rfl) rfl rfl rfl rfl rfl rfl, fun h => absurd rfl h⟩
noncomputable def ti2 : FI := ⟨⟨Tryd.t2.desc, 1, 8, .int .i64 0⟩, []⟩
theorem tok2 : FOk Tryd.prog 2 ti2 := ⟨TOk.mk' Tryd.underlying2 (f := Tryd.t2) (by kernel_rfl) rfl rfl rfl rfl rfl rfl, fun h => absurd rfl h⟩
noncomputable def ti3 : FI := ⟨⟨Tryd.t3.desc, 1, 8, .int .i64 0⟩, []⟩
theorem tok3 : FOk Tryd.prog 3 ti3 := ⟨TOk.mk' Tryd.underlying3 (f := Tryd.t3) (by kernel_rfl) rfl rfl rfl rfl rfl rfl, fun h => absurd rfl h⟩
noncomputable def ti4 : FI := ⟨⟨Tryd.t4.desc, 1, 1, .bool false⟩, []⟩
theorem tok4 : FOk Tryd.prog 4 ti4 := ⟨TOk.mk' Tryd.underlying4 (f := Tryd.t4) (by kernel_rfl) rfl rfl rfl rfl rfl rfl, fun h => absurd rfl h⟩
noncomputable def ti5 : FI := ⟨⟨Tryd.t5.desc, 1, 1, .int .u8 0⟩, []⟩
theorem tok5 : FOk Tryd.prog 5 ti5 := ⟨TOk.mk' Tryd.underlying5 (f := Tryd.t5) (by kernel_rfl) rfl rfl rfl rfl rfl rfl, fun h => absurd rfl h⟩
noncomputable def ti6 : FI := ⟨⟨Tryd.t5.desc, 1, 1, .int .u8 0⟩, []⟩
theorem tok6 : FOk Tryd.prog 6 ti6 := ⟨TOk.mk' Tryd.underlying6 (f := Tryd.t6) (by kernel_rfl) rfl rfl rfl rfl rfl rfl, fun h => absurd rfl h⟩
noncomputable def ti7 : FI := ⟨⟨Tryd.t7.desc, 4, 24, .agg [.int .i64 0, .int .i64 0, .bool false, .int .u8 0]⟩, [(0, 1, false), (1, 1, false), (2, 1, false), (3, 1, false)]⟩
theorem tok7 : FOk Tryd.prog 7 ti7 := ⟨TOk.mk' Tryd.underlying7 (f := Tryd.t7) (by kernel_rfl) rfl rfl rfl rfl rfl rfl, fun _ => ⟨_, rfl, ⟨rfl, ⟨Tryd.t2, (by kernel_rfl), rfl⟩, ⟨_, Tryd.underlying2, rfl⟩, ⟨rfl, ⟨Tryd.t3, (by kernel_rfl), rfl⟩, ⟨_, Tryd.underlying3, rfl⟩, ⟨rfl, ⟨Tryd.t4, (by kernel_rfl), rfl⟩, ⟨_, Tryd.underlying4, rfl⟩, ⟨rfl, ⟨Tryd.t6, (by kernel_rfl), rfl⟩, ⟨_, Tryd.underlying6, rfl⟩, trivial⟩⟩⟩⟩⟩⟩
noncomputable def ti8 : FI := ⟨⟨Tryd.t7.desc, 4, 24, .agg [.int .i64 0, .int .i64 0, .bool false, .int .u8 0]⟩, [(0, 1, false), (1, 1, false), (2, 1, false), (3, 1, false)]⟩
theorem tok8 : FOk Tryd.prog 8 ti8 := ⟨TOk.mk' Tryd.underlying8 (f := Tryd.t8) (by kernel_rfl) rfl rfl rfl rfl rfl rfl, fun _ => ⟨_, rfl, ⟨rfl, ⟨Tryd.t2, (by kernel_rfl), rfl⟩, ⟨_, Tryd.underlying2, rfl⟩, ⟨rfl, ⟨Tryd.t3, (by kernel_rfl), rfl⟩, ⟨_, Tryd.underlying3, rfl⟩, ⟨rfl, ⟨Tryd.t4, (by kernel_rfl), rfl⟩, ⟨_, Tryd.underlying4, rfl⟩, ⟨rfl, ⟨Tryd.t6, (by kernel_rfl), rfl⟩, ⟨_, Tryd.underlying6, rfl⟩, trivial⟩⟩⟩⟩⟩⟩
noncomputable def ti9 : FI := ⟨⟨Tryd.t9.desc, 1, 16, .str []⟩, []⟩
theorem tok9 : FOk Tryd.prog 9 ti9 := ⟨TOk.mk' Tryd.underlying9 (f := Tryd.t9) (by kernel_rfl) rfl rfl rfl rfl rfl rfl, fun h => absurd rfl h⟩
noncomputable def ti10 : FI := ⟨⟨Tryd.t9.desc, 1, 16, .str []⟩, []⟩
theorem tok10 : FOk Tryd.prog 10 ti10 := ⟨TOk.mk' Tryd.underlying10 (f := Tryd.t10) (by kernel_rfl) rfl rfl rfl rfl rfl rfl, fun h => absurd rfl h⟩
noncomputable def ti11 : FI := ⟨⟨Tryd.t9.desc, 1, 16, .str []⟩, []⟩
theorem tok11 : FOk Tryd.prog 11 ti11 := ⟨TOk.mk' Tryd.underlying11 (f := Tryd.t11) (by kernel_rfl) rfl rfl rfl rfl rfl rfl, fun h => absurd rfl h⟩
noncomputable def ti12 : FI := ⟨⟨Tryd.t12.desc, 1, 8, .int .u64 0⟩, []⟩
theorem tok12 : FOk Tryd.prog 12 ti12 := ⟨TOk.mk' Tryd.underlying12 (f := Tryd.t12) (by kernel_rfl) rfl rfl rfl rfl rfl rfl, fun h => absurd rfl h⟩
noncomputable def ti13 : FI := ⟨⟨Tryd.t13.desc, 2, 24, .agg [.str [], .int .u64 0]⟩, [(0, 1, false), (1, 1, false)]⟩
theorem tok13 : FOk Tryd.prog 13 ti13 := ⟨TOk.mk' Tryd.underlying13 (f := Tryd.t13) (by kernel_rfl) rfl rfl rfl rfl rfl rfl, fun _ => ⟨_, rfl, ⟨rfl, ⟨Tryd.t9, (by kernel_rfl), rfl⟩, ⟨_, Tryd.underlying9, rfl⟩, ⟨rfl, ⟨Tryd.t12, (by kernel_rfl), rfl⟩, ⟨_, Tryd.underlying12, rfl⟩, trivial⟩⟩⟩⟩
noncomputable def ti14 : FI := ⟨⟨Tryd.t13.desc, 2, 24, .agg [.str [], .int .u64 0]⟩, [(0, 1, false), (1, 1, false)]⟩
theorem tok14 : FOk Tryd.prog 14 ti14 := ⟨TOk.mk' Tryd.underlying14 (f := Tryd.t14) (by kernel_rfl) rfl rfl rfl rfl rfl rfl, fun _ => ⟨_, rfl, ⟨rfl, ⟨Tryd.t9, (by kernel_rfl), rfl⟩, ⟨_, Tryd.underlying9, rfl⟩, ⟨rfl, ⟨Tryd.t12, (by kernel_rfl), rfl⟩, ⟨_, Tryd.underlying12, rfl⟩, trivial⟩⟩⟩⟩
noncomputable def ti15 : FI := ⟨⟨Tryd.t15.desc, 1, 8, .nilp⟩, []⟩
theorem tok15 : FOk Tryd.prog 15 ti15 := ⟨TOk.mk' Tryd.underlying15 (f := Tryd.t15) (by kernel_rfl) rfl rfl rfl rfl rfl rfl, fun h => absurd rfl h⟩
noncomputable def ti16 : FI := ⟨⟨Tryd.t16.desc, 1, 8, .nilp⟩, []⟩
theorem tok16 : FOk Tryd.prog 16 ti16 := ⟨TOk.mk' Tryd.underlying16 (f := Tryd.t16) (by kernel_rfl) rfl rfl rfl rfl rfl rfl, fun h => absurd rfl h⟩
noncomputable def ti17 : FI := ⟨⟨Tryd.t17.desc, 1, 8, .nilp⟩, []⟩
theorem tok17 : FOk Tryd.prog 17 ti17 := ⟨TOk.mk' Tryd.underlying17 (f := Tryd.t17) (by kernel_rfl) rfl rfl rfl rfl rfl rfl, fun h => absurd rfl h⟩
noncomputable def ti18 : FI := ⟨⟨Tryd.t18.desc, 1, 8, .agg [.nilp]⟩, [(0, 1, false)]⟩
theorem tok18 : FOk Tryd.prog 18 ti18 := ⟨TOk.mk' Tryd.underlying18 (f := Tryd.t18) (by kernel_rfl) rfl rfl rfl rfl rfl rfl, fun _ => ⟨_, rfl, ⟨rfl, ⟨Tryd.t17, (by kernel_rfl), rfl⟩, ⟨_, Tryd.underlying17, rfl⟩, trivial⟩⟩⟩
noncomputable def ti19 : FI := ⟨⟨Tryd.t18.desc, 1, 8, .agg [.nilp]⟩, [(0, 1, false)]⟩
theorem tok19 : FOk Tryd.prog 19 ti19 := ⟨TOk.mk' Tryd.underlying19 (f := Tryd.t19) (by kernel_rfl) rfl rfl rfl rfl rfl rfl, fun _ => ⟨_, rfl, ⟨rfl, ⟨Tryd.t17, (by kernel_rfl), rfl⟩, ⟨_, Tryd.underlying17, rfl⟩, trivial⟩⟩⟩
noncomputable def ti20 : FI := ⟨⟨Tryd.t20.desc, 1, 16, .niliface⟩, []⟩
theorem tok20 : FOk Tryd.prog 20 ti20 := ⟨TOk.mk' Tryd.underlying20 (f := Tryd.t20) (by kernel_rfl) rfl rfl rfl rfl rfl rfl, fun h => absurd rfl h⟩
noncomputable def ti21 : FI := ⟨⟨Tryd.t21.desc, 1, 4, .int .i32 0⟩, []⟩
theorem tok21 : FOk Tryd.prog 21 ti21 := ⟨TOk.mk' Tryd.underlying21 (f := Tryd.t21) (by kernel_rfl) rfl rfl rfl rfl rfl rfl, fun h => absurd rfl h⟩
noncomputable def ti22 : FI := ⟨⟨Tryd.t22.desc, 1, 24, .nilsl⟩, []⟩
theorem tok22 : FOk Tryd.prog 22 ti22 := ⟨TOk.mk' Tryd.underlying22 (f := Tryd.t22) (by kernel_rfl) rfl rfl rfl rfl rfl rfl, fun h => absurd rfl h⟩
noncomputable def ti23 : FI := ⟨⟨Tryd.t23.desc, 1, 8, .nilfunc⟩, []⟩
theorem tok23 : FOk Tryd.prog 23 ti23 := ⟨TOk.mk' Tryd.underlying23 (f := Tryd.t23) (by kernel_rfl) rfl rfl rfl rfl rfl rfl, fun h => absurd rfl h⟩
noncomputable def ti24 : FI := ⟨⟨Tryd.t24.desc, 1, 8, .nilp⟩, []⟩
theorem tok24 : FOk Tryd.prog 24 ti24 := ⟨TOk.mk' Tryd.underlying24 (f := Tryd.t24) (by kernel_rfl) rfl rfl rfl rfl rfl rfl, fun h => absurd rfl h⟩
noncomputable def ti25 : FI := ⟨⟨Tryd.t3.desc, 1, 8, .int .i64 0⟩, []⟩
theorem tok25 : FOk Tryd.prog 25 ti25 := ⟨TOk.mk' Tryd.underlying25 (f := Tryd.t25) (by kernel_rfl) rfl rfl rfl rfl rfl rfl, fun h => absurd rfl h⟩
noncomputable def ti27 : FI := ⟨⟨Tryd.t27.desc, 1, 8, .nilfunc⟩, []⟩
theorem tok27 : FOk Tryd.prog 27 ti27 := ⟨TOk.mk' Tryd.underlying27 (f := Tryd.t27) (by kernel_rfl) rfl rfl rfl rfl rfl rfl, fun h => absurd rfl h⟩
noncomputable def ti28 : FI := ⟨⟨Tryd.t28.desc, 1, 24, .nilsl⟩, []⟩
theorem tok28 : FOk Tryd.prog 28 ti28 := ⟨TOk.mk' Tryd.underlying28 (f := Tryd.t28) (by kernel_rfl) rfl rfl rfl rfl rfl rfl, fun h => absurd rfl h⟩
noncomputable def ti29 : FI := ⟨⟨Tryd.t29.desc, 1, 24, .agg [.nilsl]⟩, [(0, 1, false)]⟩
theorem tok29 : FOk Tryd.prog 29 ti29 := ⟨TOk.mk' Tryd.underlying29 (f := Tryd.t29) (by kernel_rfl) rfl rfl rfl rfl rfl rfl, fun _ => ⟨_, rfl, ⟨rfl, ⟨Tryd.t28, (by kernel_rfl), rfl⟩, ⟨_, Tryd.underlying28, rfl⟩, trivial⟩⟩⟩
noncomputable def ti30 : FI := ⟨⟨Tryd.t29.desc, 1, 24, .agg [.nilsl]⟩, [(0, 1, false)]⟩
theorem tok30 : FOk Tryd.prog 30 ti30 := ⟨TOk.mk' Tryd.underlying30 (f := Tryd.t30) (by kernel_rfl) rfl rfl rfl rfl rfl rfl, fun _ => ⟨_, rfl, ⟨rfl, ⟨Tryd.t28, (by kernel_rfl), rfl⟩, ⟨_, Tryd.underlying28, rfl⟩, trivial⟩⟩⟩
noncomputable def ti31 : FI := ⟨⟨Tryd.t31.desc, 1, 24, .nilsl⟩, []⟩
theorem tok31 : FOk Tryd.prog 31 ti31 := ⟨TOk.mk' Tryd.underlying31 (f := Tryd.t31) (by kernel_rfl) rfl rfl rfl rfl rfl rfl, fun h => absurd rfl h⟩
noncomputable def ti32 : FI := ⟨⟨Tryd.t32.desc, 1, 24, .nilsl⟩, []⟩
theorem tok32 : FOk Tryd.prog 32 ti32 := ⟨TOk.mk' Tryd.underlying32 (f := Tryd.t32) (by kernel_rfl) rfl rfl rfl rfl rfl rfl, fun h => absurd rfl h⟩
noncomputable def ti33 : FI := ⟨⟨Tryd.t33.desc, 4, 64, .agg [.int .i64 0, .str [], .str [], .nilsl]⟩, [(0, 1, false), (1, 1, false), (2, 1, false), (3, 1, false)]⟩
theorem tok33 : FOk Tryd.prog 33 ti33 := ⟨TOk.mk' Tryd.underlying33 (f := Tryd.t33) (by kernel_rfl) rfl rfl rfl rfl rfl rfl, fun _ => ⟨_, rfl, ⟨rfl, ⟨Tryd.t3, (by kernel_rfl), rfl⟩, ⟨_, Tryd.underlying3, rfl⟩, ⟨rfl, ⟨Tryd.t9, (by kernel_rfl), rfl⟩, ⟨_, Tryd.underlying9, rfl⟩, ⟨rfl, ⟨Tryd.t9, (by kernel_rfl), rfl⟩, ⟨_, Tryd.underlying9, rfl⟩, ⟨rfl, ⟨Tryd.t32, (by kernel_rfl), rfl⟩, ⟨_, Tryd.underlying32, rfl⟩, trivial⟩⟩⟩⟩⟩⟩
noncomputable def ti34 : FI := ⟨⟨Tryd.t33.desc, 4, 64, .agg [.int .i64 0, .str [], .str [], .nilsl]⟩, [(0, 1, false), (1, 1, false), (2, 1, false), (3, 1, false)]⟩
theorem tok34 : FOk Tryd.prog 34 ti34 := ⟨TOk.mk' Tryd.underlying34 (f := Tryd.t34) (by kernel_rfl) rfl rfl rfl rfl rfl rfl, fun _ => ⟨_, rfl, ⟨rfl, ⟨Tryd.t3, (by kernel_rfl), rfl⟩, ⟨_, Tryd.underlying3, rfl⟩, ⟨rfl, ⟨Tryd.t9, (by kernel_rfl), rfl⟩, ⟨_, Tryd.underlying9, rfl⟩, ⟨rfl, ⟨Tryd.t9, (by kernel_rfl), rfl⟩, ⟨_, Tryd.underlying9, rfl⟩, ⟨rfl, ⟨Tryd.t32, (by kernel_rfl), rfl⟩, ⟨_, Tryd.underlying32, rfl⟩, trivial⟩⟩⟩⟩⟩⟩
noncomputable def ti35 : FI := ⟨⟨Tryd.t35.desc, 1, 8, .nilfunc⟩, []⟩
theorem tok35 : FOk Tryd.prog 35 ti35 := ⟨TOk.mk' Tryd.underlying35 (f := Tryd.t35) (by kernel_rfl) rfl rfl rfl rfl rfl rfl, fun h => absurd rfl h⟩
noncomputable def ti36 : FI := ⟨⟨Tryd.t36.desc, 1, 8, .nilfunc⟩, []⟩
theorem tok36 : FOk Tryd.prog 36 ti36 := ⟨TOk.mk' Tryd.underlying36 (f := Tryd.t36) (by kernel_rfl) rfl rfl rfl rfl rfl rfl, fun h => absurd rfl h⟩
noncomputable def ti37 : FI := ⟨⟨Tryd.t37.desc, 1, 8, .nilfunc⟩, []⟩
theorem tok37 : FOk Tryd.prog 37 ti37 := ⟨TOk.mk' Tryd.underlying37 (f := Tryd.t37) (by kernel_rfl) rfl rfl rfl rfl rfl rfl, fun h => absurd rfl h⟩
noncomputable def ti38 : FI := ⟨⟨Tryd.t38.desc, 1, 8, .nilfunc⟩, []⟩
theorem tok38 : FOk Tryd.prog 38 ti38 := ⟨TOk.mk' Tryd.underlying38 (f := Tryd.t38) (by kernel_rfl) rfl rfl rfl rfl rfl rfl, fun h => absurd rfl h⟩
noncomputable def ti39 : FI := ⟨⟨Tryd.t39.desc, 1, 8, .nilfunc⟩, []⟩
theorem tok39 : FOk Tryd.prog 39 ti39 := ⟨TOk.mk' Tryd.underlying39 (f := Tryd.t39) (by kernel_rfl) rfl rfl rfl rfl rfl rfl, fun h => absurd rfl h⟩
noncomputable def ti40 : FI := ⟨⟨Tryd.t40.desc, 1, 8, .nilfunc⟩, []⟩
theorem tok40 : FOk Tryd.prog 40 ti40 := ⟨TOk.mk' Tryd.underlying40 (f := Tryd.t40) (by kernel_rfl) rfl rfl rfl rfl rfl rfl, fun h => absurd rfl h⟩
noncomputable def ti41 : FI := ⟨⟨Tryd.t41.desc, 1, 8, .nilfunc⟩, []⟩
theorem tok41 : FOk Tryd.prog 41 ti41 := ⟨TOk.mk' Tryd.underlying41 (f := Tryd.t41) (by kernel_rfl) rfl rfl rfl rfl rfl rfl, fun h => absurd rfl h⟩
noncomputable def ti42 : FI := ⟨⟨Tryd.t42.desc, 1, 8, .nilmap⟩, []⟩
theorem tok42 : FOk Tryd.prog 42 ti42 := ⟨TOk.mk' Tryd.underlying42 (f := Tryd.t42) (by kernel_rfl) rfl rfl rfl rfl rfl rfl, fun h => absurd rfl h⟩
noncomputable def ti43 : FI := ⟨⟨Tryd.t43.desc, 1, 8, .nilfunc⟩, []⟩
theorem tok43 : FOk Tryd.prog 43 ti43 := ⟨TOk.mk' Tryd.underlying43 (f := Tryd.t43) (by kernel_rfl) rfl rfl rfl rfl rfl rfl, fun h => absurd rfl h⟩
noncomputable def ti44 : FI := ⟨⟨Tryd.t44.desc, 3, 48, .agg [.str [], .bool false, .nilsl]⟩, [(0, 1, false), (1, 1, false), (2, 1, false)]⟩
theorem tok44 : FOk Tryd.prog 44 ti44 := ⟨TOk.mk' Tryd.underlying44 (f := Tryd.t44) (by kernel_rfl) rfl rfl rfl rfl rfl rfl, fun _ => ⟨_, rfl, ⟨rfl, ⟨Tryd.t9, (by kernel_rfl), rfl⟩, ⟨_, Tryd.underlying9, rfl⟩, ⟨rfl, ⟨Tryd.t4, (by kernel_rfl), rfl⟩, ⟨_, Tryd.underlying4, rfl⟩, ⟨rfl, ⟨Tryd.t32, (by kernel_rfl), rfl⟩, ⟨_, Tryd.underlying32, rfl⟩, trivial⟩⟩⟩⟩⟩
noncomputable def ti45 : FI := ⟨⟨Tryd.t44.desc, 3, 48, .agg [.str [], .bool false, .nilsl]⟩, [(0, 1, false), (1, 1, false), (2, 1, false)]⟩
theorem tok45 : FOk Tryd.prog 45 ti45 := ⟨TOk.mk' Tryd.underlying45 (f := Tryd.t45) (by kernel_rfl) rfl rfl rfl rfl rfl rfl, fun _ => ⟨_, rfl, ⟨rfl, ⟨Tryd.t9, (by kernel_rfl), rfl⟩, ⟨_, Tryd.underlying9, rfl⟩, ⟨rfl, ⟨Tryd.t4, (by kernel_rfl), rfl⟩, ⟨_, Tryd.underlying4, rfl⟩, ⟨rfl, ⟨Tryd.t32, (by kernel_rfl), rfl⟩, ⟨_, Tryd.underlying32, rfl⟩, trivial⟩⟩⟩⟩⟩
noncomputable def ti47 : FI := ⟨⟨Tryd.t47.desc, 1, 8, .nilfunc⟩, []⟩
theorem tok47 : FOk Tryd.prog 47 ti47 := ⟨TOk.mk' Tryd.underlying47 (f := Tryd.t47) (by kernel_rfl) rfl rfl rfl rfl rfl rfl, fun h => absurd rfl h⟩
noncomputable def ti48 : FI := ⟨⟨Tryd.t48.desc, 1, 8, .nilfunc⟩, []⟩
theorem tok48 : FOk Tryd.prog 48 ti48 := ⟨TOk.mk' Tryd.underlying48 (f := Tryd.t48) (by kernel_rfl) rfl rfl rfl rfl rfl rfl, fun h => absurd rfl h⟩
noncomputable def ti49 : FI := ⟨⟨Tryd.t49.desc, 1, 8, .nilfunc⟩, []⟩
theorem tok49 : FOk Tryd.prog 49 ti49 := ⟨TOk.mk' Tryd.underlying49 (f := Tryd.t49) (by kernel_rfl) rfl rfl rfl rfl rfl rfl, fun h => absurd rfl h⟩
noncomputable def ti50 : FI := ⟨⟨Tryd.t50.desc, 9, 136, .agg [.int .i64 0, .nilsl, .nilsl, .nilsl, .bool false, .int .i64 0, .int .i64 0, .nilsl, .int .i64 0]⟩, [(0, 1, false), (1, 1, true), (2, 1, true), (3, 1, false), (4, 1, false), (5, 1, false), (6, 1, false), (7, 1, false), (8, 1, false)]⟩
theorem tok50 : FOk Tryd.prog 50 ti50 := ⟨TOk.mk' Tryd.underlying50 (f := Tryd.t50) (by kernel_rfl) rfl rfl rfl rfl rfl rfl, fun _ => ⟨_, rfl, ⟨rfl, ⟨Tryd.t3, (by kernel_rfl), rfl⟩, ⟨_, Tryd.underlying3, rfl⟩, ⟨rfl, ⟨Tryd.t30, (by kernel_rfl), rfl⟩, ⟨_, Tryd.underlying30, rfl⟩, ⟨rfl, ⟨Tryd.t30, (by kernel_rfl), rfl⟩, ⟨_, Tryd.underlying30, rfl⟩, ⟨rfl, ⟨Tryd.t22, (by kernel_rfl), rfl⟩, ⟨_, Tryd.underlying22, rfl⟩, ⟨rfl, ⟨Tryd.t4, (by kernel_rfl), rfl⟩, ⟨_, Tryd.underlying4, rfl⟩, ⟨rfl, ⟨Tryd.t2, (by kernel_rfl), rfl⟩, ⟨_, Tryd.underlying2, rfl⟩, ⟨rfl, ⟨Tryd.t3, (by kernel_rfl), rfl⟩, ⟨_, Tryd.underlying3, rfl⟩, ⟨rfl, ⟨Tryd.t31, (by kernel_rfl), rfl⟩, ⟨_, Tryd.underlying31, rfl⟩, ⟨rfl, ⟨Tryd.t3, (by kernel_rfl), rfl⟩, ⟨_, Tryd.underlying3, rfl⟩, trivial⟩⟩⟩⟩⟩⟩⟩⟩⟩⟩⟩
noncomputable def ti51 : FI := ⟨⟨Tryd.t50.desc, 9, 136, .agg [.int .i64 0, .nilsl, .nilsl, .nilsl, .bool false, .int .i64 0, .int .i64 0, .nilsl, .int .i64 0]⟩, [(0, 1, false), (1, 1, true), (2, 1, true), (3, 1, false), (4, 1, false), (5, 1, false), (6, 1, false), (7, 1, false), (8, 1, false)]⟩
theorem tok51 : FOk Tryd.prog 51 ti51 := ⟨TOk.mk' Tryd.underlying51 (f := Tryd.t51) (by kernel_rfl) rfl rfl rfl rfl rfl rfl, fun _ => ⟨_, rfl, ⟨rfl, ⟨Tryd.t3, (by kernel_rfl), rfl⟩, ⟨_, Tryd.underlying3, rfl⟩, ⟨rfl, ⟨Tryd.t30, (by kernel_rfl), rfl⟩, ⟨_, Tryd.underlying30, rfl⟩, ⟨rfl, ⟨Tryd.t30, (by kernel_rfl), rfl⟩, ⟨_, Tryd.underlying30, rfl⟩, ⟨rfl, ⟨Tryd.t22, (by kernel_rfl), rfl⟩, ⟨_, Tryd.underlying22, rfl⟩, ⟨rfl, ⟨Tryd.t4, (by kernel_rfl), rfl⟩, ⟨_, Tryd.underlying4, rfl⟩, ⟨rfl, ⟨Tryd.t2, (by kernel_rfl), rfl⟩, ⟨_, Tryd.underlying2, rfl⟩, ⟨rfl, ⟨Tryd.t3, (by kernel_rfl), rfl⟩, ⟨_, Tryd.underlying3, rfl⟩, ⟨rfl, ⟨Tryd.t31, (by kernel_rfl), rfl⟩, ⟨_, Tryd.underlying31, rfl⟩, ⟨rfl, ⟨Tryd.t3, (by kernel_rfl), rfl⟩, ⟨_, Tryd.underlying3, rfl⟩, trivial⟩⟩⟩⟩⟩⟩⟩⟩⟩⟩⟩
noncomputable def ti53 : FI := ⟨⟨Tryd.t53.desc, 1, 8, .nilfunc⟩, []⟩
theorem tok53 : FOk Tryd.prog 53 ti53 := ⟨TOk.mk' Tryd.underlying53 (f := Tryd.t53) (by kernel_rfl) rfl rfl rfl rfl rfl rfl, fun h => absurd rfl h⟩
noncomputable def ti54 : FI := ⟨⟨Tryd.t54.desc, 1, 8, .nilfunc⟩, []⟩
theorem tok54 : FOk Tryd.prog 54 ti54 := ⟨TOk.mk' Tryd.underlying54 (f := Tryd.t54) (by kernel_rfl) rfl rfl rfl rfl rfl rfl, fun h => absurd rfl h⟩
noncomputable def ti55 : FI := ⟨⟨Tryd.t55.desc, 1, 8, .nilfunc⟩, []⟩
theorem tok55 : FOk Tryd.prog 55 ti55 := ⟨TOk.mk' Tryd.underlying55 (f := Tryd.t55) (by kernel_rfl) rfl rfl rfl rfl rfl rfl, fun h => absurd rfl h⟩
noncomputable def ti56 : FI := ⟨⟨Tryd.t56.desc, 1, 8, .nilfunc⟩, []⟩
theorem tok56 : FOk Tryd.prog 56 ti56 := ⟨TOk.mk' Tryd.underlying56 (f := Tryd.t56) (by kernel_rfl) rfl rfl rfl rfl rfl rfl, fun h => absurd rfl h⟩
noncomputable def ti57 : FI := ⟨⟨Tryd.t57.desc, 1, 8, .nilfunc⟩, []⟩
theorem tok57 : FOk Tryd.prog 57 ti57 := ⟨TOk.mk' Tryd.underlying57 (f := Tryd.t57) (by kernel_rfl) rfl rfl rfl rfl rfl rfl, fun h => absurd rfl h⟩
noncomputable def ti58 : FI := ⟨⟨Tryd.t58.desc, 1, 8, .nilfunc⟩, []⟩
theorem tok58 : FOk Tryd.prog 58 ti58 := ⟨TOk.mk' Tryd.underlying58 (f := Tryd.t58) (by kernel_rfl) rfl rfl rfl rfl rfl rfl, fun h => absurd rfl h⟩
noncomputable def ti59 : FI := ⟨⟨Tryd.t59.desc, 1, 8, .nilfunc⟩, []⟩
theorem tok59 : FOk Tryd.prog 59 ti59 := ⟨TOk.mk' Tryd.underlying59 (f := Tryd.t59) (by kernel_rfl) rfl rfl rfl rfl rfl rfl, fun h => absurd rfl h⟩
noncomputable def ti60 : FI := ⟨⟨Tryd.t60.desc, 1, 8, .nilfunc⟩, []⟩
theorem tok60 : FOk Tryd.prog 60 ti60 := ⟨TOk.mk' Tryd.underlying60 (f := Tryd.t60) (by kernel_rfl) rfl rfl rfl rfl rfl rfl, fun h => absurd rfl h⟩
noncomputable def ti62 : FI := ⟨⟨Tryd.t62.desc, 1, 8, .nilfunc⟩, []⟩
theorem tok62 : FOk Tryd.prog 62 ti62 := ⟨TOk.mk' Tryd.underlying62 (f := Tryd.t62) (by kernel_rfl) rfl rfl rfl rfl rfl rfl, fun h => absurd rfl h⟩
noncomputable def ti63 : FI := ⟨⟨Tryd.t63.desc, 1, 8, .nilfunc⟩, []⟩
theorem tok63 : FOk Tryd.prog 63 ti63 := ⟨TOk.mk' Tryd.underlying63 (f := Tryd.t63) (by kernel_rfl) rfl rfl rfl rfl rfl rfl, fun h => absurd rfl h⟩
noncomputable def ti64 : FI := ⟨⟨Tryd.t64.desc, 1, 8, .nilfunc⟩, []⟩
theorem tok64 : FOk Tryd.prog 64 ti64 := ⟨TOk.mk' Tryd.underlying64 (f := Tryd.t64) (by kernel_rfl) rfl rfl rfl rfl rfl rfl, fun h => absurd rfl h⟩
noncomputable def ti66 : FI := ⟨⟨Tryd.t66.desc, 1, 8, .nilfunc⟩, []⟩
theorem tok66 : FOk Tryd.prog 66 ti66 := ⟨TOk.mk' Tryd.underlying66 (f := Tryd.t66) (by kernel_rfl) rfl rfl rfl rfl rfl rfl, fun h => absurd rfl h⟩
noncomputable def ti67 : FI := ⟨⟨Tryd.t67.desc, 1, 8, .nilfunc⟩, []⟩
theorem tok67 : FOk Tryd.prog 67 ti67 := ⟨TOk.mk' Tryd.underlying67 (f := Tryd.t67) (by kernel_rfl) rfl rfl rfl rfl rfl rfl, fun h => absurd rfl h⟩
noncomputable def ti68 : FI := ⟨⟨Tryd.t68.desc, 1, 8, .nilfunc⟩, []⟩
theorem tok68 : FOk Tryd.prog 68 ti68 := ⟨TOk.mk' Tryd.underlying68 (f := Tryd.t68) (by kernel_rfl) rfl rfl rfl rfl rfl rfl, fun h => absurd rfl h⟩
noncomputable def ti69 : FI := ⟨⟨Tryd.t69.desc, 1, 8, .nilfunc⟩, []⟩
theorem tok69 : FOk Tryd.prog 69 ti69 := ⟨TOk.mk' Tryd.underlying69 (f := Tryd.t69) (by kernel_rfl) rfl rfl rfl rfl rfl rfl, fun h => absurd rfl h⟩
noncomputable def ti70 : FI := ⟨⟨Tryd.t70.desc, 1, 8, .nilfunc⟩, []⟩
theorem tok70 : FOk Tryd.prog 70 ti70 := ⟨TOk.mk' Tryd.underlying70 (f := Tryd.t70) (by kernel_rfl) rfl rfl rfl rfl rfl rfl, fun h => absurd rfl h⟩
noncomputable def ti71 : FI := ⟨⟨Tryd.t71.desc, 1, 8, .nilfunc⟩, []⟩
theorem tok71 : FOk Tryd.prog 71 ti71 := ⟨TOk.mk' Tryd.underlying71 (f := Tryd.t71) (by kernel_rfl) rfl rfl rfl rfl rfl rfl, fun h => absurd rfl h⟩
noncomputable def ti72 : FI := ⟨⟨Tryd.t72.desc, 1, 8, .nilfunc⟩, []⟩
theorem tok72 : FOk Tryd.prog 72 ti72 := ⟨TOk.mk' Tryd.underlying72 (f := Tryd.t72) (by kernel_rfl) rfl rfl rfl rfl rfl rfl, fun h => absurd rfl h⟩
noncomputable def ti73 : FI := ⟨⟨Tryd.t73.desc, 1, 8, .nilfunc⟩, []⟩
theorem tok73 : FOk Tryd.prog 73 ti73 := ⟨TOk.mk' Tryd.underlying73 (f := Tryd.t73) (by kernel_rfl) rfl rfl rfl rfl rfl rfl, fun h => absurd rfl h⟩
noncomputable def ti75 : FI := ⟨⟨Tryd.t75.desc, 1, 8, .nilfunc⟩, []⟩
theorem tok75 : FOk Tryd.prog 75 ti75 := ⟨TOk.mk' Tryd.underlying75 (f := Tryd.t75) (by kernel_rfl) rfl rfl rfl rfl rfl rfl, fun h => absurd rfl h⟩
noncomputable def ti76 : FI := ⟨⟨Tryd.t76.desc, 1, 8, .nilfunc⟩, []⟩
theorem tok76 : FOk Tryd.prog 76 ti76 := ⟨TOk.mk' Tryd.underlying76 (f := Tryd.t76) (by kernel_rfl) rfl rfl rfl rfl rfl rfl, fun h => absurd rfl h⟩
noncomputable def ti77 : FI := ⟨⟨Tryd.t77.desc, 1, 24, .nilsl⟩, []⟩
theorem tok77 : FOk Tryd.prog 77 ti77 := ⟨TOk.mk' Tryd.underlying77 (f := Tryd.t77) (by kernel_rfl) rfl rfl rfl rfl rfl rfl, fun h => absurd rfl h⟩
noncomputable def ti78 : FI := ⟨⟨Tryd.t78.desc, 1, 8, .nilfunc⟩, []⟩
theorem tok78 : FOk Tryd.prog 78 ti78 := ⟨TOk.mk' Tryd.underlying78 (f := Tryd.t78) (by kernel_rfl) rfl rfl rfl rfl rfl rfl, fun h => absurd rfl h⟩
noncomputable def ti79 : FI := ⟨⟨Tryd.t79.desc, 1, 8, .nilfunc⟩, []⟩
theorem tok79 : FOk Tryd.prog 79 ti79 := ⟨TOk.mk' Tryd.underlying79 (f := Tryd.t79) (by kernel_rfl) rfl rfl rfl rfl rfl rfl, fun h => absurd rfl h⟩
noncomputable def ti80 : FI := ⟨⟨Tryd.t80.desc, 1, 8, .nilfunc⟩, []⟩
theorem tok80 : FOk Tryd.prog 80 ti80 := ⟨TOk.mk' Tryd.underlying80 (f := Tryd.t80) (by kernel_rfl) rfl rfl rfl rfl rfl rfl, fun h => absurd rfl h⟩
noncomputable def ti81 : FI := ⟨⟨Tryd.t81.desc, 1, 8, .nilfunc⟩, []⟩
theorem tok81 : FOk Tryd.prog 81 ti81 := ⟨TOk.mk' Tryd.underlying81 (f := Tryd.t81) (by kernel_rfl) rfl rfl rfl rfl rfl rfl, fun h => absurd rfl h⟩
noncomputable def ti82 : FI := ⟨⟨Tryd.t82.desc, 1, 8, .nilfunc⟩, []⟩
theorem tok82 : FOk Tryd.prog 82 ti82 := ⟨TOk.mk' Tryd.underlying82 (f := Tryd.t82) (by kernel_rfl) rfl rfl rfl rfl rfl rfl, fun h => absurd rfl h⟩
noncomputable def ti83 : FI := ⟨⟨Tryd.t83.desc, 1, 8, .nilfunc⟩, []⟩
theorem tok83 : FOk Tryd.prog 83 ti83 := ⟨TOk.mk' Tryd.underlying83 (f := Tryd.t83) (by kernel_rfl) rfl rfl rfl rfl rfl rfl, fun h => absurd rfl h⟩
noncomputable def ti84 : FI := ⟨⟨Tryd.t84.desc, 1, 8, .nilfunc⟩, []⟩
theorem tok84 : FOk Tryd.prog 84 ti84 := ⟨TOk.mk' Tryd.underlying84 (f := Tryd.t84) (by kernel_rfl) rfl rfl rfl rfl rfl rfl, fun h => absurd rfl h⟩
noncomputable def ti85 : FI := ⟨⟨Tryd.t85.desc, 1, 8, .nilfunc⟩, []⟩
theorem tok85 : FOk Tryd.prog 85 ti85 := ⟨TOk.mk' Tryd.underlying85 (f := Tryd.t85) (by kernel_rfl) rfl rfl rfl rfl rfl rfl, fun h => absurd rfl h⟩
noncomputable def ti86 : FI := ⟨⟨Tryd.t86.desc, 1, 8, .nilfunc⟩, []⟩
theorem tok86 : FOk Tryd.prog 86 ti86 := ⟨TOk.mk' Tryd.underlying86 (f := Tryd.t86) (by kernel_rfl) rfl rfl rfl rfl rfl rfl, fun h => absurd rfl h⟩
noncomputable def ti87 : FI := ⟨⟨Tryd.t87.desc, 1, 8, .nilfunc⟩, []⟩
theorem tok87 : FOk Tryd.prog 87 ti87 := ⟨TOk.mk' Tryd.underlying87 (f := Tryd.t87) (by kernel_rfl) rfl rfl rfl rfl rfl rfl, fun h => absurd rfl h⟩
noncomputable def ti88 : FI := ⟨⟨Tryd.t88.desc, 1, 8, .int .u64 0⟩, []⟩
theorem tok88 : FOk Tryd.prog 88 ti88 := ⟨TOk.mk' Tryd.underlying88 (f := Tryd.t88) (by kernel_rfl) rfl rfl rfl rfl rfl rfl, fun h => absurd rfl h⟩
noncomputable def ti89 : FI := ⟨⟨Tryd.t89.desc, 1, 8, .nilfunc⟩, []⟩
theorem tok89 : FOk Tryd.prog 89 ti89 := ⟨TOk.mk' Tryd.underlying89 (f := Tryd.t89) (by kernel_rfl) rfl rfl rfl rfl rfl rfl, fun h => absurd rfl h⟩
noncomputable def ti90 : FI := ⟨⟨Tryd.t90.desc, 1, 8, .nilfunc⟩, []⟩
theorem tok90 : FOk Tryd.prog 90 ti90 := ⟨TOk.mk' Tryd.underlying90 (f := Tryd.t90) (by kernel_rfl) rfl rfl rfl rfl rfl rfl, fun h => absurd rfl h⟩
noncomputable def ti91 : FI := ⟨⟨Tryd.t91.desc, 1, 8, .nilfunc⟩, []⟩
theorem tok91 : FOk Tryd.prog 91 ti91 := ⟨TOk.mk' Tryd.underlying91 (f := Tryd.t91) (by kernel_rfl) rfl rfl rfl rfl rfl rfl, fun h => absurd rfl h⟩
noncomputable def ti92 : FI := ⟨⟨Tryd.t92.desc, 1, 8, .nilfunc⟩, []⟩
theorem tok92 : FOk Tryd.prog 92 ti92 := ⟨TOk.mk' Tryd.underlying92 (f := Tryd.t92) (by kernel_rfl) rfl rfl rfl rfl rfl rfl, fun h => absurd rfl h⟩
noncomputable def ti93 : FI := ⟨⟨Tryd.t93.desc, 1, 8, .nilfunc⟩, []⟩
theorem tok93 : FOk Tryd.prog 93 ti93 := ⟨TOk.mk' Tryd.underlying93 (f := Tryd.t93) (by kernel_rfl) rfl rfl rfl rfl rfl rfl, fun h => absurd rfl h⟩
noncomputable def ti97 : FI := ⟨⟨Tryd.t97.desc, 1, 8, .nilfunc⟩, []⟩
theorem tok97 : FOk Tryd.prog 97 ti97 := ⟨TOk.mk' Tryd.underlying97 (f := Tryd.t97) (by kernel_rfl) rfl rfl rfl rfl rfl rfl, fun h => absurd rfl h⟩
noncomputable def ti98 : FI := ⟨⟨Tryd.t98.desc, 1, 8, .nilfunc⟩, []⟩
theorem tok98 : FOk Tryd.prog 98 ti98 := ⟨TOk.mk' Tryd.underlying98 (f := Tryd.t98) (by kernel_rfl) rfl rfl rfl rfl rfl rfl, fun h => absurd rfl h⟩
noncomputable def ti99 : FI := ⟨⟨Tryd.t99.desc, 1, 8, .nilp⟩, []⟩
theorem tok99 : FOk Tryd.prog 99 ti99 := ⟨TOk.mk' Tryd.underlying99 (f := Tryd.t99) (by kernel_rfl) rfl rfl rfl rfl rfl rfl, fun h => absurd rfl h⟩
noncomputable def ti100 : FI := ⟨⟨Tryd.t100.desc, 1, 8, .nilfunc⟩, []⟩
theorem tok100 : FOk Tryd.prog 100 ti100 := ⟨TOk.mk' Tryd.underlying100 (f := Tryd.t100) (by kernel_rfl) rfl rfl rfl rfl rfl rfl, fun h => absurd rfl h⟩
noncomputable def ti101 : FI := ⟨⟨Tryd.t101.desc, 1, 8, .nilfunc⟩, []⟩
theorem tok101 : FOk Tryd.prog 101 ti101 := ⟨TOk.mk' Tryd.underlying101 (f := Tryd.t101) (by kernel_rfl) rfl rfl rfl rfl rfl rfl, fun h => absurd rfl h⟩
noncomputable def ti102 : FI := ⟨⟨Tryd.t102.desc, 1, 4, .int .u32 0⟩, []⟩
theorem tok102 : FOk Tryd.prog 102 ti102 := ⟨TOk.mk' Tryd.underlying102 (f := Tryd.t102) (by kernel_rfl) rfl rfl rfl rfl rfl rfl, fun h => absurd rfl h⟩
noncomputable def ti104 : FI := ⟨⟨Tryd.t104.desc, 1, 8, .nilfunc⟩, []⟩
theorem tok104 : FOk Tryd.prog 104 ti104 := ⟨TOk.mk' Tryd.underlying104 (f := Tryd.t104) (by kernel_rfl) rfl rfl rfl rfl rfl rfl, fun h => absurd rfl h⟩
noncomputable def ti105 : FI := ⟨⟨Tryd.t105.desc, 1, 8, .nilfunc⟩, []⟩
theorem tok105 : FOk Tryd.prog 105 ti105 := ⟨TOk.mk' Tryd.underlying105 (f := Tryd.t105) (by kernel_rfl) rfl rfl rfl rfl rfl rfl, fun h => absurd rfl h⟩
noncomputable def ti107 : FI := ⟨⟨Tryd.t107.desc, 1, 8, .nilfunc⟩, []⟩
theorem tok107 : FOk Tryd.prog 107 ti107 := ⟨TOk.mk' Tryd.underlying107 (f := Tryd.t107) (by kernel_rfl) rfl rfl rfl rfl rfl rfl, fun h => absurd rfl h⟩
noncomputable def ti108 : FI := ⟨⟨Tryd.t108.desc, 1, 8, .nilfunc⟩, []⟩
theorem tok108 : FOk Tryd.prog 108 ti108 := ⟨TOk.mk' Tryd.underlying108 (f := Tryd.t108) (by kernel_rfl) rfl rfl rfl rfl rfl rfl, fun h => absurd rfl h⟩
noncomputable def ti109 : FI := ⟨⟨Tryd.t109.desc, 1, 8, .nilfunc⟩, []⟩
theorem tok109 : FOk Tryd.prog 109 ti109 := ⟨TOk.mk' Tryd.underlying109 (f := Tryd.t109) (by kernel_rfl) rfl rfl rfl rfl rfl rfl, fun h => absurd rfl h⟩
noncomputable def ti110 : FI := ⟨⟨Tryd.t110.desc, 1, 8, .nilfunc⟩, []⟩
theorem tok110 : FOk Tryd.prog 110 ti110 := ⟨TOk.mk' Tryd.underlying110 (f := Tryd.t110) (by kernel_rfl) rfl rfl rfl rfl rfl rfl, fun h => absurd rfl h⟩
noncomputable def ti111 : FI := ⟨⟨Tryd.t111.desc, 1, 8, .nilfunc⟩, []⟩
theorem tok111 : FOk Tryd.prog 111 ti111 := ⟨TOk.mk' Tryd.underlying111 (f := Tryd.t111) (by kernel_rfl) rfl rfl rfl rfl rfl rfl, fun h => absurd rfl h⟩
noncomputable def ti112 : FI := ⟨⟨Tryd.t112.desc, 1, 8, .nilfunc⟩, []⟩
theorem tok112 : FOk Tryd.prog 112 ti112 := ⟨TOk.mk' Tryd.underlying112 (f := Tryd.t112) (by kernel_rfl) rfl rfl rfl rfl rfl rfl, fun h => absurd rfl h⟩
noncomputable def ti114 : FI := ⟨⟨Tryd.t114.desc, 2, 2, .agg [.int .u8 0, .int .u8 0]⟩, [(0, 1, false), (1, 1, false)]⟩
theorem tok114 : FOk Tryd.prog 114 ti114 := ⟨TOk.mk' Tryd.underlying114 (f := Tryd.t114) (by kernel_rfl) rfl rfl rfl rfl rfl rfl, fun _ => ⟨_, rfl, ⟨rfl, ⟨Tryd.t5, (by kernel_rfl), rfl⟩, ⟨_, Tryd.underlying5, rfl⟩, ⟨rfl, ⟨Tryd.t5, (by kernel_rfl), rfl⟩, ⟨_, Tryd.underlying5, rfl⟩, trivial⟩⟩⟩⟩
noncomputable def ti115 : FI := ⟨⟨Tryd.t114.desc, 2, 2, .agg [.int .u8 0, .int .u8 0]⟩, [(0, 1, false), (1, 1, false)]⟩
theorem tok115 : FOk Tryd.prog 115 ti115 := ⟨TOk.mk' Tryd.underlying115 (f := Tryd.t115) (by kernel_rfl) rfl rfl rfl rfl rfl rfl, fun _ => ⟨_, rfl, ⟨rfl, ⟨Tryd.t5, (by kernel_rfl), rfl⟩, ⟨_, Tryd.underlying5, rfl⟩, ⟨rfl, ⟨Tryd.t5, (by kernel_rfl), rfl⟩, ⟨_, Tryd.underlying5, rfl⟩, trivial⟩⟩⟩⟩
noncomputable def ti116 : FI := ⟨⟨Tryd.t116.desc, 32, 32, .agg [.int .u8 0, .int .u8 0, .int .u8 0, .int .u8 0, .int .u8 0, .int .u8 0, .int .u8 0, .int .u8 0, .int .u8 0, .int .u8 0, .int .u8 0, .int .u8 0, .int .u8 0, .int .u8 0, .int .u8 0, .int .u8 0, .int .u8 0, .int .u8 0, .int .u8 0, .int .u8 0, .int .u8 0, .int .u8 0, .int .u8 0, .int .u8 0, .int .u8 0, .int .u8 0, .int .u8 0, .int .u8 0, .int .u8 0, .int .u8 0, .int .u8 0, .int .u8 0]⟩, []⟩
theorem tok116 : FOk Tryd.prog 116 ti116 := ⟨TOk.mk' Tryd.underlying116 (f := Tryd.t116) (by kernel_rfl) rfl rfl rfl rfl rfl rfl, fun h => absurd rfl h⟩
noncomputable def ti117 : FI := ⟨⟨Tryd.t117.desc, 1, 8, .nilfunc⟩, []⟩
theorem tok117 : FOk Tryd.prog 117 ti117 := ⟨TOk.mk' Tryd.underlying117 (f := Tryd.t117) (by kernel_rfl) rfl rfl rfl rfl rfl rfl, fun h => absurd rfl h⟩
noncomputable def ti118 : FI := ⟨⟨Tryd.t118.desc, 1, 8, .nilfunc⟩, []⟩
theorem tok118 : FOk Tryd.prog 118 ti118 := ⟨TOk.mk' Tryd.underlying118 (f := Tryd.t118) (by kernel_rfl) rfl rfl rfl rfl rfl rfl, fun h => absurd rfl h⟩
noncomputable def ti119 : FI := ⟨⟨Tryd.t119.desc, 4, 40, .agg [.nilp, .nilp, .nilp, .str []]⟩, [(0, 1, false), (1, 1, false), (2, 1, false), (3, 1, false)]⟩
theorem tok119 : FOk Tryd.prog 119 ti119 := ⟨TOk.mk' Tryd.underlying119 (f := Tryd.t119) (by kernel_rfl) rfl rfl rfl rfl rfl rfl, fun _ => ⟨_, rfl, ⟨rfl, ⟨Tryd.t17, (by kernel_rfl), rfl⟩, ⟨_, Tryd.underlying17, rfl⟩, ⟨rfl, ⟨Tryd.t17, (by kernel_rfl), rfl⟩, ⟨_, Tryd.underlying17, rfl⟩, ⟨rfl, ⟨Tryd.t17, (by kernel_rfl), rfl⟩, ⟨_, Tryd.underlying17, rfl⟩, ⟨rfl, ⟨Tryd.t9, (by kernel_rfl), rfl⟩, ⟨_, Tryd.underlying9, rfl⟩, trivial⟩⟩⟩⟩⟩⟩
noncomputable def ti120 : FI := ⟨⟨Tryd.t119.desc, 4, 40, .agg [.nilp, .nilp, .nilp, .str []]⟩, [(0, 1, false), (1, 1, false), (2, 1, false), (3, 1, false)]⟩
theorem tok120 : FOk Tryd.prog 120 ti120 := ⟨TOk.mk' Tryd.underlying120 (f := Tryd.t120) (by kernel_rfl) rfl rfl rfl rfl rfl rfl, fun _ => ⟨_, rfl, ⟨rfl, ⟨Tryd.t17, (by kernel_rfl), rfl⟩, ⟨_, Tryd.underlying17, rfl⟩, ⟨rfl, ⟨Tryd.t17, (by kernel_rfl), rfl⟩, ⟨_, Tryd.underlying17, rfl⟩, ⟨rfl, ⟨Tryd.t17, (by kernel_rfl), rfl⟩, ⟨_, Tryd.underlying17, rfl⟩, ⟨rfl, ⟨Tryd.t9, (by kernel_rfl), rfl⟩, ⟨_, Tryd.underlying9, rfl⟩, trivial⟩⟩⟩⟩⟩⟩
noncomputable def ti121 : FI := ⟨⟨Tryd.t121.desc, 0, 0, .agg []⟩, []⟩
theorem tok121 : FOk Tryd.prog 121 ti121 := ⟨TOk.mk' Tryd.underlying121 (f := Tryd.t121) (by kernel_rfl) rfl rfl rfl rfl rfl rfl, fun h => absurd rfl h⟩
noncomputable def ti122 : FI := ⟨⟨Tryd.t122.desc, 0, 0, .agg []⟩, [(0, 0, true)]⟩
theorem tok122 : FOk Tryd.prog 122 ti122 := ⟨TOk.mk' Tryd.underlying122 (f := Tryd.t122) (by kernel_rfl) rfl rfl rfl rfl rfl rfl, fun _ => ⟨_, rfl, ⟨rfl, ⟨Tryd.t121, (by kernel_rfl), rfl⟩, ⟨_, Tryd.underlying121, rfl⟩, trivial⟩⟩⟩
noncomputable def ti123 : FI := ⟨⟨Tryd.t122.desc, 0, 0, .agg []⟩, [(0, 0, true)]⟩
theorem tok123 : FOk Tryd.prog 123 ti123 := ⟨TOk.mk' Tryd.underlying123 (f := Tryd.t123) (by kernel_rfl) rfl rfl rfl rfl rfl rfl, fun _ => ⟨_, rfl, ⟨rfl, ⟨Tryd.t121, (by kernel_rfl), rfl⟩, ⟨_, Tryd.underlying121, rfl⟩, trivial⟩⟩⟩
noncomputable def ti124 : FI := ⟨⟨Tryd.t124.desc, 1, 8, .nilfunc⟩, []⟩
theorem tok124 : FOk Tryd.prog 124 ti124 := ⟨TOk.mk' Tryd.underlying124 (f := Tryd.t124) (by kernel_rfl) rfl rfl rfl rfl rfl rfl, fun h => absurd rfl h⟩
noncomputable def ti125 : FI := ⟨⟨Tryd.t5.desc, 1, 1, .int .u8 0⟩, []⟩
theorem tok125 : FOk Tryd.prog 125 ti125 := ⟨TOk.mk' Tryd.underlying125 (f := Tryd.t125) (by kernel_rfl) rfl rfl rfl rfl rfl rfl, fun h => absurd rfl h⟩
noncomputable def ti126 : FI := ⟨⟨Tryd.t5.desc, 1, 1, .int .u8 0⟩, []⟩
theorem tok126 : FOk Tryd.prog 126 ti126 := ⟨TOk.mk' Tryd.underlying126 (f := Tryd.t126) (by kernel_rfl) rfl rfl rfl rfl rfl rfl, fun h => absurd rfl h⟩
noncomputable def ti127 : FI := ⟨⟨Tryd.t127.desc, 1, 8, .nilfunc⟩, []⟩
theorem tok127 : FOk Tryd.prog 127 ti127 := ⟨TOk.mk' Tryd.underlying127 (f := Tryd.t127) (by kernel_rfl) rfl rfl rfl rfl rfl rfl, fun h => absurd rfl h⟩
noncomputable def ti128 : FI := ⟨⟨Tryd.t128.desc, 1, 8, .nilp⟩, []⟩
theorem tok128 : FOk Tryd.prog 128 ti128 := ⟨TOk.mk' Tryd.underlying128 (f := Tryd.t128) (by kernel_rfl) rfl rfl rfl rfl rfl rfl, fun h => absurd rfl h⟩
noncomputable def ti129 : FI := ⟨⟨Tryd.t21.desc, 1, 4, .int .i32 0⟩, []⟩
theorem tok129 : FOk Tryd.prog 129 ti129 := ⟨TOk.mk' Tryd.underlying129 (f := Tryd.t129) (by kernel_rfl) rfl rfl rfl rfl rfl rfl, fun h => absurd rfl h⟩
noncomputable def ti130 : FI := ⟨⟨Tryd.t21.desc, 1, 4, .int .i32 0⟩, []⟩
theorem tok130 : FOk Tryd.prog 130 ti130 := ⟨TOk.mk' Tryd.underlying130 (f := Tryd.t130) (by kernel_rfl) rfl rfl rfl rfl rfl rfl, fun h => absurd rfl h⟩
noncomputable def ti131 : FI := ⟨⟨Tryd.t131.desc, 11, 48, .agg [.int .u64 0, .int .u64 0, .int .u32 0, .int .u8 0, .int .u8 0, .int .u8 0, .int .u8 0, .nilfunc, .nilp, .int .i32 0, .int .i32 0]⟩, [(0, 1, false), (1, 1, false), (2, 1, false), (3, 1, false), (4, 1, false), (5, 1, false), (6, 1, false), (7, 1, false), (8, 1, false), (9, 1, false), (10, 1, false)]⟩
theorem tok131 : FOk Tryd.prog 131 ti131 := ⟨TOk.mk' Tryd.underlying131 (f := Tryd.t131) (by kernel_rfl) rfl rfl rfl rfl rfl rfl, fun _ => ⟨_, rfl, ⟨rfl, ⟨Tryd.t12, (by kernel_rfl), rfl⟩, ⟨_, Tryd.underlying12, rfl⟩, ⟨rfl, ⟨Tryd.t12, (by kernel_rfl), rfl⟩, ⟨_, Tryd.underlying12, rfl⟩, ⟨rfl, ⟨Tryd.t102, (by kernel_rfl), rfl⟩, ⟨_, Tryd.underlying102, rfl⟩, ⟨rfl, ⟨Tryd.t125, (by kernel_rfl), rfl⟩, ⟨_, Tryd.underlying125, rfl⟩, ⟨rfl, ⟨Tryd.t5, (by kernel_rfl), rfl⟩, ⟨_, Tryd.underlying5, rfl⟩, ⟨rfl, ⟨Tryd.t5, (by kernel_rfl), rfl⟩, ⟨_, Tryd.underlying5, rfl⟩, ⟨rfl, ⟨Tryd.t126, (by kernel_rfl), rfl⟩, ⟨_, Tryd.underlying126, rfl⟩, ⟨rfl, ⟨Tryd.t127, (by kernel_rfl), rfl⟩, ⟨_, Tryd.underlying127, rfl⟩, ⟨rfl, ⟨Tryd.t128, (by kernel_rfl), rfl⟩, ⟨_, Tryd.underlying128, rfl⟩, ⟨rfl, ⟨Tryd.t129, (by kernel_rfl), rfl⟩, ⟨_, Tryd.underlying129, rfl⟩, ⟨rfl, ⟨Tryd.t130, (by kernel_rfl), rfl⟩, ⟨_, Tryd.underlying130, rfl⟩, trivial⟩⟩⟩⟩⟩⟩⟩⟩⟩⟩⟩⟩⟩
noncomputable def ti132 : FI := ⟨⟨Tryd.t131.desc, 11, 48, .agg [.int .u64 0, .int .u64 0, .int .u32 0, .int .u8 0, .int .u8 0, .int .u8 0, .int .u8 0, .nilfunc, .nilp, .int .i32 0, .int .i32 0]⟩, [(0, 1, false), (1, 1, false), (2, 1, false), (3, 1, false), (4, 1, false), (5, 1, false), (6, 1, false), (7, 1, false), (8, 1, false), (9, 1, false), (10, 1, false)]⟩
theorem tok132 : FOk Tryd.prog 132 ti132 := ⟨TOk.mk' Tryd.underlying132 (f := Tryd.t132) (by kernel_rfl) rfl rfl rfl rfl rfl rfl, fun _ => ⟨_, rfl, ⟨rfl, ⟨Tryd.t12, (by kernel_rfl), rfl⟩, ⟨_, Tryd.underlying12, rfl⟩, ⟨rfl, ⟨Tryd.t12, (by kernel_rfl), rfl⟩, ⟨_, Tryd.underlying12, rfl⟩, ⟨rfl, ⟨Tryd.t102, (by kernel_rfl), rfl⟩, ⟨_, Tryd.underlying102, rfl⟩, ⟨rfl, ⟨Tryd.t125, (by kernel_rfl), rfl⟩, ⟨_, Tryd.underlying125, rfl⟩, ⟨rfl, ⟨Tryd.t5, (by kernel_rfl), rfl⟩, ⟨_, Tryd.underlying5, rfl⟩, ⟨rfl, ⟨Tryd.t5, (by kernel_rfl), rfl⟩, ⟨_, Tryd.underlying5, rfl⟩, ⟨rfl, ⟨Tryd.t126, (by kernel_rfl), rfl⟩, ⟨_, Tryd.underlying126, rfl⟩, ⟨rfl, ⟨Tryd.t127, (by kernel_rfl), rfl⟩, ⟨_, Tryd.underlying127, rfl⟩, ⟨rfl, ⟨Tryd.t128, (by kernel_rfl), rfl⟩, ⟨_, Tryd.underlying128, rfl⟩, ⟨rfl, ⟨Tryd.t129, (by kernel_rfl), rfl⟩, ⟨_, Tryd.underlying129, rfl⟩, ⟨rfl, ⟨Tryd.t130, (by kernel_rfl), rfl⟩, ⟨_, Tryd.underlying130, rfl⟩, trivial⟩⟩⟩⟩⟩⟩⟩⟩⟩⟩⟩⟩⟩
noncomputable def tbl : Tr := (.node (.node (.node (.node (.node (.node (.node .nil 1 ti1 .nil) 2 ti2 (.node .nil 3 ti3 .nil)) 4 ti4 (.node (.node .nil 5 ti5 .nil) 6 ti6 (.node .nil 7 ti7 .nil))) 8 ti8 (.node (.node (.node .nil 9 ti9 .nil) 10 ti10 (.node .nil 11 ti11 .nil)) 12 ti12 (.node (.node .nil 13 ti13 .nil) 14 ti14 (.node .nil 15 ti15 .nil)))) 16 ti16 (.node (.node (.node (.node .nil 17 ti17 .nil) 18 ti18 (.node .nil 19 ti19 .nil)) 20 ti20 (.node (.node .nil 21 ti21 .nil) 22 ti22 (.node .nil 23 ti23 .nil))) 24 ti24 (.node (.node (.node .nil 25 ti25 .nil) 27 ti27 (.node .nil 28 ti28 .nil)) 29 ti29 (.node (.node .nil 30 ti30 .nil) 31 ti31 .nil)))) 32 ti32 (.node (.node (.node (.node (.node .nil 33 ti33 .nil) 34 ti34 (.node .nil 35 ti35 .nil)) 36 ti36 (.node (.node .nil 37 ti37 .nil) 38 ti38 (.node .nil 39 ti39 .nil))) 40 ti40 (.node (.node (.node .nil 41 ti41 .nil) 42 ti42 (.node .nil 43 ti43 .nil)) 44 ti44 (.node (.node .nil 45 ti45 .nil) 47 ti47 .nil))) 48 ti48 (.node (.node (.node (.node .nil 49 ti49 .nil) 50 ti50 (.node .nil 51 ti51 .nil)) 53 ti53 (.node (.node .nil 54 ti54 .nil) 55 ti55 (.node .nil 56 ti56 .nil))) 57 ti57 (.node (.node (.node .nil 58 ti58 .nil) 59 ti59 (.node .nil 60 ti60 .nil)) 62 ti62 (.node (.node .nil 63 ti63 .nil) 64 ti64 .nil))))) 66 ti66 (.node (.node (.node (.node (.node (.node .nil 67 ti67 .nil) 68 ti68 (.node .nil 69 ti69 .nil)) 70 ti70 (.node (.node .nil 71 ti71 .nil) 72 ti72 (.node .nil 73 ti73 .nil))) 75 ti75 (.node (.node (.node .nil 76 ti76 .nil) 77 ti77 (.node .nil 78 ti78 .nil)) 79 ti79 (.node (.node .nil 80 ti80 .nil) 81 ti81 .nil))) 82 ti82 (.node (.node (.node (.node .nil 83 ti83 .nil) 84 ti84 (.node .nil 85 ti85 .nil)) 86 ti86 (.node (.node .nil 87 ti87 .nil) 88 ti88 (.node .nil 89 ti89 .nil))) 90 ti90 (.node (.node (.node .nil 91 ti91 .nil) 92 ti92 (.node .nil 93 ti93 .nil)) 97 ti97 (.node (.node .nil 98 ti98 .nil) 99 ti99 .nil)))) 100 ti100 (.node (.node (.node (.node (.node .nil 101 ti101 .nil) 102 ti102 (.node .nil 104 ti104 .nil)) 105 ti105 (.node (.node .nil 107 ti107 .nil) 108 ti108 (.node .nil 109 ti109 .nil))) 110 ti110 (.node (.node (.node .nil 111 ti111 .nil) 112 ti112 (.node .nil 114 ti114 .nil)) 115 ti115 (.node (.node .nil 116 ti116 .nil) 117 ti117 .nil))) 118 ti118 (.node (.node (.node (.node .nil 119 ti119 .nil) 120 ti120 (.node .nil 121 ti121 .nil)) 122 ti122 (.node (.node .nil 123 ti123 .nil) 124 ti124 (.node .nil 125 ti125 .nil))) 126 ti126 (.node (.node (.node .nil 127 ti127 .nil) 128 ti128 (.node .nil 129 ti129 .nil)) 130 ti130 (.node (.node .nil 131 ti131 .nil) 132 ti132 .nil))))))
theorem tblOk : tbl.Ok Tryd.prog := ⟨⟨⟨⟨⟨⟨⟨trivial, tok1, trivial⟩, tok2, ⟨trivial, tok3, trivial⟩⟩, tok4, ⟨⟨trivial, tok5, trivial⟩, tok6, ⟨trivial, tok7, trivial⟩⟩⟩, tok8, ⟨⟨⟨trivial, tok9, trivial⟩, tok10, ⟨trivial, tok11, trivial⟩⟩, tok12, ⟨⟨trivial, tok13, trivial⟩, tok14, ⟨trivial, tok15, trivial⟩⟩⟩⟩, tok16, ⟨⟨⟨⟨trivial, tok17, trivial⟩, tok18, ⟨trivial, tok19, trivial⟩⟩, tok20, ⟨⟨trivial, tok21, trivial⟩, tok22, ⟨trivial, tok23, trivial⟩⟩⟩, tok24, ⟨⟨⟨trivial, tok25, trivial⟩, tok27, ⟨trivial, tok28, trivial⟩⟩, tok29, ⟨⟨trivial, tok30, trivial⟩, tok31, trivial⟩⟩⟩⟩, tok32, ⟨⟨⟨⟨⟨trivial, tok33, trivial⟩, tok34, ⟨trivial, tok35, trivial⟩⟩, tok36, ⟨⟨trivial, tok37, trivial⟩, tok38, ⟨trivial, tok39, trivial⟩⟩⟩, tok40, ⟨⟨⟨trivial, tok41, trivial⟩, tok42, ⟨trivial, tok43, trivial⟩⟩, tok44, ⟨⟨trivial, tok45, trivial⟩, tok47, trivial⟩⟩⟩, tok48, ⟨⟨⟨⟨trivial, tok49, trivial⟩, tok50, ⟨trivial, tok51, trivial⟩⟩, tok53, ⟨⟨trivial, tok54, trivial⟩, tok55, ⟨trivial, tok56, trivial⟩⟩⟩, tok57, ⟨⟨⟨trivial, tok58, trivial⟩, tok59, ⟨trivial, tok60, trivial⟩⟩, tok62, ⟨⟨trivial, tok63, trivial⟩, tok64, trivial⟩⟩⟩⟩⟩, tok66, ⟨⟨⟨⟨⟨⟨trivial, tok67, trivial⟩, tok68, ⟨trivial, tok69, trivial⟩⟩, tok70, ⟨⟨trivial, tok71, trivial⟩, tok72, ⟨trivial, tok73, trivial⟩⟩⟩, tok75, ⟨⟨⟨trivial, tok76, trivial⟩, tok77, ⟨trivial, tok78, trivial⟩⟩, tok79, ⟨⟨trivial, tok80, trivial⟩, tok81, trivial⟩⟩⟩, tok82, ⟨⟨⟨⟨trivial, tok83, trivial⟩, tok84, ⟨trivial, tok85, trivial⟩⟩, tok86, ⟨⟨trivial, tok87, trivial⟩, tok88, ⟨trivial, tok89, trivial⟩⟩⟩, tok90, ⟨⟨⟨trivial, tok91, trivial⟩, tok92, ⟨trivial, tok93, trivial⟩⟩, tok97, ⟨⟨trivial, tok98, trivial⟩, tok99, trivial⟩⟩⟩⟩, tok100, ⟨⟨⟨⟨⟨trivial, tok101, trivial⟩, tok102, ⟨trivial, tok104, trivial⟩⟩, tok105, ⟨⟨trivial, tok107, trivial⟩, tok108, ⟨trivial, tok109, trivial⟩⟩⟩, tok110, ⟨⟨⟨trivial, tok111, trivial⟩, tok112, ⟨trivial, tok114, trivial⟩⟩, tok115, ⟨⟨trivial, tok116, trivial⟩, tok117, trivial⟩⟩⟩, tok118, ⟨⟨⟨⟨trivial, tok119, trivial⟩, tok120, ⟨trivial, tok121, trivial⟩⟩, tok122, ⟨⟨trivial, tok123, trivial⟩, tok124, ⟨trivial, tok125, trivial⟩⟩⟩, tok126, ⟨⟨⟨trivial, tok127, trivial⟩, tok128, ⟨trivial, tok129, trivial⟩⟩, tok130, ⟨⟨trivial, tok131, trivial⟩, tok132, trivial⟩⟩⟩⟩⟩⟩
noncomputable abbrev TT : FTab := tbl.find
theorem TTok : FTabOk Tryd.prog TT := Tr.ok_find tblOk
noncomputable abbrev TI' : Tab := fun t => (TT t).map FI.ti
theorem TIok : TabOk Tryd.prog TI' := FTab.tab TTok
theorem ct2 : CallsTo Tryd.prog 2 2 := Tryd.call2
theorem ct3 : CallsTo Tryd.prog 3 3 := Tryd.call3
theorem ct4 : CallsTo Tryd.prog 4 4 := Tryd.call4
theorem ct5 : CallsTo Tryd.prog 5 5 := Tryd.call5
theorem ct6 : CallsTo Tryd.prog 6 6 := Tryd.call6
theorem ct7 : CallsTo Tryd.prog 7 7 := Tryd.call7
theorem ct8 : CallsTo Tryd.prog 8 8 := Tryd.call8
theorem ct9 : CallsTo Tryd.prog 9 9 := Tryd.call9
theorem ct10 : CallsTo Tryd.prog 10 10 := Tryd.call10
theorem ct11 : CallsTo Tryd.prog 11 11 := Tryd.call11
theorem ct12 : CallsTo Tryd.prog 12 12 := Tryd.call12
theorem ct13 : CallsTo Tryd.prog 13 13 := Tryd.call13
theorem ct14 : CallsTo Tryd.prog 14 14 := Tryd.call14
theorem ct15 : CallsTo Tryd.prog 15 15 := Tryd.call15
theorem ct16 : CallsTo Tryd.prog 16 16 := Tryd.call16
theorem ct17 : CallsTo Tryd.prog 17 17 := Tryd.call17
theorem ct18 : CallsTo Tryd.prog 18 18 := Tryd.call18
theorem ct19 : CallsTo Tryd.prog 19 19 := Tryd.call19
theorem ct20 : CallsTo Tryd.prog 20 20 := Tryd.call20
theorem ct21 : CallsTo Tryd.prog 21 21 := Tryd.call21
theorem ct22 : CallsTo Tryd.prog 22 22 := Tryd.call22
theorem ct23 : CallsTo Tryd.prog 23 23 := Tryd.call23
theorem ct24 : CallsTo Tryd.prog 24 24 := Tryd.call24
theorem ct25 : CallsTo Tryd.prog 25 25 := Tryd.call25
theorem ct26 : CallsTo Tryd.prog 26 26 := Tryd.call26
theorem ct27 : CallsTo Tryd.prog 27 27 := Tryd.call27
theorem ct28 : CallsTo Tryd.prog 28 28 := Tryd.call28
theorem ct29 : CallsTo Tryd.prog 29 29 := Tryd.call29
theorem ct30 : CallsTo Tryd.prog 30 30 := Tryd.call30
theorem ct31 : CallsTo Tryd.prog 31 31 := Tryd.call31
theorem ct32 : CallsTo Tryd.prog 32 32 := Tryd.call32
theorem ct33 : CallsTo Tryd.prog 33 33 := Tryd.call33
theorem ct34 : CallsTo Tryd.prog 34 34 := Tryd.call34
theorem ct35 : CallsTo Tryd.prog 35 35 := Tryd.call35
theorem ct36 : CallsTo Tryd.prog 36 36 := Tryd.call36
theorem ct37 : CallsTo Tryd.prog 37 37 := Tryd.call37
theorem ct38 : CallsTo Tryd.prog 38 38 := Tryd.call38
theorem ct39 : CallsTo Tryd.prog 39 39 := Tryd.call39
theorem ct40 : CallsTo Tryd.prog 40 40 := Tryd.call40
theorem ct41 : CallsTo Tryd.prog 41 41 := Tryd.call41
theorem ct42 : CallsTo Tryd.prog 42 42 := Tryd.call42
theorem ct43 : CallsTo Tryd.prog 43 43 := Tryd.call43
theorem ct44 : CallsTo Tryd.prog 44 44 := Tryd.call44
theorem ct45 : CallsTo Tryd.prog 45 45 := Tryd.call45
theorem ct46 : CallsTo Tryd.prog 46 46 := Tryd.call46
theorem ct47 : CallsTo Tryd.prog 47 47 := Tryd.call47
theorem ct48 : CallsTo Tryd.prog 48 48 := Tryd.call48
theorem ct49 : CallsTo Tryd.prog 49 49 := Tryd.call49
theorem ct50 : CallsTo Tryd.prog 50 50 := Tryd.call50
theorem ct51 : CallsTo Tryd.prog 51 51 := Tryd.call51
theorem ct52 : CallsTo Tryd.prog 52 52 := Tryd.call52
theorem ct53 : CallsTo Tryd.prog 53 53 := Tryd.call53
theorem ct54 : CallsTo Tryd.prog 54 54 := Tryd.call54
theorem ct55 : CallsTo Tryd.prog 55 55 := Tryd.call55
theorem ct56 : CallsTo Tryd.prog 56 56 := Tryd.call56
theorem ct57 : CallsTo Tryd.prog 57 57 := Tryd.call57
theorem ct58 : CallsTo Tryd.prog 58 58 := Tryd.call58
theorem ct59 : CallsTo Tryd.prog 59 59 := Tryd.call59
theorem ct60 : CallsTo Tryd.prog 60 60 := Tryd.call60
theorem ct61 : CallsTo Tryd.prog 61 61 := Tryd.call61
theorem ct62 : CallsTo Tryd.prog 62 62 := Tryd.call62
theorem ct63 : CallsTo Tryd.prog 63 63 := Tryd.call63
theorem ct64 : CallsTo Tryd.prog 64 64 := Tryd.call64
theorem ct65 : CallsTo Tryd.prog 65 65 := Tryd.call65
theorem ct66 : CallsTo Tryd.prog 66 66 := Tryd.call66
theorem ct67 : CallsTo Tryd.prog 67 67 := Tryd.call67
theorem ct68 : CallsTo Tryd.prog 68 68 := Tryd.call68
theorem ct69 : CallsTo Tryd.prog 69 69 := Tryd.call69
theorem ct71 : CallsTo Tryd.prog 71 71 := Tryd.call71
theorem ct72 : CallsTo Tryd.prog 72 72 := Tryd.call72
theorem ct73 : CallsTo Tryd.prog 73 73 := Tryd.call73
theorem ct74 : CallsTo Tryd.prog 74 74 := Tryd.call74
theorem ct76 : CallsTo Tryd.prog 76 76 := Tryd.call76
theorem ct77 : CallsTo Tryd.prog 77 77 := Tryd.call77
theorem ct78 : CallsTo Tryd.prog 78 78 := Tryd.call78
theorem ct79 : CallsTo Tryd.prog 79 79 := Tryd.call79
theorem ct80 : CallsTo Tryd.prog 80 80 := Tryd.call80
theorem ct81 : CallsTo Tryd.prog 81 81 := Tryd.call81
theorem ct82 : CallsTo Tryd.prog 82 82 := Tryd.call82
theorem ct84 : CallsTo Tryd.prog 84 84 := Tryd.call84
theorem ct85 : CallsTo Tryd.prog 85 85 := Tryd.call85
theorem ct86 : CallsTo Tryd.prog 86 86 := Tryd.call86
theorem ct87 : CallsTo Tryd.prog 87 87 := Tryd.call87
theorem ct88 : CallsTo Tryd.prog 88 88 := Tryd.call88
theorem ct90 : CallsTo Tryd.prog 90 90 := Tryd.call90
theorem ct91 : CallsTo Tryd.prog 91 91 := Tryd.call91
theorem ct92 : CallsTo Tryd.prog 92 92 := Tryd.call92
theorem ct115 : CallsTo Tryd.prog 115 115 := Tryd.call115
end Go.Proofs.YtikkobmghmphaaaDoor
namespace Go.Proofs.YtikkobmghmphaaaDoor
open Go Go.Av

set_option maxRecDepth 10000
theorem idxByte_ok (s : List UInt8) (c : UInt8) : PureC Tryd.prog 82 [.str s, .int .u8 c.toNat] (.int .i64 (Lib.indexByte s c)) := by
  refine PureC.of_c TIok Tryd.func82 rfl rfl rfl rfl ?_
  refine go_rg TTok 100 rfl ?_
  refine c_op (av := .int .i64 (Lib.indexByte s c)) (op_extern (e := Extern.BytealgIndexByte.indexByte) rfl rfl rfl rfl Tryd.func89 (by kernel_rfl) rfl (by kernel_rfl) (by kernel_rfl) ?_) rfl rfl rfl ?_
  · intro C ρ w a hs argv hv
    simp only [VRs, VR] at hv
    obtain ⟨_, _, rfl, rfl, _, _, rfl, rfl, rfl⟩ := hv
    refine ⟨_, Lib.run_indexByteString _ _ _, ?_⟩
    simp [VR]
  refine go_st TTok 100 rfl ?_
  exact c_ret ⟨_, rfl, rfl⟩

theorem slIndex_ok (s : List UInt8) (c : UInt8) : PureC Tryd.prog 76 [.str s, .str [c]] (.int .i64 (Lib.indexByte s c)) := by
  refine PureC.of_c TIok Tryd.func76 rfl rfl rfl rfl ?_
  refine go_rg TTok 100 rfl ?_
  refine c_known 19 false rfl rfl ?_
  refine go_st TTok 100 rfl ?_
  refine c_cond rfl (fun h => ?_) (fun _ => ?_)
  · have h : [c] = s := by simpa using h
    subst h
    refine go_st TTok 100 rfl ?_
    exact c_ret ⟨_, rfl, by simp [Lib.indexByte]⟩
  refine go_st TTok 100 rfl ?_
  refine c_condT rfl rfl ?_
  refine go_rg TTok 100 rfl ?_
  refine c_op (op_index_str rfl (TTok _ _ rfl).ok rfl rfl rfl (by decide) (by simp)) rfl rfl rfl ?_
  refine go_rg TTok 100 rfl ?_
  refine c_call (idxByte_ok s c) rfl rfl rfl rfl ct82 rfl rfl rfl rfl ?_
  refine go_st TTok 100 rfl ?_
  exact c_ret ⟨_, rfl, rfl⟩
theorem index_ok (s : List UInt8) (c : UInt8) : PureC Tryd.prog 62 [.str s, .str [c]] (.int .i64 (Lib.indexByte s c)) := by
  refine PureC.of_c TIok Tryd.func62 rfl rfl rfl rfl ?_
  refine go_rg TTok 100 rfl ?_
  refine c_call (slIndex_ok s c) rfl rfl rfl rfl ct76 rfl rfl rfl rfl ?_
  refine go_st TTok 100 rfl ?_
  exact c_ret ⟨_, rfl, rfl⟩
theorem count_ok (s : List UInt8) (c : UInt8) : PureC Tryd.prog 61 [.str s, .str [c]] (.int .i64 (s.count c : Nat)) := by
  refine PureC.of_c TIok Tryd.func61 rfl rfl rfl rfl ?_
  refine go_st TTok 100 rfl ?_
  refine c_condF rfl rfl ?_
  refine go_st TTok 100 rfl ?_
  refine c_condT rfl rfl ?_
  refine go_rg TTok 100 rfl ?_
  refine c_op (op_index_str rfl (TTok _ _ rfl).ok rfl rfl rfl (by decide) (by simp)) rfl rfl rfl ?_
  refine go_rg TTok 100 rfl ?_
  refine c_op (av := .int .i64 (s.count c : Nat)) (op_extern (e := Extern.BytealgCount.count) rfl rfl rfl rfl Tryd.func75 (by kernel_rfl) rfl (by kernel_rfl) (by kernel_rfl) ?_) rfl rfl rfl ?_
  · intro C ρ w a hs argv hv
    simp only [VRs, VR] at hv
    obtain ⟨_, _, rfl, rfl, _, _, rfl, rfl, rfl⟩ := hv
    refine ⟨_, Lib.run_countString _ _ _, ?_⟩
    simp [VR, Lib.countByte]
  refine go_st TTok 100 rfl ?_
  exact c_ret ⟨_, rfl, rfl⟩
end Go.Proofs.YtikkobmghmphaaaDoor
namespace Go.Proofs.YtikkobmghmphaaaDoor
open Go Go.Av Go.Tm

set_option maxRecDepth 10000
def strs (l : List (List UInt8)) : List AV := l.map .str

structure SI (s : List UInt8) where
  d : List (List UInt8)
  r : List UInt8
  h : splitB s = d ++ splitB r
  c : s.count 47 = d.length + r.count 47
  l : r.length ≤ s.length

theorem genSplit_ok (s : List UInt8) (hs : s.length ≤ 2^40) : PureC Tryd.prog 52 [.str s, .str [47], .int .i64 0, .int .i64 (-1)] (.sl 1 (strs (splitB s))) := by
  refine PureC.of_c TIok Tryd.func52 rfl rfl rfl rfl ?_
  refine go_st TTok 100 rfl ?_
  refine c_condF rfl rfl ?_
  refine go_st TTok 100 rfl ?_
  refine c_condF rfl rfl ?_
  refine go_st TTok 100 rfl ?_
  refine c_condT rfl rfl ?_
  refine go_rg TTok 100 rfl ?_
  refine c_call (count_ok s 47) rfl rfl rfl rfl ct61 rfl rfl rfl rfl ?_
  have hc : s.count 47 ≤ s.length := List.count_le_length
  have hw1 : IntKind.i64.wrap ((s.count 47 : Nat) + 1 : Int) = ((s.count 47 + 1 : Nat) : Int) := by rw [IntWalk.i64_in _ ⟨by omega, by omega⟩]; rfl
  refine go_rg TTok 100 rfl ?_
  refine c_op (op_min rfl rfl rfl rfl rfl) rfl rfl rfl ?_
  have hw2 : (if IntKind.i64.wrap ((s.length : Nat) + 1 : Int) < IntKind.i64.wrap ((s.count 47 : Nat) + 1 : Int) then IntKind.i64.wrap ((s.length : Nat) + 1 : Int) else IntKind.i64.wrap ((s.count 47 : Nat) + 1 : Int)) = ((s.count 47 + 1 : Nat) : Int) := by
    rw [hw1, IntWalk.i64_in _ ⟨by omega, by omega⟩, if_neg (by omega)]
  refine c_say 29 (.int .i64 ((s.count 47 + 1 : Nat) : Int)) rfl (congrArg (AV.int .i64) hw2) ?_
  refine go_rg TTok 100 rfl ?_
  refine c_op ((al_makeSlice (len := s.count 47 + 1) rfl (TTok _ _ rfl).ok rfl (TTok _ _ rfl).ok rfl rfl (by decide) ?_ (by omega)).opS) rfl rfl rfl ?_
  · show 16 * _ ≤ _
    omega
  refine go_st TTok 100 rfl ?_
  have hw3 : IntKind.i64.wrap (((s.count 47 + 1 : Nat) : Int) - 1) = (s.count 47 : Nat) := by rw [IntWalk.i64_in _ ⟨by omega, by omega⟩]; omega
  have nn : ∀ d : List (List UInt8), AV.nids (strs d ++ List.replicate (s.count 47 + 1 - d.length) (.str [])) = true := fun d => by
    rw [nids_append, strs, nids_map _ _ (fun _ => rfl), nids_replicate _ rfl]; rfl
  refine c_loop (ι := SI s) (fun x => [(0, .str x.r), (1, .str [47]), (2, .int .i64 0), (3, .int .i64 (s.count 47 : Nat)), (9, .refc 1 0 0 (s.count 47 + 1) (s.count 47 + 1)), (10, .int .i64 (x.d.length : Nat))])
    (fun x => [(0, .arr 1 (strs x.d ++ List.replicate (s.count 47 + 1 - x.d.length) (.str [])))]) 1 (fun x => x.r.length) ⟨[], s, rfl, by simp, Nat.le_refl _⟩ [0]
    ⟨rfl, rfl, rfl, ⟨rfl, rfl, rfl, congrArg (fun x => some (AV.int .i64 x)) hw3, rfl, rfl, trivial⟩, emb_arr rfl rfl rfl (nn []) trivial⟩ ?_
  intro x
  refine go_st TTok 100 rfl ?_
  have hd : x.d.length ≤ s.count 47 := by have := x.c; omega
  -- the end: what is left goes in, the row is cut
  have fin : ∀ (e : Env) (K : Kont), splitB x.r = [x.r] → True := fun _ _ _ => trivial
  refine c_cond rfl (fun hlt => ?_) (fun hge => ?_)
  · have hlt : x.d.length < s.count 47 := by simpa using hlt
    refine go_rg TTok 100 rfl ?_
    refine c_call (index_ok x.r 47) rfl rfl rfl rfl ct62 rfl rfl rfl rfl ?_
    refine go_st TTok 100 rfl ?_
    rcases splitB_idx x.r with ⟨h1, h2, h3⟩ | ⟨k, h1, h2, h3, h4⟩
    · exfalso
      have := x.c
      omega
    · refine c_condF rfl (by rw [h1]; simp) ?_
      have hr := x.l
      have hw4 : IntKind.i64.wrap (Lib.indexByte x.r 47 + 0) = k := by rw [h1, IntWalk.i64_in _ ⟨by omega, by omega⟩]; omega
      have hw5 : IntKind.i64.wrap (Lib.indexByte x.r 47 + 1) = ((k + 1 : Nat) : Int) := by rw [h1, IntWalk.i64_in _ ⟨by omega, by omega⟩]; omega
      refine go_rg TTok 100 rfl ?_
      refine c_say 47 (.int .i64 (k : Int)) rfl (congrArg (AV.int .i64) hw4) ?_
      refine c_op (op_slice_str (h := some (k : Int)) rfl (TTok _ _ rfl).ok rfl rfl rfl rfl (by decide) (by simp) (by simp; omega)) rfl rfl rfl ?_
      refine go_rg TTok 100 rfl ?_
      refine c_weak 42 rfl ?_
      refine c_op (op_indexAddr_ref rfl (TTok _ _ rfl).ok rfl (TTok _ _ rfl).ok rfl rfl rfl (by omega) (by omega)) rfl rfl rfl ?_
      refine go_rg TTok 100 rfl ?_
      refine c_eptr 49 rfl ?_
      refine c_op0 (op_store (e := .str []) (e' := .str (x.r.take k)) rfl (TTok _ _ rfl).ok rfl rfl rfl ?_ rfl rfl rfl ?_) rfl rfl ?_
      · rw [Nat.zero_add, Int.toNat_natCast, List.getElem?_append_right (by rw [strs, List.length_map]; exact Nat.le_refl _), strs, List.length_map, Nat.sub_self, List.getElem?_replicate, if_pos (by omega)]
      · rfl
      refine go_rg TTok 100 rfl ?_
      refine c_say 54 (.int .i64 ((k + 1 : Nat) : Int)) rfl (congrArg (AV.int .i64) hw5) ?_
      refine c_op (op_slice_str (l := some ((k + 1 : Nat) : Int)) rfl (TTok _ _ rfl).ok rfl rfl rfl rfl (by simp; omega) (by simp; omega) (by simp)) rfl rfl rfl ?_
      refine go_st TTok 100 rfl ?_
      have hw6 : IntKind.i64.wrap ((x.d.length : Nat) + 1 : Int) = ((x.d.length + 1 : Nat) : Int) := by rw [IntWalk.i64_in _ ⟨by omega, by omega⟩]; omega
      refine c_inv ⟨⟨x.d ++ [x.r.take k], x.r.drop (k + 1), by rw [x.h, h3]; simp, by rw [x.c, h4]; simp; omega, by simp; omega⟩, [0], by simp; omega,
        rfl, rfl, rfl, ⟨?_, rfl, rfl, rfl, rfl, ?_, trivial⟩, ?_⟩
      · simp only [Av.get, AV.ren]
        simp
      · simp only [Av.get, AV.ren]
        simp [hw6]
      · refine emb_arr rfl rfl ?_ (nn _) trivial
        rw [show s.count 47 + 1 - x.d.length = (s.count 47 + 1 - (x.d ++ [x.r.take k]).length) + 1 from by simp; omega, List.replicate_succ, Nat.zero_add, Int.toNat_natCast, set_mid _ _ _ _ (by rw [strs, List.length_map])]
        simp [strs]
  · have hge : ¬ x.d.length < s.count 47 := by simpa using hge
    have hx := x.c
    have he : s.count 47 + 1 - x.d.length = 1 := by omega
    have h3 : splitB x.r = [x.r] := by
      rcases splitB_idx x.r with ⟨_, _, h3⟩ | ⟨k, h1, h2, h3, h4⟩
      · exact h3
      · omega
    rw [he]
    refine go_rg TTok 100 rfl ?_
    refine c_weak 58 rfl ?_
    refine c_op (op_indexAddr_ref rfl (TTok _ _ rfl).ok rfl (TTok _ _ rfl).ok rfl rfl rfl (by omega) (by omega)) rfl rfl rfl ?_
    refine c_eptr 61 rfl ?_
    refine c_op0 (op_store (e := .str []) (e' := .str x.r) rfl (TTok _ _ rfl).ok rfl rfl rfl ?_ rfl rfl rfl rfl) rfl rfl ?_
    · rw [Nat.zero_add, Int.toNat_natCast, List.getElem?_append_right (by rw [strs, List.length_map]; exact Nat.le_refl _), strs, List.length_map, Nat.sub_self]; rfl
    have hw6 : IntKind.i64.wrap ((x.d.length : Nat) + 1 : Int) = ((x.d.length + 1 : Nat) : Int) := by rw [IntWalk.i64_in _ ⟨by omega, by omega⟩]; omega
    refine go_rg TTok 100 rfl ?_
    refine c_say 64 (.int .i64 ((x.d.length + 1 : Nat) : Int)) rfl (congrArg (AV.int .i64) hw6) ?_
    refine c_op (op_slice_refc (L := 0) (H := x.d.length + 1) rfl (TTok _ _ rfl).ok rfl (TTok _ _ rfl).ok rfl rfl rfl rfl rfl rfl (by omega) (by omega)) rfl rfl rfl ?_
    refine c_freeze 0 [(65, .sl 1 (strs (splitB s)))] rfl ?_ ⟨⟨_, rfl, snap_refc rfl ?_ ?_⟩, trivial⟩ ?_
    · show AV.nids ((strs x.d ++ [AV.str []]).set _ _) = true
      rw [Nat.zero_add, Int.toNat_natCast, set_mid _ _ _ _ (by rw [strs, List.length_map]), nids_append, strs, nids_map _ _ (fun _ => rfl)]; rfl
    · show 0 + 0 + _ ≤ ((strs x.d ++ [AV.str []]).set _ _).length
      simp [strs]
    · show List.take _ (List.drop _ ((strs x.d ++ [AV.str []]).set _ _)) = _
      rw [Nat.zero_add 0, Nat.zero_add, Int.toNat_natCast, set_mid _ _ _ _ (by rw [strs, List.length_map]), List.drop_zero, List.take_of_length_le (by simp [strs]), x.h, h3]
      simp [strs]
    refine go_st TTok 100 rfl ?_
    exact c_ret ⟨_, rfl, rfl⟩
end Go.Proofs.YtikkobmghmphaaaDoor
namespace Go.Proofs.YtikkobmghmphaaaDoor
open Go Go.Av Go.Tm

set_option maxRecDepth 10000
theorem split_ok (s : List UInt8) (hs : s.length ≤ 2^40) : PureC Tryd.prog 41 [.str s, .str [47]] (.sl 1 (strs (splitB s))) := by
  refine PureC.of_c TIok Tryd.func41 rfl rfl rfl (by simp [AV.nid]) ?_
  refine go_rg TTok 100 rfl ?_
  refine c_call (genSplit_ok s hs) rfl rfl rfl rfl ct52 rfl rfl rfl rfl ?_
  refine go_st TTok 100 rfl ?_
  exact c_ret ⟨_, rfl, rfl⟩
theorem isNaN_ok (s : List UInt8) : PureC Tryd.prog 59 [.str s] (.sb false) := by
  refine PureC.of_c TIok Tryd.func59 rfl rfl rfl rfl ?_
  refine go_st TTok 100 rfl ?_
  exact c_ret ⟨_, rfl, by simp⟩
theorem cmpS_ok (a b : List UInt8) : PureC Tryd.prog 51 [.str a, .str b] (.int .i64 (cmpS a b)) := by
  refine PureC.of_c TIok Tryd.func51 rfl rfl rfl rfl ?_
  refine go_rg TTok 100 rfl ?_
  refine c_call (isNaN_ok a) rfl rfl rfl rfl ct59 rfl rfl rfl rfl ?_
  refine go_rg TTok 100 rfl ?_
  refine c_call (isNaN_ok b) rfl rfl rfl rfl ct59 rfl rfl rfl rfl ?_
  refine go_st TTok 100 rfl ?_
  refine c_condF rfl rfl ?_
  refine go_st TTok 100 rfl ?_
  refine c_condF rfl rfl ?_
  refine go_st TTok 100 rfl ?_
  refine c_cond rfl (fun h => ?_) (fun h => ?_)
  · refine go_st TTok 100 rfl ?_
    exact c_ret ⟨_, rfl, by simp [cmpS, h]⟩
  refine go_st TTok 100 rfl ?_
  refine c_cond rfl (fun h2 => ?_) (fun h2 => ?_)
  · refine go_st TTok 100 rfl ?_
    refine c_ret ⟨_, rfl, ?_⟩
    simp [h] at h2
    simp [cmpS, h, h2]
  · refine go_st TTok 100 rfl ?_
    refine c_ret ⟨_, rfl, ?_⟩
    simp [h] at h2
    subst h2
    simp [cmpS, h]
structure CI (A B : List (List UInt8)) where
  k : Nat
  ha : k ≤ A.length
  hb : k ≤ B.length
  h : cmpL A B = cmpL (A.drop k) (B.drop k)

theorem cmpL_ok (A B : List (List UInt8)) (hA : A.length ≤ 2^40) (hB : B.length ≤ 2^40) : PureC Tryd.prog 40 [.sl 1 (strs A), .sl 1 (strs B)] (.int .i64 (cmpL A B)) := by
  refine PureC.of_c TIok Tryd.func40 rfl rfl rfl rfl ?_
  refine go_st TTok 100 rfl ?_
  have hlA : (strs A).length = A.length := by simp [strs]
  have hlB : (strs B).length = B.length := by simp [strs]
  refine c_loop (ι := CI A B) (fun x => [(0, .sl 1 (strs A)), (1, .sl 1 (strs B)), (9, .sl 1 (strs A)), (10, .int .i64 ((strs A).length : Nat)), (11, .int .i64 (x.k : Nat))])
    (fun _ => []) 0 (fun x => A.length - x.k) ⟨0, Nat.zero_le _, Nat.zero_le _, rfl⟩ [] ⟨rfl, rfl, rfl, ⟨rfl, rfl, rfl, rfl, rfl, trivial⟩, trivial⟩ ?_
  rintro ⟨k, ha, hb, h⟩
  refine go_st TTok 100 rfl ?_
  refine c_cond rfl (fun hc => ?_) (fun hc => ?_)
  · have hc : k < A.length := by simpa [strs] using hc
    refine go_rg TTok 100 rfl ?_
    refine c_op (op_indexAddr_sl rfl (TTok _ _ rfl).ok rfl (TTok _ _ rfl).ok rfl rfl rfl (by omega) (by show (k : Int) < _; omega) (av := .str A[k]) (by simp [strs, hc])) rfl rfl rfl ?_
    refine go_st TTok 100 rfl ?_
    have hAd : A.drop k = A[k] :: A.drop (k + 1) := List.drop_eq_getElem_cons hc
    refine c_cond rfl (fun hc2 => ?_) (fun hc2 => ?_)
    · have hc2 : B.length ≤ k := by simpa [strs] using hc2
      refine go_st TTok 100 rfl ?_
      refine c_ret ⟨_, rfl, ?_⟩
      rw [h, hAd, List.drop_of_length_le hc2]; rfl
    · have hc2 : k < B.length := by simpa [strs] using hc2
      have hBd : B.drop k = B[k] :: B.drop (k + 1) := List.drop_eq_getElem_cons hc2
      refine go_rg TTok 100 rfl ?_
      refine c_op (op_indexAddr_sl rfl (TTok _ _ rfl).ok rfl (TTok _ _ rfl).ok rfl rfl rfl (by omega) (by show (k : Int) < _; omega) (av := .str B[k]) (by simp [strs, hc2])) rfl rfl rfl ?_
      refine go_rg TTok 100 rfl ?_
      refine c_call (cmpS_ok A[k] B[k]) rfl rfl rfl rfl ct51 rfl rfl rfl rfl ?_
      refine go_st TTok 100 rfl ?_
      refine c_cond rfl (fun hc3 => ?_) (fun hc3 => ?_)
      · have hc3 : cmpS A[k] B[k] ≠ 0 := by simpa using hc3
        refine go_st TTok 100 rfl ?_
        refine c_ret ⟨_, rfl, ?_⟩
        rw [h, hAd, hBd, cmpL, if_pos hc3]
      · have hc3 : cmpS A[k] B[k] = 0 := by simpa using hc3
        refine go_st TTok 100 rfl ?_
        have hw : IntKind.i64.wrap ((k : Nat) + 1 : Int) = ((k + 1 : Nat) : Int) := by rw [IntWalk.i64_in _ ⟨by omega, by omega⟩]; omega
        refine c_inv ⟨⟨k + 1, hc, hc2, by rw [h, hAd, hBd, cmpL, if_neg (by simp [hc3])]⟩, [], by simp; omega, rfl, rfl, rfl, ⟨rfl, rfl, rfl, rfl, congrArg (fun x => some (AV.int .i64 x)) hw, trivial⟩, trivial⟩
  · have hc : A.length ≤ k := by simpa [strs] using hc
    have hk : k = A.length := by omega
    subst hk
    refine go_st TTok 100 rfl ?_
    have hAd : A.drop A.length = [] := by simp
    refine c_cond rfl (fun hc2 => ?_) (fun hc2 => ?_)
    · have hc2 : A.length < B.length := by simpa [strs] using hc2
      have hBd : B.drop A.length = B[A.length] :: B.drop (A.length + 1) := List.drop_eq_getElem_cons hc2
      refine go_st TTok 100 rfl ?_
      refine c_ret ⟨_, rfl, ?_⟩
      rw [h, hAd, hBd]; rfl
    · have hc2 : B.length ≤ A.length := by simpa [strs] using hc2
      refine go_st TTok 100 rfl ?_
      refine c_ret ⟨_, rfl, ?_⟩
      rw [h, hAd, List.drop_of_length_le hc2]; rfl
theorem cmpP_ok (a b : List UInt8) (ha : a.length ≤ 2^39) (hb : b.length ≤ 2^39) : PureC Tryd.prog 28 [.str a, .str b] (.int .i64 (cmpP a b)) := by
  refine PureC.of_c TIok Tryd.func28 rfl rfl rfl rfl ?_
  refine go_rg TTok 100 rfl ?_
  refine c_call (split_ok a (by omega)) rfl rfl rfl rfl ct41 rfl rfl rfl rfl ?_
  refine go_rg TTok 100 rfl ?_
  refine c_call (split_ok b (by omega)) rfl rfl rfl rfl ct41 rfl rfl rfl rfl ?_
  refine go_rg TTok 100 rfl ?_
  refine c_call (cmpL_ok (splitB a) (splitB b) (by have := splitB_len a; omega) (by have := splitB_len b; omega)) rfl rfl rfl rfl ct40 rfl rfl rfl rfl ?_
  refine go_st TTok 100 rfl ?_
  exact c_ret ⟨_, rfl, rfl⟩

theorem lastB_ok (s : List UInt8) (c : UInt8) (hs : s.length ≤ 2^40) : PureC Tryd.prog 57 [.str s, .int .u8 c.toNat] (.int .i64 (lastIdx s c)) := by
  refine PureC.of_c TIok Tryd.func57 rfl rfl rfl rfl ?_
  refine go_st TTok 100 rfl ?_
  have hw0 : IntKind.i64.wrap ((s.length : Nat) - 1 : Int) = ((s.length : Nat) : Int) - 1 := IntWalk.i64_in _ ⟨by omega, by omega⟩
  refine c_loop (ι := { k : Nat // k ≤ s.length ∧ lastIdx s c = lastTo s c k }) (fun x => [(0, .str s), (1, .int .u8 c.toNat), (5, .int .i64 ((x.1 : Nat) - 1))])
    (fun _ => []) 0 (fun x => x.1) ⟨s.length, Nat.le_refl _, rfl⟩ [] ⟨rfl, rfl, rfl, ⟨rfl, rfl, congrArg (fun x => some (AV.int .i64 x)) hw0, trivial⟩, trivial⟩ ?_
  rintro ⟨k, hk, h⟩
  refine go_st TTok 100 rfl ?_
  refine c_cond rfl (fun hc => ?_) (fun hc => ?_)
  · have hc : 0 < k := by simp at hc; omega
    obtain ⟨k, rfl⟩ : ∃ j, k = j + 1 := ⟨k - 1, by omega⟩
    have e : (((k + 1 : Nat) : Int) - 1) = (k : Int) := by omega
    simp only [e]
    refine go_rg TTok 100 rfl ?_
    refine c_op (op_index_str rfl (TTok _ _ rfl).ok rfl rfl rfl (by omega) (by omega)) rfl rfl rfl ?_
    refine go_st TTok 100 rfl ?_
    refine c_cond rfl (fun hc2 => ?_) (fun hc2 => ?_)
    · refine go_st TTok 100 rfl ?_
      refine c_ret ⟨_, rfl, ?_⟩
      rw [h, lastTo, if_pos ?_]
      have : ((s.getD k 0).toNat : Int) = c.toNat := by simpa using hc2
      have : (s.getD k 0).toNat = c.toNat := by omega
      exact UInt8.toNat_inj.1 this
    · refine go_st TTok 100 rfl ?_
      have hw : IntKind.i64.wrap ((k : Nat) - 1 : Int) = ((k : Nat) : Int) - 1 := IntWalk.i64_in _ ⟨by omega, by omega⟩
      refine c_inv ⟨⟨k, by omega, ?_⟩, [], by simp, rfl, rfl, rfl, ⟨rfl, rfl, congrArg (fun x => some (AV.int .i64 x)) hw, trivial⟩, trivial⟩
      rw [h, lastTo, if_neg ?_]
      intro e
      rw [← e] at hc2
      simp at hc2
  · have hc : k = 0 := by simp at hc; omega
    subst hc
    refine go_st TTok 100 rfl ?_
    refine c_ret ⟨_, rfl, ?_⟩
    rw [h]; rfl
theorem lastIdx_ok (s : List UInt8) (c : UInt8) (hs : s.length ≤ 2^40) : PureC Tryd.prog 50 [.str s, .str [c]] (.int .i64 (lastIdx s c)) := by
  refine PureC.of_c TIok Tryd.func50 rfl rfl rfl rfl ?_
  refine go_st TTok 100 rfl ?_
  refine c_condF rfl rfl ?_
  refine go_st TTok 100 rfl ?_
  refine c_condT rfl rfl ?_
  refine go_rg TTok 100 rfl ?_
  refine c_op (op_index_str rfl (TTok _ _ rfl).ok rfl rfl rfl (by decide) (by simp)) rfl rfl rfl ?_
  refine go_rg TTok 100 rfl ?_
  refine c_call (lastB_ok s c hs) rfl rfl rfl rfl ct57 rfl rfl rfl rfl ?_
  refine go_st TTok 100 rfl ?_
  exact c_ret ⟨_, rfl, rfl⟩
end Go.Proofs.YtikkobmghmphaaaDoor
namespace Go.Proofs.YtikkobmghmphaaaDoor
open Go Go.Av Go.Tm

set_option maxRecDepth 10000
def setF (f : Nat → Bool) : List AV := (List.range 256).map fun i => .bool (f i)
noncomputable def ti95 : TI := ⟨.array 256 4, 256, 256, .agg (setF fun _ => false)⟩
theorem tok95 : TOk Tryd.prog 95 ti95 := TOk.mk' Tryd.underlying95 (f := Tryd.t95) (by kernel_rfl) (by kernel_rfl) (by kernel_rfl) rfl (by kernel_rfl) (by kernel_rfl) (by kernel_rfl)
noncomputable def TI95 : Tab := fun t => match Nat.beq t 95 with | true => some ti95 | false => TI' t
theorem TI95ok : TabOk Tryd.prog TI95 := fun t i h => by
  unfold TI95 at h
  split at h
  · rename_i e; cases h; rw [Nat.eq_of_beq_eq_true e]; exact tok95
  · exact TIok t i h

theorem setF_len (f) : (setF f).length = 256 := by simp [setF]
theorem setF_get (f) {i : Nat} (h : i < 256) : (setF f)[i]? = some (.bool (f i)) := by simp [setF, h]
theorem setF_nids (f) : AV.nids (setF f) = true := nids_map _ _ fun _ => rfl
theorem setF_set (f : Nat → Bool) {i : Nat} (h : i < 256) : (setF f).take i ++ (.bool true :: (setF f).drop (i + 1)) = setF fun j => f j || j == i := by
  have e : (setF f).take i ++ (AV.bool true :: (setF f).drop (i + 1)) = (setF f).set i (.bool true) := by
    rw [List.set_eq_take_append_cons_drop, if_pos (by rw [setF_len]; exact h)]
  rw [e]
  apply List.ext_getElem?
  intro k
  rw [List.getElem?_set, setF_len]
  by_cases hk : k < 256
  · rw [setF_get _ hk, setF_get _ hk]
    by_cases e : i = k
    · subst e; simp [h]
    · rw [if_neg e]; simp [Ne.symm e]
  · rw [if_neg (by omega), List.getElem?_eq_none (by rw [setF_len]; omega), List.getElem?_eq_none (by rw [setF_len]; omega)]
theorem stF (f : Nat → Bool) {i : Nat} (h : i < 256) : stA (.agg (setF f)) i (.bool true) = some (.agg (setF fun j => f j || j == i)) := by
  have h1 : Nat.beq (AV.bool true).cells.length (AV.agg (setF f)).cells.length = false := by
    show Nat.beq 1 (setF f).length = false
    rw [setF_len]; rfl
  have h2 : Nat.ble (i + (AV.bool true).cells.length) (AV.agg (setF f)).cells.length = true := by
    show Nat.ble (i + 1) (setF f).length = true
    rw [setF_len, Nat.ble_eq]; omega
  have h3 : (AV.agg (setF f)).isAgg = true := rfl
  unfold stA
  rw [h1, h2, h3]
  have e := setF_set f h
  cases Nat.beq i 0 <;> exact congrArg (fun l => some (AV.agg l)) e

theorem makeSet_ok (s : List UInt8) (hs : s.length ≤ 2^40) (h128 : ∀ b ∈ s, b.toNat < 128) : PureC Tryd.prog 65 [.str s] (.tuple [.agg (setF (inS s)), .bool true]) := by
  refine PureC.of_c TI95ok Tryd.func65 rfl rfl rfl (by simp [AV.nid, AV.nids, setF_nids]) ?_
  refine go_rg TTok 100 rfl ?_
  refine c_op (op_alloc rfl tok95) rfl rfl rfl ?_
  refine go_st TTok 100 rfl ?_
  refine c_loop (ι := { k : Nat // k ≤ s.length }) (fun x => [(0, .str s), (2, .ptr 0 256 0 0), (3, .bool false), (4, .int .i64 (x.1 : Nat))])
    (fun x => [(0, .arr 256 [.agg (setF (inS (s.take x.1)))])]) 1 (fun x => s.length - x.1) ⟨0, Nat.zero_le _⟩ [0]
    ⟨rfl, rfl, rfl, ⟨rfl, rfl, rfl, rfl, trivial⟩, emb_arr rfl rfl rfl (by simp [AV.nids, AV.nid, setF_nids]) trivial⟩ ?_
  rintro ⟨k, hk⟩
  refine go_st TTok 100 rfl ?_
  refine c_cond rfl (fun hc => ?_) (fun hc => ?_)
  · have hc : k < s.length := by simpa using hc
    refine go_rg TTok 100 rfl ?_
    refine c_op (op_index_str rfl (TTok _ _ rfl).ok rfl rfl rfl (by omega) (by show (k : Int) < _; omega)) rfl rfl rfl ?_
    have hb : s.getD k 0 = s[k] := by simp [List.getD, hc]
    have h1 := h128 s[k] (List.getElem_mem hc)
    refine c_say 14 (.int .u8 (s[k].toNat : Nat)) rfl (by rw [← hb]; rfl) ?_
    refine go_st TTok 100 rfl ?_
    refine c_condF rfl (by simp; omega) ?_
    refine go_rg TTok 100 rfl ?_
    refine c_op (op_indexAddr_arr (len := 256) rfl tok95 rfl (TTok _ _ rfl).ok rfl rfl (by omega) (by omega)) rfl rfl rfl ?_
    refine c_op0 (op_store (e := .agg (setF (inS (s.take k)))) (e' := .agg (setF (inS (s.take (k + 1))))) rfl (TTok _ _ rfl).ok rfl rfl rfl rfl rfl rfl rfl ?_) rfl rfl ?_
    · rw [Nat.zero_add, Int.toNat_natCast, show ti4.ti.size = 1 from rfl, Nat.mul_one, stF _ (by omega)]
      congr 2
      apply congrArg
      funext j
      unfold inS
      rw [List.take_succ_eq_append_getElem hc, List.any_append, List.any_cons, List.any_nil, Bool.or_false]
      congr 1
      rw [Bool.eq_iff_iff, beq_iff_eq, beq_iff_eq]
      exact eq_comm
    refine go_st TTok 100 rfl ?_
    have hw : IntKind.i64.wrap ((k : Nat) + 1 : Int) = ((k + 1 : Nat) : Int) := by rw [IntWalk.i64_in _ ⟨by omega, by omega⟩]; omega
    refine c_inv ⟨⟨k + 1, hc⟩, [0], by simp; omega, rfl, rfl, rfl, ⟨rfl, rfl, rfl, congrArg (fun x => some (AV.int .i64 x)) hw, trivial⟩, emb_arr rfl rfl rfl (by simp [AV.nids, AV.nid, setF_nids]) trivial⟩
  · have hc : k = s.length := by simp at hc; omega
    subst hc
    refine go_rg TTok 100 rfl ?_
    refine c_op (op_load_whole rfl tok95 rfl rfl rfl rfl rfl) rfl rfl rfl ?_
    refine c_op0 (op_store (e' := .agg (setF (inS (s.take s.length)))) rfl tok95 rfl rfl rfl rfl ?_ rfl rfl ?_) rfl rfl ?_
    · show Nat.beq (setF _).length 256 = true
      rw [setF_len]; rfl
    · simp [stA, AV.isAgg]
    refine go_st TTok 100 rfl ?_
    refine c_ret ⟨_, rfl, ?_⟩
    rw [List.take_length]
    rfl

theorem contains_ok (f : Nat → Bool) (c : UInt8) : PureC Tryd.prog 77 [.fp (setF f), .int .u8 c.toNat] (.sb (f c.toNat)) := by
  refine PureC.of_c TIok Tryd.func77 rfl rfl rfl rfl ?_
  refine go_rg TTok 100 rfl ?_
  have h := c.toNat_lt
  refine c_op (op_indexAddr_farr (len := 256) rfl tok95 rfl (TTok _ _ rfl).ok rfl rfl (by omega) (by omega)) rfl rfl rfl ?_
  refine c_op (op_load_fp (av := .bool (f c.toNat)) rfl (TTok _ _ rfl).ok rfl ?_) rfl rfl rfl ?_
  · show ((setF f).drop ((c.toNat : Int).toNat * 1))[0]? = _
    rw [List.getElem?_drop, Nat.mul_one, Int.toNat_natCast, Nat.add_zero, setF_get f (by omega)]
  refine c_say' 9 (.sb (f c.toNat)) rfl (fun w X ρ v h => by simpa only [VR] using h) ?_
  refine go_st TTok 100 rfl ?_
  exact c_ret ⟨_, rfl, rfl⟩

theorem trimL_ok (f : Nat → Bool) (s : List UInt8) (hs : s.length ≤ 2^40) : PureC Tryd.prog 66 [.str s, .fp (setF f)] (.str (s.dropWhile fun c => f c.toNat)) := by
  refine PureC.of_c TIok Tryd.func66 rfl rfl rfl rfl ?_
  refine go_st TTok 100 rfl ?_
  refine c_loop (ι := { r : List UInt8 // r.length ≤ s.length ∧ s.dropWhile (fun c => f c.toNat) = r.dropWhile fun c => f c.toNat }) (fun x => [(0, .str x.1), (1, .fp (setF f))]) (fun _ => []) 0 (fun x => x.1.length) ⟨s, Nat.le_refl _, rfl⟩ []
    ⟨rfl, rfl, rfl, ⟨rfl, rfl, trivial⟩, trivial⟩ ?_
  rintro ⟨r, hr, h⟩
  refine go_st TTok 100 rfl ?_
  refine c_cond rfl (fun hc => ?_) (fun hc => ?_)
  · cases r with
    | nil => simp at hc
    | cons c r =>
      refine go_rg TTok 100 rfl ?_
      refine c_op (op_index_str rfl (TTok _ _ rfl).ok rfl rfl rfl (by decide) (by simp)) rfl rfl rfl ?_
      refine c_call (contains_ok f c) rfl rfl rfl rfl ct77 rfl rfl rfl rfl ?_
      refine go_st TTok 100 rfl ?_
      refine c_cond rfl (fun hc2 => ?_) (fun hc2 => ?_)
      · refine go_st TTok 100 rfl ?_
        refine c_ret ⟨_, rfl, ?_⟩
        have : f c.toNat = false := by simpa using hc2
        exact congrArg AV.str (show c :: r = _ by rw [h, List.dropWhile_cons, if_neg (by simp [this])])
      · refine go_rg TTok 100 rfl ?_
        refine c_op (op_slice_str (l := some 1) rfl (TTok _ _ rfl).ok rfl rfl rfl rfl (by decide) (by simp; omega) (by simp)) rfl rfl rfl ?_
        refine go_st TTok 100 rfl ?_
        have : f c.toNat = true := by simpa using hc2
        refine c_inv ⟨⟨r, by simp at hr; omega, by rw [h, List.dropWhile_cons, if_pos this]⟩, [], by simp, rfl, rfl, rfl, ⟨?_, rfl, trivial⟩, trivial⟩
        simp [Av.get, AV.ren]
  · have hc : r = [] := by simpa using hc
    subst hc
    refine go_st TTok 100 rfl ?_
    exact c_ret ⟨_, rfl, congrArg AV.str (show [] = _ by rw [h]; rfl)⟩

theorem trimR_ok (f : Nat → Bool) (s : List UInt8) (hs : s.length ≤ 2^40) : PureC Tryd.prog 67 [.str s, .fp (setF f)] (.str (dropR (fun c => f c.toNat) s)) := by
  refine PureC.of_c TIok Tryd.func67 rfl rfl rfl rfl ?_
  refine go_st TTok 100 rfl ?_
  refine c_loop (ι := { r : List UInt8 // r.length ≤ s.length ∧ dropR (fun c => f c.toNat) s = dropR (fun c => f c.toNat) r }) (fun x => [(0, .str x.1), (1, .fp (setF f))]) (fun _ => []) 0 (fun x => x.1.length) ⟨s, Nat.le_refl _, rfl⟩ []
    ⟨rfl, rfl, rfl, ⟨rfl, rfl, trivial⟩, trivial⟩ ?_
  rintro ⟨r, hr, h⟩
  refine go_st TTok 100 rfl ?_
  refine c_cond rfl (fun hc => ?_) (fun hc => ?_)
  · have hne : r ≠ [] := by rintro rfl; simp at hc
    obtain ⟨r, c, rfl⟩ : ∃ a c, r = a ++ [c] := ⟨r.dropLast, r.getLast hne, (List.dropLast_concat_getLast hne).symm⟩
    simp only [List.length_append, List.length_singleton] at hr
    have hw : IntKind.i64.wrap (((r ++ [c]).length : Nat) - 1 : Int) = (r.length : Nat) := by rw [List.length_append, List.length_singleton, IntWalk.i64_in _ ⟨by omega, by omega⟩]; omega
    refine go_rg TTok 100 rfl ?_
    refine c_say 12 (.int .i64 (r.length : Nat)) rfl (congrArg (AV.int .i64) hw) ?_
    refine c_op (op_index_str rfl (TTok _ _ rfl).ok rfl rfl rfl (by omega) (by simp; omega)) rfl rfl rfl ?_
    refine c_say 13 (.int .u8 (c.toNat : Nat)) rfl (by simp) ?_
    refine c_call (contains_ok f c) rfl rfl rfl rfl ct77 rfl rfl rfl rfl ?_
    refine go_st TTok 100 rfl ?_
    refine c_cond rfl (fun hc2 => ?_) (fun hc2 => ?_)
    · refine go_st TTok 100 rfl ?_
      have : f c.toNat = false := by simpa using hc2
      exact c_ret ⟨_, rfl, congrArg AV.str (show r ++ [c] = _ by rw [h, dropR_last, if_neg (by simp [this])])⟩
    · refine go_rg TTok 100 rfl ?_
      refine c_say 19 (.int .i64 (r.length : Nat)) rfl (congrArg (AV.int .i64) hw) ?_
      refine c_op (op_slice_str (h := some (r.length : Nat)) rfl (TTok _ _ rfl).ok rfl rfl rfl rfl (by decide) (by simp) (by simp; omega)) rfl rfl rfl ?_
      refine go_st TTok 100 rfl ?_
      have : f c.toNat = true := by simpa using hc2
      refine c_inv ⟨⟨r, by omega, by rw [h, dropR_last, if_pos this]⟩, [], by simp, rfl, rfl, rfl, ⟨?_, rfl, trivial⟩, trivial⟩
      simp [Av.get, AV.ren]
  · have hc : r = [] := by simpa using hc
    subst hc
    refine go_st TTok 100 rfl ?_
    exact c_ret ⟨_, rfl, congrArg AV.str (show [] = _ by rw [h]; rfl)⟩
end Go.Proofs.YtikkobmghmphaaaDoor
