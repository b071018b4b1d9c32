/- Facts on the program's types and functions, printed by wip/tools/gen.py. -/
import Derived.Test.YtafmgghpcneoeaaDgs
import Derived.Test.YtafmgghpcneoeaaProg
import Derived.KernelRfl
namespace Go.Proofs.Ytafmgghpcneoeaa
open Go
set_option maxRecDepth 100000
theorem mixed : Try.prog.follows .mixedOrders = true := by kernel_rfl
theorem co13 : CO Try.prog 13 := ⟨_, Try.func13, by kernel_rfl, by kernel_rfl⟩
theorem co14 : CO Try.prog 14 := ⟨_, Try.func14, by kernel_rfl, by kernel_rfl⟩
theorem sl22 : SL Try.prog 22 34 27 := ⟨Try.underlying22, by kernel_rfl⟩
theorem tz34 : (Try.prog.info? 34).map (·.size) = some 27 := by kernel_rfl
theorem ta34 : TA Try.prog 34 27 := ⟨⟨_, Try.underlying34, rfl⟩, by kernel_rfl⟩
theorem zv34 : ZV Try.prog 34 (adrC 0 ++ ([Value.int .u64 0] ++ (wdC 0 ++ ([Value.slice none 0 0] ++ ([Value.slice none 0 0]))))) := ⟨.agg (adrC 0 ++ ([Value.int .u64 0] ++ (wdC 0 ++ ([Value.slice none 0 0] ++ ([Value.slice none 0 0]))))).toArray, by kernel_rfl, rfl⟩
theorem co15 : CO Try.prog 15 := ⟨_, Try.func15, by kernel_rfl, by kernel_rfl⟩
theorem co16 : CO Try.prog 16 := ⟨_, Try.func16, by kernel_rfl, by kernel_rfl⟩
theorem sl23 : SL Try.prog 23 28 20 := ⟨Try.underlying23, by kernel_rfl⟩
theorem tz28 : (Try.prog.info? 28).map (·.size) = some 20 := by kernel_rfl
theorem ta28 : TA Try.prog 28 20 := ⟨⟨_, Try.underlying28, rfl⟩, by kernel_rfl⟩
theorem zv28 : ZV Try.prog 28 (adrC 0) := ⟨.agg (adrC 0).toArray, by kernel_rfl, rfl⟩
theorem co17 : CO Try.prog 17 := ⟨_, Try.func17, by kernel_rfl, by kernel_rfl⟩
theorem tz29 : (Try.prog.info? 29).map (·.size) = some 1 := by kernel_rfl
theorem tz31 : (Try.prog.info? 31).map (·.size) = some 4 := by kernel_rfl
theorem tz24 : (Try.prog.info? 24).map (·.size) = some 1 := by kernel_rfl
theorem tz32 : (Try.prog.info? 32).map (·.size) = some 1 := by kernel_rfl
theorem bs34 : BS Try.prog 34 [(0, 20), (20, 1), (21, 4), (25, 1), (26, 1)] := ⟨_, Try.underlying34, fun w => by simp [Sem.run_bind, run_sizeOf' tz28, run_sizeOf' tz29, run_sizeOf' tz31, run_sizeOf' tz24, run_sizeOf' tz32]⟩
theorem co18 : CO Try.prog 18 := ⟨_, Try.func18, by kernel_rfl, by kernel_rfl⟩
theorem sl24 : SL Try.prog 24 5 1 := ⟨Try.underlying24, by kernel_rfl⟩
theorem tz5 : (Try.prog.info? 5).map (·.size) = some 1 := by kernel_rfl
theorem ts5 : TS Try.prog 5 := ⟨⟨_, Try.underlying5, rfl⟩, by kernel_rfl⟩
theorem co19 : CO Try.prog 19 := ⟨_, Try.func19, by kernel_rfl, by kernel_rfl⟩
theorem co20 : CO Try.prog 20 := ⟨_, Try.func20, by kernel_rfl, by kernel_rfl⟩
theorem co21 : CO Try.prog 21 := ⟨_, Try.func21, by kernel_rfl, by kernel_rfl⟩
theorem co22 : CO Try.prog 22 := ⟨_, Try.func22, by kernel_rfl, by kernel_rfl⟩
theorem co23 : CO Try.prog 23 := ⟨_, Try.func23, by kernel_rfl, by kernel_rfl⟩
theorem co24 : CO Try.prog 24 := ⟨_, Try.func24, by kernel_rfl, by kernel_rfl⟩
theorem zv51 : ZV Try.prog 51 ([Value.slice none 0 0] ++ ([Value.slice none 0 0])) := ⟨.agg ([Value.slice none 0 0] ++ ([Value.slice none 0 0])).toArray, by kernel_rfl, rfl⟩
theorem tz22 : (Try.prog.info? 22).map (·.size) = some 1 := by kernel_rfl
theorem tz49 : (Try.prog.info? 49).map (·.size) = some 1 := by kernel_rfl
theorem bs51 : BS Try.prog 51 [(0, 1), (1, 1)] := ⟨_, Try.underlying51, fun w => by simp [Sem.run_bind, run_sizeOf' tz22, run_sizeOf' tz49]⟩
theorem tz51 : (Try.prog.info? 51).map (·.size) = some 2 := by kernel_rfl
theorem ta51 : TA Try.prog 51 2 := ⟨⟨_, Try.underlying51, rfl⟩, by kernel_rfl⟩
theorem fa34_0 : FA Try.prog 34 0 0 := ⟨_, _, Try.underlying34, rfl, rfl, 19, by kernel_rfl⟩
theorem co25 : CO Try.prog 25 := ⟨_, Try.func25, by kernel_rfl, by kernel_rfl⟩
theorem co26 : CO Try.prog 26 := ⟨_, Try.func26, by kernel_rfl, by kernel_rfl⟩
theorem fa51_0 : FA Try.prog 51 0 0 := ⟨_, _, Try.underlying51, rfl, rfl, 0, by kernel_rfl⟩
theorem ts22 : TS Try.prog 22 := ⟨⟨_, Try.underlying22, rfl⟩, by kernel_rfl⟩
theorem eq28 : EQ Try.prog 28 adrC NA := EQ.adr Try.underlying28 Try.underlying5 (by kernel_rfl) (by kernel_rfl)
theorem co27 : CO Try.prog 27 := ⟨_, Try.func27, by kernel_rfl, by kernel_rfl⟩
theorem co28 : CO Try.prog 28 := ⟨_, Try.func28, by kernel_rfl, by kernel_rfl⟩
theorem sl60 : SL Try.prog 60 63 28 := ⟨Try.underlying60, by kernel_rfl⟩
theorem tz63 : (Try.prog.info? 63).map (·.size) = some 28 := by kernel_rfl
theorem ta63 : TA Try.prog 63 28 := ⟨⟨_, Try.underlying63, rfl⟩, by kernel_rfl⟩
theorem zv63 : ZV Try.prog 63 ([Value.int .i64 0] ++ (adrC 0 ++ ([Value.int .u64 0] ++ (wdC 0 ++ ([Value.slice none 0 0] ++ ([Value.slice none 0 0])))))) := ⟨.agg ([Value.int .i64 0] ++ (adrC 0 ++ ([Value.int .u64 0] ++ (wdC 0 ++ ([Value.slice none 0 0] ++ ([Value.slice none 0 0])))))).toArray, by kernel_rfl, rfl⟩
theorem fa63_1 : FA Try.prog 63 1 1 := ⟨_, _, Try.underlying63, rfl, rfl, 26, by kernel_rfl⟩
theorem fa63_0 : FA Try.prog 63 0 0 := ⟨_, _, Try.underlying63, rfl, rfl, 0, by kernel_rfl⟩
theorem tz3 : (Try.prog.info? 3).map (·.size) = some 1 := by kernel_rfl
theorem ts3 : TS Try.prog 3 := ⟨⟨_, Try.underlying3, rfl⟩, by kernel_rfl⟩
theorem co29 : CO Try.prog 29 := ⟨_, Try.func29, by kernel_rfl, by kernel_rfl⟩
theorem co30 : CO Try.prog 30 := ⟨_, Try.func30, by kernel_rfl, by kernel_rfl⟩
theorem fa51_1 : FA Try.prog 51 1 1 := ⟨_, _, Try.underlying51, rfl, rfl, 0, by kernel_rfl⟩
theorem ts49 : TS Try.prog 49 := ⟨⟨_, Try.underlying49, rfl⟩, by kernel_rfl⟩
theorem sl49 : SL Try.prog 49 66 21 := ⟨Try.underlying49, by kernel_rfl⟩
theorem fa66_1 : FA Try.prog 66 1 20 := ⟨_, _, Try.underlying66, rfl, rfl, 0, by kernel_rfl⟩
theorem co31 : CO Try.prog 31 := ⟨_, Try.func31, by kernel_rfl, by kernel_rfl⟩
theorem co32 : CO Try.prog 32 := ⟨_, Try.func32, by kernel_rfl, by kernel_rfl⟩
theorem co33 : CO Try.prog 33 := ⟨_, Try.func33, by kernel_rfl, by kernel_rfl⟩
theorem co34 : CO Try.prog 34 := ⟨_, Try.func34, by kernel_rfl, by kernel_rfl⟩
theorem co35 : CO Try.prog 35 := ⟨_, Try.func35, by kernel_rfl, by kernel_rfl⟩
theorem co36 : CO Try.prog 36 := ⟨_, Try.func36, by kernel_rfl, by kernel_rfl⟩
theorem sl70 : SL Try.prog 70 73 2 := ⟨Try.underlying70, by kernel_rfl⟩
theorem tz73 : (Try.prog.info? 73).map (·.size) = some 2 := by kernel_rfl
theorem ta73 : TA Try.prog 73 2 := ⟨⟨_, Try.underlying73, rfl⟩, by kernel_rfl⟩
theorem zv73 : ZV Try.prog 73 ([Value.int .i64 0] ++ ([Value.slice none 0 0])) := ⟨.agg ([Value.int .i64 0] ++ ([Value.slice none 0 0])).toArray, by kernel_rfl, rfl⟩
theorem fa73_0 : FA Try.prog 73 0 0 := ⟨_, _, Try.underlying73, rfl, rfl, 0, by kernel_rfl⟩
theorem fa73_1 : FA Try.prog 73 1 1 := ⟨_, _, Try.underlying73, rfl, rfl, 0, by kernel_rfl⟩
theorem co37 : CO Try.prog 37 := ⟨_, Try.func37, by kernel_rfl, by kernel_rfl⟩
theorem co38 : CO Try.prog 38 := ⟨_, Try.func38, by kernel_rfl, by kernel_rfl⟩
theorem sl74 : SL Try.prog 74 22 1 := ⟨Try.underlying74, by kernel_rfl⟩
theorem zv22 : ZV Try.prog 22 ([Value.slice none 0 0]) := ⟨Value.slice none 0 0, by kernel_rfl, rfl⟩
theorem ae74 : AE Try.prog 74 22 1 24 := ⟨Try.underlying74, by kernel_rfl, by kernel_rfl, ⟨Value.slice none 0 0, by kernel_rfl, by kernel_rfl⟩, by decide⟩
theorem zv5 : ZV Try.prog 5 ([Value.int .u8 0]) := ⟨Value.int .u8 0, by kernel_rfl, rfl⟩
theorem fa34_3 : FA Try.prog 34 3 25 := ⟨_, _, Try.underlying34, rfl, rfl, 0, by kernel_rfl⟩
theorem ts24 : TS Try.prog 24 := ⟨⟨_, Try.underlying24, rfl⟩, by kernel_rfl⟩
theorem ae24 : AE Try.prog 24 5 1 1 := ⟨Try.underlying24, by kernel_rfl, by kernel_rfl, ⟨Value.int .u8 0, by kernel_rfl, by kernel_rfl⟩, by decide⟩
theorem sl32 : SL Try.prog 32 131 8 := ⟨Try.underlying32, by kernel_rfl⟩
theorem zv131 : ZV Try.prog 131 (wdC 0 ++ (wdC 0)) := ⟨.agg (wdC 0 ++ (wdC 0)).toArray, by kernel_rfl, rfl⟩
theorem fa34_4 : FA Try.prog 34 4 26 := ⟨_, _, Try.underlying34, rfl, rfl, 0, by kernel_rfl⟩
theorem ts32 : TS Try.prog 32 := ⟨⟨_, Try.underlying32, rfl⟩, by kernel_rfl⟩
theorem ae32 : AE Try.prog 32 131 8 64 := ⟨Try.underlying32, by kernel_rfl, by kernel_rfl, ⟨.agg (wdC 0 ++ (wdC 0)).toArray, by kernel_rfl, by kernel_rfl⟩, by decide⟩
theorem ae22 : AE Try.prog 22 34 27 112 := ⟨Try.underlying22, by kernel_rfl, by kernel_rfl, ⟨.agg (adrC 0 ++ ([Value.int .u64 0] ++ (wdC 0 ++ ([Value.slice none 0 0] ++ ([Value.slice none 0 0]))))).toArray, by kernel_rfl, by kernel_rfl⟩, by decide⟩
theorem co39 : CO Try.prog 39 := ⟨_, Try.func39, by kernel_rfl, by kernel_rfl⟩
theorem co40 : CO Try.prog 40 := ⟨_, Try.func40, by kernel_rfl, by kernel_rfl⟩
theorem zv81 : ZV Try.prog 81 ([Value.int .i64 0] ++ ([Value.slice none 0 0])) := ⟨.agg ([Value.int .i64 0] ++ ([Value.slice none 0 0])).toArray, by kernel_rfl, rfl⟩
theorem bs81 : BS Try.prog 81 [(0, 1), (1, 1)] := ⟨_, Try.underlying81, fun w => by simp [Sem.run_bind, run_sizeOf' tz3, run_sizeOf' tz22]⟩
theorem sl82 : SL Try.prog 82 81 2 := ⟨Try.underlying82, by kernel_rfl⟩
theorem co41 : CO Try.prog 41 := ⟨_, Try.func41, by kernel_rfl, by kernel_rfl⟩
theorem co42 : CO Try.prog 42 := ⟨_, Try.func42, by kernel_rfl, by kernel_rfl⟩
theorem ta31 : TA Try.prog 31 4 := ⟨⟨_, Try.underlying31, rfl⟩, by kernel_rfl⟩
theorem co43 : CO Try.prog 43 := ⟨_, Try.func43, by kernel_rfl, by kernel_rfl⟩
theorem zv31 : ZV Try.prog 31 (wdC 0) := ⟨.agg (wdC 0).toArray, by kernel_rfl, rfl⟩
theorem ar31 : AR Try.prog 31 4 1 := ⟨_, Try.underlying31, by kernel_rfl⟩
theorem eq31 : EQ Try.prog 31 wdC NW := EQ.wd Try.underlying31 Try.underlying29 (by kernel_rfl) (by kernel_rfl)
theorem fa81_1 : FA Try.prog 81 1 1 := ⟨_, _, Try.underlying81, rfl, rfl, 0, by kernel_rfl⟩
theorem co44 : CO Try.prog 44 := ⟨_, Try.func44, by kernel_rfl, by kernel_rfl⟩
theorem co45 : CO Try.prog 45 := ⟨_, Try.func45, by kernel_rfl, by kernel_rfl⟩
theorem fa81_0 : FA Try.prog 81 0 0 := ⟨_, _, Try.underlying81, rfl, rfl, 0, by kernel_rfl⟩
theorem co46 : CO Try.prog 46 := ⟨_, Try.func46, by kernel_rfl, by kernel_rfl⟩
theorem co47 : CO Try.prog 47 := ⟨_, Try.func47, by kernel_rfl, by kernel_rfl⟩
theorem zv94 : ZV Try.prog 94 ([Value.slice none 0 0]) := ⟨.agg ([Value.slice none 0 0]).toArray, by kernel_rfl, rfl⟩
theorem bs94 : BS Try.prog 94 [(0, 1)] := ⟨_, Try.underlying94, fun w => by simp [Sem.run_bind, run_sizeOf' tz22]⟩
theorem co48 : CO Try.prog 48 := ⟨_, Try.func48, by kernel_rfl, by kernel_rfl⟩
theorem co49 : CO Try.prog 49 := ⟨_, Try.func49, by kernel_rfl, by kernel_rfl⟩
theorem co50 : CO Try.prog 50 := ⟨_, Try.func50, by kernel_rfl, by kernel_rfl⟩
theorem ar28 : AR Try.prog 28 20 1 := ⟨_, Try.underlying28, by kernel_rfl⟩
theorem co51 : CO Try.prog 51 := ⟨_, Try.func51, by kernel_rfl, by kernel_rfl⟩
theorem co52 : CO Try.prog 52 := ⟨_, Try.func52, by kernel_rfl, by kernel_rfl⟩
theorem fa103_2 : FA Try.prog 103 2 21 := ⟨_, _, Try.underlying103, rfl, rfl, 0, by kernel_rfl⟩
theorem fa103_1 : FA Try.prog 103 1 20 := ⟨_, _, Try.underlying103, rfl, rfl, 0, by kernel_rfl⟩
theorem tz101 : (Try.prog.info? 101).map (·.size) = some 1 := by kernel_rfl
theorem ts101 : TS Try.prog 101 := ⟨⟨_, Try.underlying101, rfl⟩, by kernel_rfl⟩
theorem fa103_0 : FA Try.prog 103 0 0 := ⟨_, _, Try.underlying103, rfl, rfl, 19, by kernel_rfl⟩
theorem sl101 : SL Try.prog 101 31 4 := ⟨Try.underlying101, by kernel_rfl⟩
theorem ae101 : AE Try.prog 101 31 4 32 := ⟨Try.underlying101, by kernel_rfl, by kernel_rfl, ⟨.agg (wdC 0).toArray, by kernel_rfl, by kernel_rfl⟩, by decide⟩
theorem zv103 : ZV Try.prog 103 (adrC 0 ++ ([Value.slice none 0 0] ++ ([Value.slice none 0 0]))) := ⟨.agg (adrC 0 ++ ([Value.slice none 0 0] ++ ([Value.slice none 0 0]))).toArray, by kernel_rfl, rfl⟩
theorem bs103 : BS Try.prog 103 [(0, 20), (20, 1), (21, 1)] := ⟨_, Try.underlying103, fun w => by simp [Sem.run_bind, run_sizeOf' tz28, run_sizeOf' tz101, run_sizeOf' tz24]⟩
theorem tz103 : (Try.prog.info? 103).map (·.size) = some 22 := by kernel_rfl
theorem ta103 : TA Try.prog 103 22 := ⟨⟨_, Try.underlying103, rfl⟩, by kernel_rfl⟩
theorem co53 : CO Try.prog 53 := ⟨_, Try.func53, by kernel_rfl, by kernel_rfl⟩
theorem co54 : CO Try.prog 54 := ⟨_, Try.func54, by kernel_rfl, by kernel_rfl⟩
theorem co55 : CO Try.prog 55 := ⟨_, Try.func55, by kernel_rfl, by kernel_rfl⟩
theorem co56 : CO Try.prog 56 := ⟨_, Try.func56, by kernel_rfl, by kernel_rfl⟩
theorem co57 : CO Try.prog 57 := ⟨_, Try.func57, by kernel_rfl, by kernel_rfl⟩
theorem sl108 : SL Try.prog 108 103 22 := ⟨Try.underlying108, by kernel_rfl⟩
theorem co58 : CO Try.prog 58 := ⟨_, Try.func58, by kernel_rfl, by kernel_rfl⟩
theorem co59 : CO Try.prog 59 := ⟨_, Try.func59, by kernel_rfl, by kernel_rfl⟩
theorem co60 : CO Try.prog 60 := ⟨_, Try.func60, by kernel_rfl, by kernel_rfl⟩
theorem tz116 : (Try.prog.info? 116).map (·.size) = some 57 := by kernel_rfl
theorem ta116 : TA Try.prog 116 57 := ⟨⟨_, Try.underlying116, rfl⟩, by kernel_rfl⟩
theorem co61 : CO Try.prog 61 := ⟨_, Try.func61, by kernel_rfl, by kernel_rfl⟩
theorem co62 : CO Try.prog 62 := ⟨_, Try.func62, by kernel_rfl, by kernel_rfl⟩
theorem co63 : CO Try.prog 63 := ⟨_, Try.func63, by kernel_rfl, by kernel_rfl⟩
theorem tz119 : (Try.prog.info? 119).map (·.size) = some 33 := by kernel_rfl
theorem ta119 : TA Try.prog 119 33 := ⟨⟨_, Try.underlying119, rfl⟩, by kernel_rfl⟩
theorem co64 : CO Try.prog 64 := ⟨_, Try.func64, by kernel_rfl, by kernel_rfl⟩
theorem fa119_4 : FA Try.prog 119 4 23 := ⟨_, _, Try.underlying119, rfl, rfl, 3, by kernel_rfl⟩
theorem co65 : CO Try.prog 65 := ⟨_, Try.func65, by kernel_rfl, by kernel_rfl⟩
theorem fa116_6 : FA Try.prog 116 6 47 := ⟨_, _, Try.underlying116, rfl, rfl, 0, by kernel_rfl⟩
theorem ts29 : TS Try.prog 29 := ⟨⟨_, Try.underlying29, rfl⟩, by kernel_rfl⟩
theorem fa119_2 : FA Try.prog 119 2 2 := ⟨_, _, Try.underlying119, rfl, rfl, 0, by kernel_rfl⟩
theorem co68 : CO Try.prog 68 := ⟨_, Try.func68, by kernel_rfl, by kernel_rfl⟩
theorem co67 : CO Try.prog 67 := ⟨_, Try.func67, by kernel_rfl, by kernel_rfl⟩
theorem fa116_4 : FA Try.prog 116 4 42 := ⟨_, _, Try.underlying116, rfl, rfl, 3, by kernel_rfl⟩
theorem co66 : CO Try.prog 66 := ⟨_, Try.func66, by kernel_rfl, by kernel_rfl⟩
theorem fa116_0 : FA Try.prog 116 0 0 := ⟨_, _, Try.underlying116, rfl, rfl, 19, by kernel_rfl⟩
theorem co69 : CO Try.prog 69 := ⟨_, Try.func69, by kernel_rfl, by kernel_rfl⟩
theorem fa131_1 : FA Try.prog 131 1 4 := ⟨_, _, Try.underlying131, rfl, rfl, 3, by kernel_rfl⟩
theorem fa131_0 : FA Try.prog 131 0 0 := ⟨_, _, Try.underlying131, rfl, rfl, 3, by kernel_rfl⟩
theorem co70 : CO Try.prog 70 := ⟨_, Try.func70, by kernel_rfl, by kernel_rfl⟩
theorem kt28 : KT Try.prog 28 adrC NA := KT.adr Try.underlying28 Try.underlying5 (by kernel_rfl) (by kernel_rfl)
theorem zi34 : (Try.prog.info? 34).map (·.zero) = some (some (Value.agg (adrC 0 ++ ([Value.int .u64 0] ++ (wdC 0 ++ ([Value.slice none 0 0] ++ ([Value.slice none 0 0]))))).toArray)) := by kernel_rfl
theorem zi3 : (Try.prog.info? 3).map (·.zero) = some (some (Value.int .i64 0)) := by kernel_rfl
theorem zv136 : ZV Try.prog 136 ([Value.map none] ++ ([Value.map none])) := ⟨.agg ([Value.map none] ++ ([Value.map none])).toArray, by kernel_rfl, rfl⟩
theorem tz133 : (Try.prog.info? 133).map (·.size) = some 1 := by kernel_rfl
theorem tz134 : (Try.prog.info? 134).map (·.size) = some 1 := by kernel_rfl
theorem bs136 : BS Try.prog 136 [(0, 1), (1, 1)] := ⟨_, Try.underlying136, fun w => by simp [Sem.run_bind, run_sizeOf' tz133, run_sizeOf' tz134]⟩
theorem fa136_0 : FA Try.prog 136 0 0 := ⟨_, _, Try.underlying136, rfl, rfl, 0, by kernel_rfl⟩
theorem ts133 : TS Try.prog 133 := ⟨⟨_, Try.underlying133, rfl⟩, by kernel_rfl⟩
theorem fa136_1 : FA Try.prog 136 1 1 := ⟨_, _, Try.underlying136, rfl, rfl, 0, by kernel_rfl⟩
theorem ts134 : TS Try.prog 134 := ⟨⟨_, Try.underlying134, rfl⟩, by kernel_rfl⟩
theorem co71 : CO Try.prog 71 := ⟨_, Try.func71, by kernel_rfl, by kernel_rfl⟩
theorem co72 : CO Try.prog 72 := ⟨_, Try.func72, by kernel_rfl, by kernel_rfl⟩
theorem fa34_1 : FA Try.prog 34 1 20 := ⟨_, _, Try.underlying34, rfl, rfl, 0, by kernel_rfl⟩
theorem fa34_2 : FA Try.prog 34 2 21 := ⟨_, _, Try.underlying34, rfl, rfl, 3, by kernel_rfl⟩
theorem tz131 : (Try.prog.info? 131).map (·.size) = some 8 := by kernel_rfl
theorem ta131 : TA Try.prog 131 8 := ⟨⟨_, Try.underlying131, rfl⟩, by kernel_rfl⟩
theorem eqs131 : EQS Try.prog 131 := ⟨fun a b ha hb w => slot_eq (wt := 31) Try.underlying31 Try.underlying29 (by kernel_rfl) (by kernel_rfl) (by kernel_rfl) (by kernel_rfl) (by kernel_rfl) a b ha hb w, by kernel_rfl⟩
theorem zv139 : ZV Try.prog 139 ([Value.int .i64 0] ++ ([Value.map none])) := ⟨.agg ([Value.int .i64 0] ++ ([Value.map none])).toArray, by kernel_rfl, rfl⟩
theorem bs139 : BS Try.prog 139 [(0, 1), (1, 1)] := ⟨_, Try.underlying139, fun w => by simp [Sem.run_bind, run_sizeOf' tz3, run_sizeOf' tz133]⟩
theorem sl140 : SL Try.prog 140 139 2 := ⟨Try.underlying140, by kernel_rfl⟩
theorem zv142 : ZV Try.prog 142 ([Value.slice none 0 0]) := ⟨.agg ([Value.slice none 0 0]).toArray, by kernel_rfl, rfl⟩
theorem tz140 : (Try.prog.info? 140).map (·.size) = some 1 := by kernel_rfl
theorem bs142 : BS Try.prog 142 [(0, 1)] := ⟨_, Try.underlying142, fun w => by simp [Sem.run_bind, run_sizeOf' tz140]⟩
theorem co73 : CO Try.prog 73 := ⟨_, Try.func73, by kernel_rfl, by kernel_rfl⟩
theorem co74 : CO Try.prog 74 := ⟨_, Try.func74, by kernel_rfl, by kernel_rfl⟩
theorem fa142_0 : FA Try.prog 142 0 0 := ⟨_, _, Try.underlying142, rfl, rfl, 0, by kernel_rfl⟩
theorem ts140 : TS Try.prog 140 := ⟨⟨_, Try.underlying140, rfl⟩, by kernel_rfl⟩
theorem tz139 : (Try.prog.info? 139).map (·.size) = some 2 := by kernel_rfl
theorem ta139 : TA Try.prog 139 2 := ⟨⟨_, Try.underlying139, rfl⟩, by kernel_rfl⟩
theorem fa139_1 : FA Try.prog 139 1 1 := ⟨_, _, Try.underlying139, rfl, rfl, 0, by kernel_rfl⟩
theorem co76 : CO Try.prog 76 := ⟨_, Try.func76, by kernel_rfl, by kernel_rfl⟩
theorem ae140 : AE Try.prog 140 139 2 16 := ⟨Try.underlying140, by kernel_rfl, by kernel_rfl, ⟨.agg ([Value.int .i64 0] ++ ([Value.map none])).toArray, by kernel_rfl, by kernel_rfl⟩, by decide⟩
theorem zv66 : ZV Try.prog 66 (adrC 0 ++ ([Value.int .i64 0])) := ⟨.agg (adrC 0 ++ ([Value.int .i64 0])).toArray, by kernel_rfl, rfl⟩
theorem ae49 : AE Try.prog 49 66 21 32 := ⟨Try.underlying49, by kernel_rfl, by kernel_rfl, ⟨.agg (adrC 0 ++ ([Value.int .i64 0])).toArray, by kernel_rfl, by kernel_rfl⟩, by decide⟩
theorem bs66 : BS Try.prog 66 [(0, 20), (20, 1)] := ⟨_, Try.underlying66, fun w => by simp [Sem.run_bind, run_sizeOf' tz28, run_sizeOf' tz3]⟩
theorem co77 : CO Try.prog 77 := ⟨_, Try.func77, by kernel_rfl, by kernel_rfl⟩
theorem co78 : CO Try.prog 78 := ⟨_, Try.func78, by kernel_rfl, by kernel_rfl⟩
theorem zv148 : ZV Try.prog 148 ([Value.pointer none] ++ ([Value.int .i64 0] ++ ([Value.pointer none]))) := ⟨.agg ([Value.pointer none] ++ ([Value.int .i64 0] ++ ([Value.pointer none]))).toArray, by kernel_rfl, rfl⟩
theorem tz44 : (Try.prog.info? 44).map (·.size) = some 1 := by kernel_rfl
theorem tz36 : (Try.prog.info? 36).map (·.size) = some 1 := by kernel_rfl
theorem bs148 : BS Try.prog 148 [(0, 1), (1, 1), (2, 1)] := ⟨_, Try.underlying148, fun w => by simp [Sem.run_bind, run_sizeOf' tz44, run_sizeOf' tz3, run_sizeOf' tz36]⟩
theorem fa66_0 : FA Try.prog 66 0 0 := ⟨_, _, Try.underlying66, rfl, rfl, 19, by kernel_rfl⟩
theorem ae23 : AE Try.prog 23 28 20 20 := ⟨Try.underlying23, by kernel_rfl, by kernel_rfl, ⟨.agg (adrC 0).toArray, by kernel_rfl, by kernel_rfl⟩, by decide⟩
theorem co79 : CO Try.prog 79 := ⟨_, Try.func79, by kernel_rfl, by kernel_rfl⟩
theorem co80 : CO Try.prog 80 := ⟨_, Try.func80, by kernel_rfl, by kernel_rfl⟩
theorem zi4 : (Try.prog.info? 4).map (·.zero) = some (some (Value.bool false)) := by kernel_rfl
theorem co81 : CO Try.prog 81 := ⟨_, Try.func81, by kernel_rfl, by kernel_rfl⟩
theorem fa139_0 : FA Try.prog 139 0 0 := ⟨_, _, Try.underlying139, rfl, rfl, 0, by kernel_rfl⟩
theorem co82 : CO Try.prog 82 := ⟨_, Try.func82, by kernel_rfl, by kernel_rfl⟩
theorem co84 : CO Try.prog 84 := ⟨_, Try.func84, by kernel_rfl, by kernel_rfl⟩
theorem ae82 : AE Try.prog 82 81 2 32 := ⟨Try.underlying82, by kernel_rfl, by kernel_rfl, ⟨.agg ([Value.int .i64 0] ++ ([Value.slice none 0 0])).toArray, by kernel_rfl, by kernel_rfl⟩, by decide⟩
theorem co85 : CO Try.prog 85 := ⟨_, Try.func85, by kernel_rfl, by kernel_rfl⟩
theorem co88 : CO Try.prog 88 := ⟨_, Try.func88, by kernel_rfl, by kernel_rfl⟩
theorem co89 : CO Try.prog 89 := ⟨_, Try.func89, by kernel_rfl, by kernel_rfl⟩
theorem co90 : CO Try.prog 90 := ⟨_, Try.func90, by kernel_rfl, by kernel_rfl⟩
theorem zv159 : ZV Try.prog 159 ([Value.slice none 0 0]) := ⟨.agg ([Value.slice none 0 0]).toArray, by kernel_rfl, rfl⟩
theorem bs159 : BS Try.prog 159 [(0, 1)] := ⟨_, Try.underlying159, fun w => by simp [Sem.run_bind, run_sizeOf' tz22]⟩
theorem zi168 : (Try.prog.info? 168).map (·.zero) = some (some (Value.pointer none)) := by kernel_rfl
theorem zv163 : ZV Try.prog 163 ([Value.nilIface] ++ ([Value.map none] ++ ([Value.int .i64 0] ++ ([Value.slice none 0 0] ++ ([Value.slice none 0 0] ++ ([Value.slice none 0 0])))))) := ⟨.agg ([Value.nilIface] ++ ([Value.map none] ++ ([Value.int .i64 0] ++ ([Value.slice none 0 0] ++ ([Value.slice none 0 0] ++ ([Value.slice none 0 0])))))).toArray, by kernel_rfl, rfl⟩
theorem tz57 : (Try.prog.info? 57).map (·.size) = some 1 := by kernel_rfl
theorem tz160 : (Try.prog.info? 160).map (·.size) = some 1 := by kernel_rfl
theorem tz2 : (Try.prog.info? 2).map (·.size) = some 1 := by kernel_rfl
theorem tz108 : (Try.prog.info? 108).map (·.size) = some 1 := by kernel_rfl
theorem tz161 : (Try.prog.info? 161).map (·.size) = some 1 := by kernel_rfl
theorem tz23 : (Try.prog.info? 23).map (·.size) = some 1 := by kernel_rfl
theorem bs163 : BS Try.prog 163 [(0, 1), (1, 1), (2, 1), (3, 1), (4, 1), (5, 1)] := ⟨_, Try.underlying163, fun w => by simp [Sem.run_bind, run_sizeOf' tz57, run_sizeOf' tz160, run_sizeOf' tz2, run_sizeOf' tz108, run_sizeOf' tz161, run_sizeOf' tz23]⟩
theorem co91 : CO Try.prog 91 := ⟨_, Try.func91, by kernel_rfl, by kernel_rfl⟩
theorem fa167_1 : FA Try.prog 167 1 27 := ⟨_, _, Try.underlying167, rfl, rfl, 26, by kernel_rfl⟩
theorem fa163_5 : FA Try.prog 163 5 5 := ⟨_, _, Try.underlying163, rfl, rfl, 0, by kernel_rfl⟩
theorem ts23 : TS Try.prog 23 := ⟨⟨_, Try.underlying23, rfl⟩, by kernel_rfl⟩
theorem co92 : CO Try.prog 92 := ⟨_, Try.func92, by kernel_rfl, by kernel_rfl⟩
theorem co93 : CO Try.prog 93 := ⟨_, Try.func93, by kernel_rfl, by kernel_rfl⟩
theorem zv168 : ZV Try.prog 168 ([Value.pointer none]) := ⟨Value.pointer none, by kernel_rfl, rfl⟩
theorem tz168 : (Try.prog.info? 168).map (·.size) = some 1 := by kernel_rfl
theorem ts168 : TS Try.prog 168 := ⟨⟨_, Try.underlying168, rfl⟩, by kernel_rfl⟩
theorem zv24 : ZV Try.prog 24 ([Value.slice none 0 0]) := ⟨Value.slice none 0 0, by kernel_rfl, rfl⟩
theorem co94 : CO Try.prog 94 := ⟨_, Try.func94, by kernel_rfl, by kernel_rfl⟩
theorem tz91 : (Try.prog.info? 91).map (·.size) = some 1 := by kernel_rfl
theorem ts91 : TS Try.prog 91 := ⟨⟨_, Try.underlying91, rfl⟩, by kernel_rfl⟩
theorem fa163_3 : FA Try.prog 163 3 3 := ⟨_, _, Try.underlying163, rfl, rfl, 0, by kernel_rfl⟩
theorem ts108 : TS Try.prog 108 := ⟨⟨_, Try.underlying108, rfl⟩, by kernel_rfl⟩
theorem zv3 : ZV Try.prog 3 ([Value.int .i64 0]) := ⟨Value.int .i64 0, by kernel_rfl, rfl⟩
theorem co97 : CO Try.prog 97 := ⟨_, Try.func97, by kernel_rfl, by kernel_rfl⟩
theorem ae108 : AE Try.prog 108 103 22 72 := ⟨Try.underlying108, by kernel_rfl, by kernel_rfl, ⟨.agg (adrC 0 ++ ([Value.slice none 0 0] ++ ([Value.slice none 0 0]))).toArray, by kernel_rfl, by kernel_rfl⟩, by decide⟩
theorem fa167_3 : FA Try.prog 167 3 55 := ⟨_, _, Try.underlying167, rfl, rfl, 0, by kernel_rfl⟩
theorem tz164 : (Try.prog.info? 164).map (·.size) = some 1 := by kernel_rfl
theorem ts164 : TS Try.prog 164 := ⟨⟨_, Try.underlying164, rfl⟩, by kernel_rfl⟩
theorem zv164 : ZV Try.prog 164 ([Value.map none]) := ⟨Value.map none, by kernel_rfl, rfl⟩
theorem kt31 : KT Try.prog 31 wdC NW := KT.wd Try.underlying31 Try.underlying29 (by kernel_rfl) (by kernel_rfl)
theorem zi31 : (Try.prog.info? 31).map (·.zero) = some (some (Value.agg (wdC 0).toArray)) := by kernel_rfl
theorem zv4 : ZV Try.prog 4 ([Value.bool false]) := ⟨Value.bool false, by kernel_rfl, rfl⟩
theorem tz4 : (Try.prog.info? 4).map (·.size) = some 1 := by kernel_rfl
theorem ts4 : TS Try.prog 4 := ⟨⟨_, Try.underlying4, rfl⟩, by kernel_rfl⟩
theorem fa163_1 : FA Try.prog 163 1 1 := ⟨_, _, Try.underlying163, rfl, rfl, 0, by kernel_rfl⟩
theorem ts160 : TS Try.prog 160 := ⟨⟨_, Try.underlying160, rfl⟩, by kernel_rfl⟩
theorem fa167_4 : FA Try.prog 167 4 56 := ⟨_, _, Try.underlying167, rfl, rfl, 0, by kernel_rfl⟩
theorem co99 : CO Try.prog 99 := ⟨_, Try.func99, by kernel_rfl, by kernel_rfl⟩
theorem fa167_0 : FA Try.prog 167 0 0 := ⟨_, _, Try.underlying167, rfl, rfl, 26, by kernel_rfl⟩
theorem co100 : CO Try.prog 100 := ⟨_, Try.func100, by kernel_rfl, by kernel_rfl⟩
theorem co102 : CO Try.prog 102 := ⟨_, Try.func102, by kernel_rfl, by kernel_rfl⟩
theorem fa116_5 : FA Try.prog 116 5 46 := ⟨_, _, Try.underlying116, rfl, rfl, 0, by kernel_rfl⟩
theorem fa116_9 : FA Try.prog 116 9 56 := ⟨_, _, Try.underlying116, rfl, rfl, 0, by kernel_rfl⟩
theorem tz114 : (Try.prog.info? 114).map (·.size) = some 1 := by kernel_rfl
theorem ts114 : TS Try.prog 114 := ⟨⟨_, Try.underlying114, rfl⟩, by kernel_rfl⟩
theorem sl114 : SL Try.prog 114 176 21 := ⟨Try.underlying114, by kernel_rfl⟩
theorem fa176_1 : FA Try.prog 176 1 20 := ⟨_, _, Try.underlying176, rfl, rfl, 0, by kernel_rfl⟩
theorem zv116 : ZV Try.prog 116 (adrC 0 ++ (adrC 0 ++ ([Value.bool false] ++ ([Value.int .u64 0] ++ (wdC 0 ++ ([Value.slice none 0 0] ++ ([Value.int .u64 0] ++ (wdC 0 ++ (wdC 0 ++ ([Value.slice none 0 0])))))))))) := ⟨.agg (adrC 0 ++ (adrC 0 ++ ([Value.bool false] ++ ([Value.int .u64 0] ++ (wdC 0 ++ ([Value.slice none 0 0] ++ ([Value.int .u64 0] ++ (wdC 0 ++ (wdC 0 ++ ([Value.slice none 0 0])))))))))).toArray, by kernel_rfl, rfl⟩
theorem bs116 : BS Try.prog 116 [(0, 20), (20, 20), (40, 1), (41, 1), (42, 4), (46, 1), (47, 1), (48, 4), (52, 4), (56, 1)] := ⟨_, Try.underlying116, fun w => by simp [Sem.run_bind, run_sizeOf' tz28, run_sizeOf' tz28, run_sizeOf' tz4, run_sizeOf' tz29, run_sizeOf' tz31, run_sizeOf' tz24, run_sizeOf' tz29, run_sizeOf' tz31, run_sizeOf' tz31, run_sizeOf' tz114]⟩
theorem co103 : CO Try.prog 103 := ⟨_, Try.func103, by kernel_rfl, by kernel_rfl⟩
theorem co104 : CO Try.prog 104 := ⟨_, Try.func104, by kernel_rfl, by kernel_rfl⟩
theorem fa116_3 : FA Try.prog 116 3 41 := ⟨_, _, Try.underlying116, rfl, rfl, 0, by kernel_rfl⟩
theorem fa116_7 : FA Try.prog 116 7 48 := ⟨_, _, Try.underlying116, rfl, rfl, 3, by kernel_rfl⟩
theorem co87 : CO Try.prog 87 := ⟨_, Try.func87, by kernel_rfl, by kernel_rfl⟩
theorem co105 : CO Try.prog 105 := ⟨_, Try.func105, by kernel_rfl, by kernel_rfl⟩
theorem fa116_8 : FA Try.prog 116 8 52 := ⟨_, _, Try.underlying116, rfl, rfl, 3, by kernel_rfl⟩
theorem co106 : CO Try.prog 106 := ⟨_, Try.func106, by kernel_rfl, by kernel_rfl⟩
theorem sl125 : SL Try.prog 125 3 1 := ⟨Try.underlying125, by kernel_rfl⟩
theorem co107 : CO Try.prog 107 := ⟨_, Try.func107, by kernel_rfl, by kernel_rfl⟩
theorem ae125 : AE Try.prog 125 3 1 8 := ⟨Try.underlying125, by kernel_rfl, by kernel_rfl, ⟨Value.int .i64 0, by kernel_rfl, by kernel_rfl⟩, by decide⟩
theorem co108 : CO Try.prog 108 := ⟨_, Try.func108, by kernel_rfl, by kernel_rfl⟩
theorem zv182 : ZV Try.prog 182 (dC 0) := ⟨.agg (dC 0).toArray, by kernel_rfl, rfl⟩
theorem tz182 : (Try.prog.info? 182).map (·.size) = some 32 := by kernel_rfl
theorem ta182 : TA Try.prog 182 32 := ⟨⟨_, Try.underlying182, rfl⟩, by kernel_rfl⟩
theorem ar182 : AR Try.prog 182 32 1 := ⟨_, Try.underlying182, by kernel_rfl⟩
theorem co109 : CO Try.prog 109 := ⟨_, Try.func109, by kernel_rfl, by kernel_rfl⟩
theorem co110 : CO Try.prog 110 := ⟨_, Try.func110, by kernel_rfl, by kernel_rfl⟩
theorem tz66 : (Try.prog.info? 66).map (·.size) = some 21 := by kernel_rfl
theorem ta66 : TA Try.prog 66 21 := ⟨⟨_, Try.underlying66, rfl⟩, by kernel_rfl⟩
theorem co111 : CO Try.prog 111 := ⟨_, Try.func111, by kernel_rfl, by kernel_rfl⟩
theorem co113 : CO Try.prog 113 := ⟨_, Try.func113, by kernel_rfl, by kernel_rfl⟩
theorem co112 : CO Try.prog 112 := ⟨_, Try.func112, by kernel_rfl, by kernel_rfl⟩
theorem co114 : CO Try.prog 114 := ⟨_, Try.func114, by kernel_rfl, by kernel_rfl⟩
theorem co115 : CO Try.prog 115 := ⟨_, Try.func115, by kernel_rfl, by kernel_rfl⟩
theorem fa163_4 : FA Try.prog 163 4 4 := ⟨_, _, Try.underlying163, rfl, rfl, 0, by kernel_rfl⟩
theorem ts161 : TS Try.prog 161 := ⟨⟨_, Try.underlying161, rfl⟩, by kernel_rfl⟩
theorem sl161 : SL Try.prog 161 1 1 := ⟨Try.underlying161, by kernel_rfl⟩
theorem tz1 : (Try.prog.info? 1).map (·.size) = some 1 := by kernel_rfl
theorem ts1 : TS Try.prog 1 := ⟨⟨_, Try.underlying1, rfl⟩, by kernel_rfl⟩
theorem fa163_0 : FA Try.prog 163 0 0 := ⟨_, _, Try.underlying163, rfl, rfl, 0, by kernel_rfl⟩
theorem ts57 : TS Try.prog 57 := ⟨⟨_, Try.underlying57, rfl⟩, by kernel_rfl⟩
theorem zv167 : ZV Try.prog 167 (adrC 0 ++ ([Value.int .u64 0] ++ (wdC 0 ++ ([Value.slice none 0 0] ++ ([Value.slice none 0 0] ++ (adrC 0 ++ ([Value.int .u64 0] ++ (wdC 0 ++ ([Value.slice none 0 0] ++ ([Value.slice none 0 0] ++ ([Value.bool false] ++ ([Value.map none] ++ ([Value.bool false] ++ ([Value.bool false] ++ ([Value.map none]))))))))))))))) := ⟨.agg (adrC 0 ++ ([Value.int .u64 0] ++ (wdC 0 ++ ([Value.slice none 0 0] ++ ([Value.slice none 0 0] ++ (adrC 0 ++ ([Value.int .u64 0] ++ (wdC 0 ++ ([Value.slice none 0 0] ++ ([Value.slice none 0 0] ++ ([Value.bool false] ++ ([Value.map none] ++ ([Value.bool false] ++ ([Value.bool false] ++ ([Value.map none]))))))))))))))).toArray, by kernel_rfl, rfl⟩
theorem tz165 : (Try.prog.info? 165).map (·.size) = some 1 := by kernel_rfl
theorem bs167 : BS Try.prog 167 [(0, 27), (27, 27), (54, 1), (55, 1), (56, 1), (57, 1), (58, 1)] := ⟨_, Try.underlying167, fun w => by simp [Sem.run_bind, run_sizeOf' tz34, run_sizeOf' tz34, run_sizeOf' tz4, run_sizeOf' tz164, run_sizeOf' tz4, run_sizeOf' tz4, run_sizeOf' tz165]⟩
theorem zv1 : ZV Try.prog 1 ([Value.nilFunc]) := ⟨Value.nilFunc, by kernel_rfl, rfl⟩
theorem ae161 : AE Try.prog 161 1 1 8 := ⟨Try.underlying161, by kernel_rfl, by kernel_rfl, ⟨Value.nilFunc, by kernel_rfl, by kernel_rfl⟩, by decide⟩
theorem co116 : CO Try.prog 116 := ⟨_, Try.func116, by kernel_rfl, by kernel_rfl⟩
theorem fa167_2 : FA Try.prog 167 2 54 := ⟨_, _, Try.underlying167, rfl, rfl, 0, by kernel_rfl⟩
theorem bs131 : BS Try.prog 131 [(0, 4), (4, 4)] := ⟨_, Try.underlying131, fun w => by simp [Sem.run_bind, run_sizeOf' tz31, run_sizeOf' tz31]⟩
theorem co117 : CO Try.prog 117 := ⟨_, Try.func117, by kernel_rfl, by kernel_rfl⟩
theorem co119 : CO Try.prog 119 := ⟨_, Try.func119, by kernel_rfl, by kernel_rfl⟩
theorem co120 : CO Try.prog 120 := ⟨_, Try.func120, by kernel_rfl, by kernel_rfl⟩
theorem co121 : CO Try.prog 121 := ⟨_, Try.func121, by kernel_rfl, by kernel_rfl⟩
theorem co123 : CO Try.prog 123 := ⟨_, Try.func123, by kernel_rfl, by kernel_rfl⟩
theorem co122 : CO Try.prog 122 := ⟨_, Try.func122, by kernel_rfl, by kernel_rfl⟩
theorem co124 : CO Try.prog 124 := ⟨_, Try.func124, by kernel_rfl, by kernel_rfl⟩
theorem fa116_2 : FA Try.prog 116 2 40 := ⟨_, _, Try.underlying116, rfl, rfl, 0, by kernel_rfl⟩
theorem co125 : CO Try.prog 125 := ⟨_, Try.func125, by kernel_rfl, by kernel_rfl⟩
theorem co128 : CO Try.prog 128 := ⟨_, Try.func128, by kernel_rfl, by kernel_rfl⟩
theorem co129 : CO Try.prog 129 := ⟨_, Try.func129, by kernel_rfl, by kernel_rfl⟩
theorem co130 : CO Try.prog 130 := ⟨_, Try.func130, by kernel_rfl, by kernel_rfl⟩
theorem co131 : CO Try.prog 131 := ⟨_, Try.func131, by kernel_rfl, by kernel_rfl⟩
theorem co132 : CO Try.prog 132 := ⟨_, Try.func132, by kernel_rfl, by kernel_rfl⟩
theorem co133 : CO Try.prog 133 := ⟨_, Try.func133, by kernel_rfl, by kernel_rfl⟩
theorem co134 : CO Try.prog 134 := ⟨_, Try.func134, by kernel_rfl, by kernel_rfl⟩
theorem co135 : CO Try.prog 135 := ⟨_, Try.func135, by kernel_rfl, by kernel_rfl⟩
theorem co136 : CO Try.prog 136 := ⟨_, Try.func136, by kernel_rfl, by kernel_rfl⟩
theorem co137 : CO Try.prog 137 := ⟨_, Try.func137, by kernel_rfl, by kernel_rfl⟩
theorem co139 : CO Try.prog 139 := ⟨_, Try.func139, by kernel_rfl, by kernel_rfl⟩
theorem co140 : CO Try.prog 140 := ⟨_, Try.func140, by kernel_rfl, by kernel_rfl⟩
theorem co141 : CO Try.prog 141 := ⟨_, Try.func141, by kernel_rfl, by kernel_rfl⟩
theorem co142 : CO Try.prog 142 := ⟨_, Try.func142, by kernel_rfl, by kernel_rfl⟩
theorem co143 : CO Try.prog 143 := ⟨_, Try.func143, by kernel_rfl, by kernel_rfl⟩
theorem co144 : CO Try.prog 144 := ⟨_, Try.func144, by kernel_rfl, by kernel_rfl⟩
theorem co145 : CO Try.prog 145 := ⟨_, Try.func145, by kernel_rfl, by kernel_rfl⟩
theorem co146 : CO Try.prog 146 := ⟨_, Try.func146, by kernel_rfl, by kernel_rfl⟩
theorem co147 : CO Try.prog 147 := ⟨_, Try.func147, by kernel_rfl, by kernel_rfl⟩
theorem zv220 : ZV Try.prog 220 (List.replicate 8 (Value.int .u64 0)) := ⟨.agg (List.replicate 8 (Value.int .u64 0)).toArray, by kernel_rfl, rfl⟩
theorem co149 : CO Try.prog 149 := ⟨_, Try.func149, by kernel_rfl, by kernel_rfl⟩
theorem ar220 : AR Try.prog 220 8 1 := ⟨_, Try.underlying220, by kernel_rfl⟩
theorem tz176 : (Try.prog.info? 176).map (·.size) = some 21 := by kernel_rfl
theorem ta176 : TA Try.prog 176 21 := ⟨⟨_, Try.underlying176, rfl⟩, by kernel_rfl⟩
theorem zv176 : ZV Try.prog 176 (adrC 0 ++ ([Value.slice none 0 0])) := ⟨.agg (adrC 0 ++ ([Value.slice none 0 0])).toArray, by kernel_rfl, rfl⟩
theorem co150 : CO Try.prog 150 := ⟨_, Try.func150, by kernel_rfl, by kernel_rfl⟩
theorem co151 : CO Try.prog 151 := ⟨_, Try.func151, by kernel_rfl, by kernel_rfl⟩
theorem zv224 : ZV Try.prog 224 ([Value.int .u64 0]) := ⟨Value.int .u64 0, by kernel_rfl, rfl⟩
theorem tz224 : (Try.prog.info? 224).map (·.size) = some 1 := by kernel_rfl
theorem ts224 : TS Try.prog 224 := ⟨⟨_, Try.underlying224, rfl⟩, by kernel_rfl⟩
theorem co152 : CO Try.prog 152 := ⟨_, Try.func152, by kernel_rfl, by kernel_rfl⟩
theorem co153 : CO Try.prog 153 := ⟨_, Try.func153, by kernel_rfl, by kernel_rfl⟩
theorem co154 : CO Try.prog 154 := ⟨_, Try.func154, by kernel_rfl, by kernel_rfl⟩
theorem co155 : CO Try.prog 155 := ⟨_, Try.func155, by kernel_rfl, by kernel_rfl⟩
theorem co156 : CO Try.prog 156 := ⟨_, Try.func156, by kernel_rfl, by kernel_rfl⟩
theorem co157 : CO Try.prog 157 := ⟨_, Try.func157, by kernel_rfl, by kernel_rfl⟩
theorem co158 : CO Try.prog 158 := ⟨_, Try.func158, by kernel_rfl, by kernel_rfl⟩
theorem co159 : CO Try.prog 159 := ⟨_, Try.func159, by kernel_rfl, by kernel_rfl⟩
theorem co160 : CO Try.prog 160 := ⟨_, Try.func160, by kernel_rfl, by kernel_rfl⟩
theorem co161 : CO Try.prog 161 := ⟨_, Try.func161, by kernel_rfl, by kernel_rfl⟩
theorem co162 : CO Try.prog 162 := ⟨_, Try.func162, by kernel_rfl, by kernel_rfl⟩
theorem co163 : CO Try.prog 163 := ⟨_, Try.func163, by kernel_rfl, by kernel_rfl⟩
theorem co164 : CO Try.prog 164 := ⟨_, Try.func164, by kernel_rfl, by kernel_rfl⟩
theorem co165 : CO Try.prog 165 := ⟨_, Try.func165, by kernel_rfl, by kernel_rfl⟩
theorem co166 : CO Try.prog 166 := ⟨_, Try.func166, by kernel_rfl, by kernel_rfl⟩
theorem co167 : CO Try.prog 167 := ⟨_, Try.func167, by kernel_rfl, by kernel_rfl⟩
theorem co168 : CO Try.prog 168 := ⟨_, Try.func168, by kernel_rfl, by kernel_rfl⟩
theorem co169 : CO Try.prog 169 := ⟨_, Try.func169, by kernel_rfl, by kernel_rfl⟩
theorem co170 : CO Try.prog 170 := ⟨_, Try.func170, by kernel_rfl, by kernel_rfl⟩
theorem co171 : CO Try.prog 171 := ⟨_, Try.func171, by kernel_rfl, by kernel_rfl⟩
theorem co172 : CO Try.prog 172 := ⟨_, Try.func172, by kernel_rfl, by kernel_rfl⟩
theorem co173 : CO Try.prog 173 := ⟨_, Try.func173, by kernel_rfl, by kernel_rfl⟩
theorem co174 : CO Try.prog 174 := ⟨_, Try.func174, by kernel_rfl, by kernel_rfl⟩
theorem fa94_0 : FA Try.prog 94 0 0 := ⟨_, _, Try.underlying94, rfl, rfl, 0, by kernel_rfl⟩
theorem fa148_0 : FA Try.prog 148 0 0 := ⟨_, _, Try.underlying148, rfl, rfl, 0, by kernel_rfl⟩
theorem ts44 : TS Try.prog 44 := ⟨⟨_, Try.underlying44, rfl⟩, by kernel_rfl⟩
theorem fa148_1 : FA Try.prog 148 1 1 := ⟨_, _, Try.underlying148, rfl, rfl, 0, by kernel_rfl⟩
theorem fa148_2 : FA Try.prog 148 2 2 := ⟨_, _, Try.underlying148, rfl, rfl, 0, by kernel_rfl⟩
theorem ts36 : TS Try.prog 36 := ⟨⟨_, Try.underlying36, rfl⟩, by kernel_rfl⟩
theorem fa159_0 : FA Try.prog 159 0 0 := ⟨_, _, Try.underlying159, rfl, rfl, 0, by kernel_rfl⟩
end Go.Proofs.Ytafmgghpcneoeaa
