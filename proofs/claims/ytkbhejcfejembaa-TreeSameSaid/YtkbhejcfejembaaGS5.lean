/- The seat's functions, each as a Lean function over plain values, and that the evaluator comes to it: written by my program mkS.py. No condition. -/
import Derived.Test.YtkbhejcfejembaaGS4
import Derived.KernelRfl
import Derived.Test.YtkbhejcfejembaaProg
set_option linter.all false
namespace Go.Proofs.Ytkbhejcfejembaa.S
open Go Go.AM Go.Proofs
set_option linter.unusedVariables false
noncomputable def S4.b1 (call : CallF) (it : LoopF) (base lb : Nat) (vs72 : List PV) (st73 : St) : Option (Ex × List PV × St) :=
(aBin Try.prog false .lss 3 (nth vs72 9) (nth vs72 8)).bind fun p74 =>
onBool p74 fun b75 => (bif b75 then
some (Ex.normal, [(nth vs72 0), (nth vs72 1), (nth vs72 2), (nth vs72 3), (nth vs72 4), (nth vs72 5), (nth vs72 6), (nth vs72 7), (nth vs72 8), (nth vs72 9)], st73)
else
some ((Ex.exit 2), [(nth vs72 0), (nth vs72 1), (nth vs72 2), (nth vs72 3), (nth vs72 4), (nth vs72 5), (nth vs72 6), (nth vs72 7), (nth vs72 8), (nth vs72 9)], st73)).bind fun r76 =>
seqK r76.1 ((aIndexAddr Try.prog 27 (nth r76.2.1 7) (nth r76.2.1 9)).bind fun p78 =>
(aLoad true 3 p78 r76.2.2).bind fun p79 =>
let q81 : PV := .ptr false r76.2.2.stk.length 0
let st80 := r76.2.2.push [.sl [] .nil, .v (.int .i64 0), .v (.int .i64 0)]
(aStore base 3 q81 p79 st80).bind fun st82 =>
(shift (nth r76.2.1 3) 0).bind fun p83 =>
(aLoad false 1 p83 st82).bind fun p84 =>
need (st82 = st82) <|
(shift q81 0).bind fun p85 =>
(aLoad false 1 p85 st82).bind fun p86 =>
need (st82 = st82) <|
(call (.func 10) [canon p84, canon p86] st82).bind fun r87 =>
need (r87.2 = st82) <|
(shift (nth r76.2.1 3) 0).bind fun p88 =>
(aLoad false 1 p88 st82).bind fun p89 =>
need (st82 = st82) <|
(call (.func 15) [canon p89] st82).bind fun r90 =>
need (r90.2 = st82) <|
(shift q81 0).bind fun p91 =>
(aLoad false 1 p91 st82).bind fun p92 =>
need (st82 = st82) <|
(call (.func 15) [canon p92] st82).bind fun r93 =>
need (r93.2 = st82) <|
(call (.func 13) [canon r90.1, canon r93.1] st82).bind fun r94 =>
need (r94.2 = st82) <|
(aBin Try.prog false .neq 4 r87.1 r94.1).bind fun p95 =>
onBool p95 fun b96 => (bif b96 then
some (Ex.ret, [(PV.v (.bool false)), (nth r76.2.1 1), (nth r76.2.1 2), (nth r76.2.1 3), (nth r76.2.1 9), q81, (nth r76.2.1 4), (nth r76.2.1 5), (nth r76.2.1 6), (nth r76.2.1 7), (nth r76.2.1 8), (nth r76.2.1 9)], st82)
else
some (Ex.normal, [(nth r76.2.1 0), (nth r76.2.1 1), (nth r76.2.1 2), (nth r76.2.1 3), (nth r76.2.1 9), q81, (nth r76.2.1 4), (nth r76.2.1 5), (nth r76.2.1 6), (nth r76.2.1 7), (nth r76.2.1 8), (nth r76.2.1 9)], st82)).bind fun r97 =>
seqK r97.1 ((shift (nth r97.2.1 3) 0).bind fun p99 =>
(aLoad false 1 p99 r97.2.2).bind fun p100 =>
need (r97.2.2 = r97.2.2) <|
(aLen Try.prog 31 p100).bind fun p101 =>
(aBin Try.prog true .gtr 3 p101 (PV.v (.int .i64 0))).bind fun p102 =>
(onG p102 true (
(shift (nth r97.2.1 5) 0).bind fun p105 =>
some (p105, r97.2.2)) r97.2.2).bind fun r104 =>
(onG p102 true (
(aLoad false 1 r104.1 r97.2.2).bind fun p108 =>
some (p108, r97.2.2)) r97.2.2).bind fun r107 =>
need (r107.2 = r97.2.2) <|
(onG p102 true (
(aLen Try.prog 31 r107.1).bind fun p111 =>
some (p111, r97.2.2)) r97.2.2).bind fun r110 =>
(onG p102 true (
(aBin Try.prog true .gtr 3 r110.1 (PV.v (.int .i64 0))).bind fun p114 =>
some (p114, r97.2.2)) r97.2.2).bind fun r113 =>
(aPick p102 r113.1 (PV.v (.bool false))).bind fun p115 =>
(onG p115 true (
(shift (nth r97.2.1 3) 0).bind fun p118 =>
some (p118, r97.2.2)) r97.2.2).bind fun r117 =>
(onG p115 true (
(aLoad false 1 r117.1 r97.2.2).bind fun p121 =>
some (p121, r97.2.2)) r97.2.2).bind fun r120 =>
need (r120.2 = r97.2.2) <|
(onG p115 true (
(aIndexAddr Try.prog 31 r120.1 (PV.v (.int .i64 0))).bind fun p124 =>
some (p124, r97.2.2)) r97.2.2).bind fun r123 =>
(onG p115 true (
(shift r123.1 43).bind fun p127 =>
some (p127, r97.2.2)) r97.2.2).bind fun r126 =>
(onG p115 true (
(aLoad true 9 r126.1 r97.2.2).bind fun p130 =>
some (p130, r97.2.2)) r97.2.2).bind fun r129 =>
need (r129.2 = r97.2.2) <|
(onG p115 true (
(shift (nth r97.2.1 5) 0).bind fun p133 =>
some (p133, r97.2.2)) r97.2.2).bind fun r132 =>
(onG p115 true (
(aLoad false 1 r132.1 r97.2.2).bind fun p136 =>
some (p136, r97.2.2)) r97.2.2).bind fun r135 =>
need (r135.2 = r97.2.2) <|
(onG p115 true (
(aIndexAddr Try.prog 31 r135.1 (PV.v (.int .i64 0))).bind fun p139 =>
some (p139, r97.2.2)) r97.2.2).bind fun r138 =>
(onG p115 true (
(shift r138.1 43).bind fun p142 =>
some (p142, r97.2.2)) r97.2.2).bind fun r141 =>
(onG p115 true (
(aLoad true 9 r141.1 r97.2.2).bind fun p145 =>
some (p145, r97.2.2)) r97.2.2).bind fun r144 =>
need (r144.2 = r97.2.2) <|
(onG p115 true (
(call (.func 16) [canon r129.1, canon r144.1] r97.2.2).bind fun r148 =>
some (r148.1, r148.2)) r97.2.2).bind fun r147 =>
need (r147.2 = r97.2.2) <|
(onG p115 true (
(shift (nth r97.2.1 3) 0).bind fun p151 =>
some (p151, r97.2.2)) r97.2.2).bind fun r150 =>
(onG p115 true (
(aLoad false 1 r150.1 r97.2.2).bind fun p154 =>
some (p154, r97.2.2)) r97.2.2).bind fun r153 =>
need (r153.2 = r97.2.2) <|
(onG p115 true (
(aIndexAddr Try.prog 31 r153.1 (PV.v (.int .i64 0))).bind fun p157 =>
some (p157, r97.2.2)) r97.2.2).bind fun r156 =>
(onG p115 true (
(shift r156.1 43).bind fun p160 =>
some (p160, r97.2.2)) r97.2.2).bind fun r159 =>
(onG p115 true (
(aLoad true 9 r159.1 r97.2.2).bind fun p163 =>
some (p163, r97.2.2)) r97.2.2).bind fun r162 =>
need (r162.2 = r97.2.2) <|
(onG p115 true (
(call (.func 17) [canon r162.1] r97.2.2).bind fun r166 =>
some (r166.1, r166.2)) r97.2.2).bind fun r165 =>
need (r165.2 = r97.2.2) <|
(onG p115 true (
(shift (nth r97.2.1 5) 0).bind fun p169 =>
some (p169, r97.2.2)) r97.2.2).bind fun r168 =>
(onG p115 true (
(aLoad false 1 r168.1 r97.2.2).bind fun p172 =>
some (p172, r97.2.2)) r97.2.2).bind fun r171 =>
need (r171.2 = r97.2.2) <|
(onG p115 true (
(aIndexAddr Try.prog 31 r171.1 (PV.v (.int .i64 0))).bind fun p175 =>
some (p175, r97.2.2)) r97.2.2).bind fun r174 =>
(onG p115 true (
(shift r174.1 43).bind fun p178 =>
some (p178, r97.2.2)) r97.2.2).bind fun r177 =>
(onG p115 true (
(aLoad true 9 r177.1 r97.2.2).bind fun p181 =>
some (p181, r97.2.2)) r97.2.2).bind fun r180 =>
need (r180.2 = r97.2.2) <|
(onG p115 true (
(call (.func 17) [canon r180.1] r97.2.2).bind fun r184 =>
some (r184.1, r184.2)) r97.2.2).bind fun r183 =>
need (r183.2 = r97.2.2) <|
(onG p115 true (
(call (.func 13) [canon r165.1, canon r183.1] r97.2.2).bind fun r187 =>
some (r187.1, r187.2)) r97.2.2).bind fun r186 =>
need (r186.2 = r97.2.2) <|
(onG p115 true (
(aBin Try.prog false .neq 4 r147.1 r186.1).bind fun p190 =>
some (p190, r97.2.2)) r97.2.2).bind fun r189 =>
(aPick p115 r189.1 (PV.v (.bool false))).bind fun p191 =>
onBool p191 fun b192 => (bif b192 then
some (Ex.ret, [(PV.v (.bool false)), (nth r97.2.1 1), (nth r97.2.1 2), (nth r97.2.1 3), (nth r97.2.1 4), (nth r97.2.1 5), (nth r97.2.1 6), (nth r97.2.1 7), (nth r97.2.1 8), (nth r97.2.1 9), (nth r97.2.1 10), (nth r97.2.1 11)], r97.2.2)
else
some (Ex.normal, [(nth r97.2.1 0), (nth r97.2.1 1), (nth r97.2.1 2), (nth r97.2.1 3), (nth r97.2.1 4), (nth r97.2.1 5), (nth r97.2.1 6), (nth r97.2.1 7), (nth r97.2.1 8), (nth r97.2.1 9), (nth r97.2.1 10), (nth r97.2.1 11)], r97.2.2)).bind fun r193 =>
seqK r193.1 ((aBin Try.prog false .eql 3 (nth r193.2.1 2) (nth r193.2.1 4)).bind fun p195 =>
(onG p195 true (
(shift (nth r193.2.1 3) 0).bind fun p198 =>
some (p198, r193.2.2)) r193.2.2).bind fun r197 =>
(onG p195 true (
(aLoad false 1 r197.1 r193.2.2).bind fun p201 =>
some (p201, r193.2.2)) r193.2.2).bind fun r200 =>
need (r200.2 = r193.2.2) <|
(onG p195 true (
(aLen Try.prog 31 r200.1).bind fun p204 =>
some (p204, r193.2.2)) r193.2.2).bind fun r203 =>
(onG p195 true (
(aBin Try.prog true .gtr 3 r203.1 (PV.v (.int .i64 0))).bind fun p207 =>
some (p207, r193.2.2)) r193.2.2).bind fun r206 =>
(aPick p195 r206.1 (PV.v (.bool false))).bind fun p208 =>
(onG p208 true (
(shift (nth r193.2.1 5) 0).bind fun p211 =>
some (p211, r193.2.2)) r193.2.2).bind fun r210 =>
(onG p208 true (
(aLoad false 1 r210.1 r193.2.2).bind fun p214 =>
some (p214, r193.2.2)) r193.2.2).bind fun r213 =>
need (r213.2 = r193.2.2) <|
(onG p208 true (
(aLen Try.prog 31 r213.1).bind fun p217 =>
some (p217, r193.2.2)) r193.2.2).bind fun r216 =>
(onG p208 true (
(aBin Try.prog true .gtr 3 r216.1 (PV.v (.int .i64 0))).bind fun p220 =>
some (p220, r193.2.2)) r193.2.2).bind fun r219 =>
(aPick p208 r219.1 (PV.v (.bool false))).bind fun p221 =>
(onG p221 true (
(shift (nth r193.2.1 3) 0).bind fun p224 =>
some (p224, r193.2.2)) r193.2.2).bind fun r223 =>
(onG p221 true (
(aLoad false 1 r223.1 r193.2.2).bind fun p227 =>
some (p227, r193.2.2)) r193.2.2).bind fun r226 =>
need (r226.2 = r193.2.2) <|
(onG p221 true (
(aIndexAddr Try.prog 31 r226.1 (PV.v (.int .i64 0))).bind fun p230 =>
some (p230, r193.2.2)) r193.2.2).bind fun r229 =>
(onG p221 true (
(aLoad true 58 r229.1 r193.2.2).bind fun p233 =>
some (p233, r193.2.2)) r193.2.2).bind fun r232 =>
need (r232.2 = r193.2.2) <|
(onG p221 true (
(shift (nth r193.2.1 5) 0).bind fun p236 =>
some (p236, r193.2.2)) r193.2.2).bind fun r235 =>
(onG p221 true (
(aLoad false 1 r235.1 r193.2.2).bind fun p239 =>
some (p239, r193.2.2)) r193.2.2).bind fun r238 =>
need (r238.2 = r193.2.2) <|
(onG p221 true (
(aIndexAddr Try.prog 31 r238.1 (PV.v (.int .i64 0))).bind fun p242 =>
some (p242, r193.2.2)) r193.2.2).bind fun r241 =>
(onG p221 true (
(aLoad true 58 r241.1 r193.2.2).bind fun p245 =>
some (p245, r193.2.2)) r193.2.2).bind fun r244 =>
need (r244.2 = r193.2.2) <|
(onG p221 true (
(call (.func 18) [canon r232.1, canon r244.1] r193.2.2).bind fun r248 =>
some (r248.1, r248.2)) r193.2.2).bind fun r247 =>
need (r247.2 = r193.2.2) <|
(onG p221 true (
(shift (nth r193.2.1 3) 0).bind fun p251 =>
some (p251, r193.2.2)) r193.2.2).bind fun r250 =>
(onG p221 true (
(aLoad false 1 r250.1 r193.2.2).bind fun p254 =>
some (p254, r193.2.2)) r193.2.2).bind fun r253 =>
need (r253.2 = r193.2.2) <|
(onG p221 true (
(aSlice Try.prog 31 r253.1 none (some (PV.v (.int .i64 1))) none).bind fun p257 =>
some (p257, r193.2.2)) r193.2.2).bind fun r256 =>
(onG p221 true (
(shift (nth r193.2.1 5) 0).bind fun p260 =>
some (p260, r193.2.2)) r193.2.2).bind fun r259 =>
(onG p221 true (
(aLoad false 1 r259.1 r193.2.2).bind fun p263 =>
some (p263, r193.2.2)) r193.2.2).bind fun r262 =>
need (r262.2 = r193.2.2) <|
(onG p221 true (
(aSlice Try.prog 31 r262.1 none (some (PV.v (.int .i64 1))) none).bind fun p266 =>
some (p266, r193.2.2)) r193.2.2).bind fun r265 =>
(onG p221 true (
(call (.func 10) [canon r256.1, canon r265.1] r193.2.2).bind fun r269 =>
some (r269.1, r269.2)) r193.2.2).bind fun r268 =>
need (r268.2 = r193.2.2) <|
(onG p221 true (
(aBin Try.prog false .neq 4 r247.1 r268.1).bind fun p272 =>
some (p272, r193.2.2)) r193.2.2).bind fun r271 =>
(aPick p221 r271.1 (PV.v (.bool false))).bind fun p273 =>
onBool p273 fun b274 => (bif b274 then
some (Ex.ret, [(PV.v (.bool false)), (nth r193.2.1 1), (nth r193.2.1 2), (nth r193.2.1 3), (nth r193.2.1 6), (nth r193.2.1 7), (nth r193.2.1 8), (nth r193.2.1 9), (nth r193.2.1 10), (nth r193.2.1 11)], r193.2.2)
else
some (Ex.normal, [(nth r193.2.1 0), (nth r193.2.1 1), (nth r193.2.1 2), (nth r193.2.1 3), (nth r193.2.1 6), (nth r193.2.1 7), (nth r193.2.1 8), (nth r193.2.1 9), (nth r193.2.1 10), (nth r193.2.1 11)], r193.2.2)).bind fun r275 =>
seqK (Ex.outOf 3 r275.1) ((aBin Try.prog true .add 3 (nth r275.2.1 9) (PV.v (.int .i64 1))).bind fun p277 =>
leaveV base lb st73.stk.length Ex.normal [(nth r275.2.1 0), (nth r275.2.1 1), (nth r275.2.1 2), (nth r275.2.1 3), (nth r275.2.1 4), (nth r275.2.1 5), (nth r275.2.1 6), (nth r275.2.1 7), (nth r275.2.1 8), p277] r275.2.2) fun x276 =>
leaveV base lb st73.stk.length x276 [(nth r275.2.1 0), (nth r275.2.1 1), (nth r275.2.1 2), (nth r275.2.1 3), (nth r275.2.1 4), (nth r275.2.1 5), (nth r275.2.1 6), (nth r275.2.1 7), (nth r275.2.1 8), (nth r275.2.1 9)] r275.2.2) fun x194 =>
seqK (Ex.outOf 3 x194) ((aBin Try.prog true .add 3 (nth r193.2.1 11) (PV.v (.int .i64 1))).bind fun p279 =>
leaveV base lb st73.stk.length Ex.normal [(nth r193.2.1 0), (nth r193.2.1 1), (nth r193.2.1 2), (nth r193.2.1 3), (nth r193.2.1 6), (nth r193.2.1 7), (nth r193.2.1 8), (nth r193.2.1 9), (nth r193.2.1 10), p279] r193.2.2) fun x278 =>
leaveV base lb st73.stk.length x278 [(nth r193.2.1 0), (nth r193.2.1 1), (nth r193.2.1 2), (nth r193.2.1 3), (nth r193.2.1 6), (nth r193.2.1 7), (nth r193.2.1 8), (nth r193.2.1 9), (nth r193.2.1 10), (nth r193.2.1 11)] r193.2.2) fun x98 =>
seqK (Ex.outOf 3 x98) ((aBin Try.prog true .add 3 (nth r97.2.1 11) (PV.v (.int .i64 1))).bind fun p281 =>
leaveV base lb st73.stk.length Ex.normal [(nth r97.2.1 0), (nth r97.2.1 1), (nth r97.2.1 2), (nth r97.2.1 3), (nth r97.2.1 6), (nth r97.2.1 7), (nth r97.2.1 8), (nth r97.2.1 9), (nth r97.2.1 10), p281] r97.2.2) fun x280 =>
leaveV base lb st73.stk.length x280 [(nth r97.2.1 0), (nth r97.2.1 1), (nth r97.2.1 2), (nth r97.2.1 3), (nth r97.2.1 6), (nth r97.2.1 7), (nth r97.2.1 8), (nth r97.2.1 9), (nth r97.2.1 10), (nth r97.2.1 11)] r97.2.2) fun x77 =>
leaveV base lb st73.stk.length x77 [(nth r76.2.1 0), (nth r76.2.1 1), (nth r76.2.1 2), (nth r76.2.1 3), (nth r76.2.1 4), (nth r76.2.1 5), (nth r76.2.1 6), (nth r76.2.1 7), (nth r76.2.1 8), (nth r76.2.1 9)] r76.2.2
noncomputable def S4.b0 (call : CallF) (it : LoopF) (base lb : Nat) (vs57 : List PV) (st58 : St) : Option (Ex × List PV × St) :=
(aBin Try.prog false .lss 3 (nth vs57 4) (nth vs57 3)).bind fun p59 =>
onBool p59 fun b60 => (bif b60 then
some (Ex.normal, [(nth vs57 0), (nth vs57 1), (nth vs57 2), (nth vs57 3), (nth vs57 4)], st58)
else
some ((Ex.exit 0), [(nth vs57 0), (nth vs57 1), (nth vs57 2), (nth vs57 3), (nth vs57 4)], st58)).bind fun r61 =>
seqK r61.1 ((aIndexAddr Try.prog 27 (nth r61.2.1 2) (nth r61.2.1 4)).bind fun p63 =>
(aLoad true 3 p63 r61.2.2).bind fun p64 =>
let q66 : PV := .ptr false r61.2.2.stk.length 0
let st65 := r61.2.2.push [.sl [] .nil, .v (.int .i64 0), .v (.int .i64 0)]
(aStore base 3 q66 p64 st65).bind fun st67 =>
(shift (nth r61.2.1 1) 3).bind fun p68 =>
(aLoad false 1 p68 st67).bind fun p69 =>
(aLen Try.prog 27 p69).bind fun p70 =>
(it (S4.b1 call it base lb) [(nth r61.2.1 0), (nth r61.2.1 1), (nth r61.2.1 4), q66, (nth r61.2.1 2), (nth r61.2.1 3), (nth r61.2.1 4), p69, p70, (PV.v (.int .i64 0))] st67).bind fun r71 =>
seqK (Ex.outOf 1 (Ex.outOf 2 r71.1)) ((aBin Try.prog true .add 3 (nth r71.2.1 6) (PV.v (.int .i64 1))).bind fun p283 =>
leaveV base lb st58.stk.length Ex.normal [(nth r71.2.1 0), (nth r71.2.1 1), (nth r71.2.1 4), (nth r71.2.1 5), p283] r71.2.2) fun x282 =>
leaveV base lb st58.stk.length x282 [(nth r71.2.1 0), (nth r71.2.1 1), (nth r71.2.1 4), (nth r71.2.1 5), (nth r71.2.1 6)] r71.2.2) fun x62 =>
leaveV base lb st58.stk.length x62 [(nth r61.2.1 0), (nth r61.2.1 1), (nth r61.2.1 2), (nth r61.2.1 3), (nth r61.2.1 4)] r61.2.2
/-- padlock/padlocklaw04.TreeSame -/
noncomputable def S4 (call : CallF) (it : LoopF) (a0 a1 : PV) (st : St) : Option (PV × St) :=
(call (.func 7) [] st).bind fun r1 =>
(aUn Try.prog .not r1.1).bind fun p2 =>
onBool p2 fun b3 => (bif b3 then
some (Ex.ret, [a0, a1, (PV.v (.bool false))], r1.2)
else
some (Ex.normal, [a0, a1, (PV.v (.bool false))], r1.2)).bind fun r4 =>
seqK r4.1 ((aLen Try.prog 22 (nth r4.2.1 0)).bind fun p6 =>
(aBin Try.prog true .gtr 3 p6 (PV.v (.int .i64 400))).bind fun p7 =>
(onG p7 false (
some ((nth r4.2.1 1), r4.2.2)) r4.2.2).bind fun r9 =>
(onG p7 false (
(aLen Try.prog 22 r9.1).bind fun p12 =>
some (p12, r9.2)) r9.2).bind fun r11 =>
(onG p7 false (
(aBin Try.prog true .gtr 3 r11.1 (PV.v (.int .i64 400))).bind fun p15 =>
some (p15, r11.2)) r11.2).bind fun r14 =>
(aPick p7 (PV.v (.bool true)) r14.1).bind fun p16 =>
onBool p16 fun b17 => (bif b17 then
some (Ex.ret, [(nth r4.2.1 0), (nth r4.2.1 1), (PV.v (.bool true))], r14.2)
else
some (Ex.normal, [(nth r4.2.1 0), (nth r4.2.1 1), (nth r4.2.1 2)], r14.2)).bind fun r18 =>
seqK r18.1 ((call (.func 8) [canon (nth r18.2.1 0)] r18.2.2).bind fun r20 =>
(call (.func 8) [canon (nth r18.2.1 1)] r20.2).bind fun r21 =>
let q23 : PV := .ptr false r21.2.stk.length 0
let st22 := r21.2.push [.sl [] .nil, .sl [] .nil, .sl [] .nil, .sl [] .nil]
let q25 : PV := .ptr false st22.stk.length 0
let st24 := st22.push [.sl [] .nil, .sl [] .nil, .sl [] .nil, .sl [] .nil]
(aStore st.stk.length 4 q23 r20.1 st24).bind fun st26 =>
(aStore st.stk.length 4 q25 r21.1 st26).bind fun st27 =>
(aLoad true 4 q23 st27).bind fun p28 =>
need (st27 = st27) <|
(aLoad true 4 q25 st27).bind fun p29 =>
need (st27 = st27) <|
(call (.func 12) [canon p28, canon p29] st27).bind fun r30 =>
need (r30.2 = st27) <|
(aLoad true 4 q23 st27).bind fun p31 =>
need (st27 = st27) <|
(call (.func 14) [canon p31] st27).bind fun r32 =>
need (r32.2 = st27) <|
(aLoad true 4 q25 st27).bind fun p33 =>
need (st27 = st27) <|
(call (.func 14) [canon p33] st27).bind fun r34 =>
need (r34.2 = st27) <|
(call (.func 13) [canon r32.1, canon r34.1] st27).bind fun r35 =>
need (r35.2 = st27) <|
(aBin Try.prog false .neq 4 r30.1 r35.1).bind fun p36 =>
(onG p36 false (
(aLoad true 4 q23 st27).bind fun p39 =>
some (p39, st27)) st27).bind fun r38 =>
need (r38.2 = st27) <|
(onG p36 false (
(aLoad true 4 q23 st27).bind fun p42 =>
some (p42, st27)) st27).bind fun r41 =>
need (r41.2 = st27) <|
(onG p36 false (
(call (.func 12) [canon r38.1, canon r41.1] st27).bind fun r45 =>
some (r45.1, r45.2)) st27).bind fun r44 =>
need (r44.2 = st27) <|
(onG p36 false (
(aUn Try.prog .not r44.1).bind fun p48 =>
some (p48, st27)) st27).bind fun r47 =>
(aPick p36 (PV.v (.bool true)) r47.1).bind fun p49 =>
onBool p49 fun b50 => (bif b50 then
some (Ex.ret, [(PV.v (.bool false)), q23, q25], st27)
else
some (Ex.normal, [(nth r18.2.1 2), q23, q25], st27)).bind fun r51 =>
seqK r51.1 ((shift (nth r51.2.1 1) 3).bind fun p53 =>
(aLoad false 1 p53 r51.2.2).bind fun p54 =>
(aLen Try.prog 27 p54).bind fun p55 =>
(it (S4.b0 call it st.stk.length st.lp.length) [(nth r51.2.1 0), (nth r51.2.1 2), p54, p55, (PV.v (.int .i64 0))] r51.2.2).bind fun r56 =>
seqK (Ex.outOf 0 r56.1) (fin st.stk.length st.tk.length st.lp.length [(PV.v (.bool true))] r56.2.2) fun x284 =>
retK x284 (fin st.stk.length st.tk.length st.lp.length [(nth r56.2.1 0)] r56.2.2)) fun x52 =>
retK x52 (fin st.stk.length st.tk.length st.lp.length [(nth r51.2.1 0)] r51.2.2)) fun x19 =>
retK x19 (fin st.stk.length st.tk.length st.lp.length [(nth r18.2.1 2)] r18.2.2)) fun x5 =>
retK x5 (fin st.stk.length st.tk.length st.lp.length [(nth r4.2.1 2)] r4.2.2)
theorem S4_eq (a0 a1 : PV) (st : St) : E L (.func 4) [a0, a1] st = S4 (E L) itE a0 a1 st := (E_func' (by rfl) Try.func4 _ _).trans (by kernel_rfl)
/-- padlock/padlocklaw04.TreeTurned -/
noncomputable def S5 (call : CallF) (it : LoopF) (a0 a1 a2 : PV) (st : St) : Option (PV × St) :=
(call (.func 7) [] st).bind fun r1 =>
(aUn Try.prog .not r1.1).bind fun p2 =>
onBool p2 fun b3 => (bif b3 then
some (Ex.ret, [a0, a1, a2, (PV.v (.bool false))], r1.2)
else
some (Ex.normal, [a0, a1, a2, (PV.v (.bool false))], r1.2)).bind fun r4 =>
seqK r4.1 ((aLen Try.prog 22 (nth r4.2.1 0)).bind fun p6 =>
(aBin Try.prog true .gtr 3 p6 (PV.v (.int .i64 400))).bind fun p7 =>
onBool p7 fun b8 => (bif b8 then
some (Ex.ret, [(nth r4.2.1 0), (nth r4.2.1 1), (nth r4.2.1 2), (PV.v (.bool true))], r4.2.2)
else
some (Ex.normal, [(nth r4.2.1 0), (nth r4.2.1 1), (nth r4.2.1 2), (nth r4.2.1 3)], r4.2.2)).bind fun r9 =>
seqK r9.1 ((call (.func 8) [canon (nth r9.2.1 0)] r9.2.2).bind fun r11 =>
(call (.func 8) [canon (nth r9.2.1 0)] r11.2).bind fun r12 =>
let q14 : PV := .ptr false r12.2.stk.length 0
let st13 := r12.2.push [.sl [] .nil, .sl [] .nil, .sl [] .nil, .sl [] .nil]
let q16 : PV := .ptr false st13.stk.length 0
let st15 := st13.push [.sl [] .nil, .sl [] .nil, .sl [] .nil, .sl [] .nil]
(aStore st.stk.length 4 q14 r11.1 st15).bind fun st17 =>
(aStore st.stk.length 4 q16 r12.1 st17).bind fun st18 =>
(shift q16 3).bind fun p19 =>
(aLoad false 1 p19 st18).bind fun p20 =>
(aLen Try.prog 27 p20).bind fun p21 =>
(aBin Try.prog true .eql 3 p21 (PV.v (.int .i64 0))).bind fun p22 =>
(onG p22 false (
(shift q16 3).bind fun p25 =>
some (p25, st18)) st18).bind fun r24 =>
(onG p22 false (
(aLoad false 1 r24.1 r24.2).bind fun p28 =>
some (p28, r24.2)) r24.2).bind fun r27 =>
(onG p22 false (
(aIndexAddr Try.prog 27 r27.1 (PV.v (.int .i64 0))).bind fun p31 =>
some (p31, r27.2)) r27.2).bind fun r30 =>
(onG p22 false (
(shift r30.1 0).bind fun p34 =>
some (p34, r30.2)) r30.2).bind fun r33 =>
(onG p22 false (
(aLoad false 1 r33.1 r33.2).bind fun p37 =>
some (p37, r33.2)) r33.2).bind fun r36 =>
(onG p22 false (
(aLen Try.prog 31 r36.1).bind fun p40 =>
some (p40, r36.2)) r36.2).bind fun r39 =>
(onG p22 false (
(aBin Try.prog true .eql 3 r39.1 (PV.v (.int .i64 0))).bind fun p43 =>
some (p43, r39.2)) r39.2).bind fun r42 =>
(aPick p22 (PV.v (.bool true)) r42.1).bind fun p44 =>
onBool p44 fun b45 => (bif b45 then
some (Ex.ret, [(nth r9.2.1 1), (nth r9.2.1 2), (PV.v (.bool true)), q14, q16], r42.2)
else
some (Ex.normal, [(nth r9.2.1 1), (nth r9.2.1 2), (nth r9.2.1 3), q14, q16], r42.2)).bind fun r46 =>
seqK r46.1 ((shift (nth r46.2.1 4) 3).bind fun p48 =>
(aLoad false 1 p48 r46.2.2).bind fun p49 =>
(aIndexAddr Try.prog 27 p49 (PV.v (.int .i64 0))).bind fun p50 =>
(shift p50 0).bind fun p51 =>
(aLoad false 1 p51 r46.2.2).bind fun p52 =>
(aConv Try.prog 3 59 (nth r46.2.1 0)).bind fun p53 =>
(aLen Try.prog 31 p52).bind fun p54 =>
(aConv Try.prog 3 59 p54).bind fun p55 =>
(aBin Try.prog false .rem 59 p53 p55).bind fun p56 =>
(aConv Try.prog 59 3 p56).bind fun p57 =>
(aConv Try.prog 3 59 (nth r46.2.1 1)).bind fun p58 =>
(aBin Try.prog true .rem 59 p58 (PV.v (.int .u64 8))).bind fun p59 =>
(aConv Try.prog 59 3 p59).bind fun p60 =>
(aBin Try.prog true .eql 3 p60 (PV.v (.int .i64 0))).bind fun p61 =>
onBool p61 fun b62 => (bif b62 then
(aIndexAddr Try.prog 31 p52 p57).bind fun p64 =>
(shift p64 0).bind fun p65 =>
(aLoad false 1 p65 r46.2.2).bind fun p66 =>
(aBin Try.prog true .add 3 p66 (PV.v (.int .i64 1))).bind fun p67 =>
(aIndexAddr Try.prog 31 p52 p57).bind fun p68 =>
(shift p68 0).bind fun p69 =>
(aStore st.stk.length 1 p69 p67 r46.2.2).bind fun st70 =>
some (Ex.normal, [(nth r46.2.1 3), (nth r46.2.1 4), (PV.v (.bool false))], st70)
else
(aBin Try.prog true .eql 3 p60 (PV.v (.int .i64 1))).bind fun p71 =>
onBool p71 fun b72 => (bif b72 then
(aIndexAddr Try.prog 31 p52 p57).bind fun p74 =>
(shift p74 1).bind fun p75 =>
(aLoad false 1 p75 r46.2.2).bind fun p76 =>
(aBin Try.prog true .add 9 p76 (PV.v (.string ⟨#[122]⟩))).bind fun p77 =>
(aIndexAddr Try.prog 31 p52 p57).bind fun p78 =>
(shift p78 1).bind fun p79 =>
(aStore st.stk.length 1 p79 p77 r46.2.2).bind fun st80 =>
some (Ex.normal, [(nth r46.2.1 3), (nth r46.2.1 4), (PV.v (.bool false))], st80)
else
(aBin Try.prog true .eql 3 p60 (PV.v (.int .i64 2))).bind fun p81 =>
onBool p81 fun b82 => (bif b82 then
(aIndexAddr Try.prog 31 p52 p57).bind fun p84 =>
(shift p84 43).bind fun p85 =>
(shift p85 2).bind fun p86 =>
(aLoad false 1 p86 r46.2.2).bind fun p87 =>
(aBin Try.prog true .add 38 p87 (PV.v (.int .u64 1))).bind fun p88 =>
(aIndexAddr Try.prog 31 p52 p57).bind fun p89 =>
(shift p89 43).bind fun p90 =>
(shift p90 2).bind fun p91 =>
(aStore st.stk.length 1 p91 p88 r46.2.2).bind fun st92 =>
some (Ex.normal, [(nth r46.2.1 3), (nth r46.2.1 4), (PV.v (.bool false))], st92)
else
(aBin Try.prog true .eql 3 p60 (PV.v (.int .i64 3))).bind fun p93 =>
onBool p93 fun b94 => (bif b94 then
(aIndexAddr Try.prog 31 p52 p57).bind fun p96 =>
(shift p96 2).bind fun p97 =>
(shift p97 10).bind fun p98 =>
(shift p98 3).bind fun p99 =>
(shift p99 1).bind fun p100 =>
(aLoad false 1 p100 r46.2.2).bind fun p101 =>
(aBin Try.prog true .add 3 p101 (PV.v (.int .i64 1))).bind fun p102 =>
(aIndexAddr Try.prog 31 p52 p57).bind fun p103 =>
(shift p103 2).bind fun p104 =>
(shift p104 10).bind fun p105 =>
(shift p105 3).bind fun p106 =>
(shift p106 1).bind fun p107 =>
(aStore st.stk.length 1 p107 p102 r46.2.2).bind fun st108 =>
some (Ex.normal, [(nth r46.2.1 3), (nth r46.2.1 4), (PV.v (.bool false))], st108)
else
(aBin Try.prog true .eql 3 p60 (PV.v (.int .i64 4))).bind fun p109 =>
onBool p109 fun b110 => (bif b110 then
(rBuildSlice 58 [.v (.int .i64 0), .v (.string ⟨#[]⟩), .v (.int .i64 0), .v (.int .i64 0), .v (.int .i64 0), .v (.int .u64 0), .v (.int .i64 0), .v (.string ⟨#[]⟩), .v (.string ⟨#[]⟩), .sl [] .nil, .v (.int .i64 0), .v (.int .i64 0), .v (.int .i64 0), .v (.string ⟨#[]⟩), .v (.string ⟨#[]⟩), .v (.int .i64 0), .v (.int .i64 0), .v (.int .u64 0), .v (.int .i64 0), .v (.string ⟨#[]⟩), .v (.string ⟨#[]⟩), .sl [] .nil, .v (.int .i64 0), .v (.int .i64 0), .v (.int .i64 0), .v (.int .i64 0), .v (.string ⟨#[]⟩), .v (.int .i64 0), .v (.int .i64 0), .v (.int .i64 0), .v (.string ⟨#[]⟩), .v (.string ⟨#[]⟩), .v (.int .i64 0), .v (.int .i64 0), .v (.int .u64 0), .v (.int .i64 0), .v (.string ⟨#[]⟩), .v (.string ⟨#[]⟩), .sl [] .nil, .v (.int .i64 0), .v (.int .i64 0), .v (.int .i64 0), .v (.int .i64 0), .v (.int .i64 0), .v (.int .i64 0), .v (.int .u64 0), .v (.int .i64 0), .v (.string ⟨#[]⟩), .v (.string ⟨#[]⟩), .sl [] .nil, .v (.int .i64 0), .v (.int .i64 0), .v (.int .i64 0), .sl [] .nil, .sl [] .nil, .sl [] .nil, .v (.int .i64 0), .v (.int .i64 0)] 0 []).bind fun p112 =>
(aIndexAddr Try.prog 31 p52 p57).bind fun p113 =>
(shift p113 54).bind fun p114 =>
(aLoad false 1 p114 r46.2.2).bind fun p115 =>
(elemsOf r46.2.2 p115).bind fun ys116 =>
(rAppend st.stk.length [.v (.int .i64 0), .v (.string ⟨#[]⟩), .v (.int .i64 0), .v (.int .i64 0), .v (.int .i64 0), .v (.int .u64 0), .v (.int .i64 0), .v (.string ⟨#[]⟩), .v (.string ⟨#[]⟩), .sl [] .nil, .v (.int .i64 0), .v (.int .i64 0), .v (.int .i64 0), .v (.string ⟨#[]⟩), .v (.string ⟨#[]⟩), .v (.int .i64 0), .v (.int .i64 0), .v (.int .u64 0), .v (.int .i64 0), .v (.string ⟨#[]⟩), .v (.string ⟨#[]⟩), .sl [] .nil, .v (.int .i64 0), .v (.int .i64 0), .v (.int .i64 0), .v (.int .i64 0), .v (.string ⟨#[]⟩), .v (.int .i64 0), .v (.int .i64 0), .v (.int .i64 0), .v (.string ⟨#[]⟩), .v (.string ⟨#[]⟩), .v (.int .i64 0), .v (.int .i64 0), .v (.int .u64 0), .v (.int .i64 0), .v (.string ⟨#[]⟩), .v (.string ⟨#[]⟩), .sl [] .nil, .v (.int .i64 0), .v (.int .i64 0), .v (.int .i64 0), .v (.int .i64 0), .v (.int .i64 0), .v (.int .i64 0), .v (.int .u64 0), .v (.int .i64 0), .v (.string ⟨#[]⟩), .v (.string ⟨#[]⟩), .sl [] .nil, .v (.int .i64 0), .v (.int .i64 0), .v (.int .i64 0), .sl [] .nil, .sl [] .nil, .sl [] .nil, .v (.int .i64 0), .v (.int .i64 0)] 58 688 p112 ys116 r46.2.2).bind fun r117 =>
(rBuild [(0, 1), (1, 1), (2, 27), (29, 14), (43, 9), (52, 1), (53, 1), (54, 1), (55, 1), (56, 1), (57, 1)] [.v (.int .i64 0), .v (.string ⟨#[]⟩), .v (.int .i64 0), .v (.int .i64 0), .v (.int .i64 0), .v (.int .u64 0), .v (.int .i64 0), .v (.string ⟨#[]⟩), .v (.string ⟨#[]⟩), .sl [] .nil, .v (.int .i64 0), .v (.int .i64 0), .v (.int .i64 0), .v (.string ⟨#[]⟩), .v (.string ⟨#[]⟩), .v (.int .i64 0), .v (.int .i64 0), .v (.int .u64 0), .v (.int .i64 0), .v (.string ⟨#[]⟩), .v (.string ⟨#[]⟩), .sl [] .nil, .v (.int .i64 0), .v (.int .i64 0), .v (.int .i64 0), .v (.int .i64 0), .v (.string ⟨#[]⟩), .v (.int .i64 0), .v (.int .i64 0), .v (.int .i64 0), .v (.string ⟨#[]⟩), .v (.string ⟨#[]⟩), .v (.int .i64 0), .v (.int .i64 0), .v (.int .u64 0), .v (.int .i64 0), .v (.string ⟨#[]⟩), .v (.string ⟨#[]⟩), .sl [] .nil, .v (.int .i64 0), .v (.int .i64 0), .v (.int .i64 0), .v (.int .i64 0), .v (.int .i64 0), .v (.int .i64 0), .v (.int .u64 0), .v (.int .i64 0), .v (.string ⟨#[]⟩), .v (.string ⟨#[]⟩), .sl [] .nil, .v (.int .i64 0), .v (.int .i64 0), .v (.int .i64 0), .sl [] .nil, .sl [] .nil, .sl [] .nil, .v (.int .i64 0), .v (.int .i64 0)] []).bind fun p118 =>
(rBuildSlice 58 [.v (.int .i64 0), .v (.string ⟨#[]⟩), .v (.int .i64 0), .v (.int .i64 0), .v (.int .i64 0), .v (.int .u64 0), .v (.int .i64 0), .v (.string ⟨#[]⟩), .v (.string ⟨#[]⟩), .sl [] .nil, .v (.int .i64 0), .v (.int .i64 0), .v (.int .i64 0), .v (.string ⟨#[]⟩), .v (.string ⟨#[]⟩), .v (.int .i64 0), .v (.int .i64 0), .v (.int .u64 0), .v (.int .i64 0), .v (.string ⟨#[]⟩), .v (.string ⟨#[]⟩), .sl [] .nil, .v (.int .i64 0), .v (.int .i64 0), .v (.int .i64 0), .v (.int .i64 0), .v (.string ⟨#[]⟩), .v (.int .i64 0), .v (.int .i64 0), .v (.int .i64 0), .v (.string ⟨#[]⟩), .v (.string ⟨#[]⟩), .v (.int .i64 0), .v (.int .i64 0), .v (.int .u64 0), .v (.int .i64 0), .v (.string ⟨#[]⟩), .v (.string ⟨#[]⟩), .sl [] .nil, .v (.int .i64 0), .v (.int .i64 0), .v (.int .i64 0), .v (.int .i64 0), .v (.int .i64 0), .v (.int .i64 0), .v (.int .u64 0), .v (.int .i64 0), .v (.string ⟨#[]⟩), .v (.string ⟨#[]⟩), .sl [] .nil, .v (.int .i64 0), .v (.int .i64 0), .v (.int .i64 0), .sl [] .nil, .sl [] .nil, .sl [] .nil, .v (.int .i64 0), .v (.int .i64 0)] 1 [(0, p118)]).bind fun p119 =>
(elemsOf r117.2 p119).bind fun ys120 =>
(rAppend st.stk.length [.v (.int .i64 0), .v (.string ⟨#[]⟩), .v (.int .i64 0), .v (.int .i64 0), .v (.int .i64 0), .v (.int .u64 0), .v (.int .i64 0), .v (.string ⟨#[]⟩), .v (.string ⟨#[]⟩), .sl [] .nil, .v (.int .i64 0), .v (.int .i64 0), .v (.int .i64 0), .v (.string ⟨#[]⟩), .v (.string ⟨#[]⟩), .v (.int .i64 0), .v (.int .i64 0), .v (.int .u64 0), .v (.int .i64 0), .v (.string ⟨#[]⟩), .v (.string ⟨#[]⟩), .sl [] .nil, .v (.int .i64 0), .v (.int .i64 0), .v (.int .i64 0), .v (.int .i64 0), .v (.string ⟨#[]⟩), .v (.int .i64 0), .v (.int .i64 0), .v (.int .i64 0), .v (.string ⟨#[]⟩), .v (.string ⟨#[]⟩), .v (.int .i64 0), .v (.int .i64 0), .v (.int .u64 0), .v (.int .i64 0), .v (.string ⟨#[]⟩), .v (.string ⟨#[]⟩), .sl [] .nil, .v (.int .i64 0), .v (.int .i64 0), .v (.int .i64 0), .v (.int .i64 0), .v (.int .i64 0), .v (.int .i64 0), .v (.int .u64 0), .v (.int .i64 0), .v (.string ⟨#[]⟩), .v (.string ⟨#[]⟩), .sl [] .nil, .v (.int .i64 0), .v (.int .i64 0), .v (.int .i64 0), .sl [] .nil, .sl [] .nil, .sl [] .nil, .v (.int .i64 0), .v (.int .i64 0)] 58 688 r117.1 ys120 r117.2).bind fun r121 =>
(aIndexAddr Try.prog 31 p52 p57).bind fun p122 =>
(shift p122 54).bind fun p123 =>
(aStore st.stk.length 1 p123 r121.1 r121.2).bind fun st124 =>
some (Ex.normal, [(nth r46.2.1 3), (nth r46.2.1 4), (PV.v (.bool false))], st124)
else
(aBin Try.prog true .eql 3 p60 (PV.v (.int .i64 5))).bind fun p125 =>
onBool p125 fun b126 => (bif b126 then
(aIndexAddr Try.prog 31 p52 p57).bind fun p128 =>
(shift p128 29).bind fun p129 =>
(shift p129 2).bind fun p130 =>
(aLoad false 1 p130 r46.2.2).bind fun p131 =>
(aBin Try.prog true .add 9 p131 (PV.v (.string ⟨#[122]⟩))).bind fun p132 =>
(aIndexAddr Try.prog 31 p52 p57).bind fun p133 =>
(shift p133 29).bind fun p134 =>
(shift p134 2).bind fun p135 =>
(aStore st.stk.length 1 p135 p132 r46.2.2).bind fun st136 =>
some (Ex.normal, [(nth r46.2.1 3), (nth r46.2.1 4), (PV.v (.bool false))], st136)
else
(aBin Try.prog true .eql 3 p60 (PV.v (.int .i64 6))).bind fun p137 =>
onBool p137 fun b138 => (bif b138 then
(aIndexAddr Try.prog 31 p52 p57).bind fun p140 =>
(shift p140 2).bind fun p141 =>
(shift p141 1).bind fun p142 =>
(shift p142 3).bind fun p143 =>
(shift p143 1).bind fun p144 =>
(aStore st.stk.length 1 p144 (PV.v (.string ⟨#[122]⟩)) r46.2.2).bind fun st145 =>
some (Ex.normal, [(nth r46.2.1 3), (nth r46.2.1 4), (PV.v (.bool false))], st145)
else
(aBin Try.prog true .eql 3 p60 (PV.v (.int .i64 7))).bind fun p146 =>
onBool p146 fun b147 => (bif b147 then
(aIndexAddr Try.prog 31 p52 p57).bind fun p149 =>
(shift p149 56).bind fun p150 =>
(aStore st.stk.length 1 p150 (PV.v (.int .i64 5)) r46.2.2).bind fun st151 =>
(aIndexAddr Try.prog 31 p52 p57).bind fun p152 =>
(shift p152 57).bind fun p153 =>
(aStore st.stk.length 1 p153 (PV.v (.int .i64 6)) st151).bind fun st154 =>
(aIndexAddr Try.prog 31 p52 p57).bind fun p155 =>
(shift p155 43).bind fun p156 =>
(shift p156 7).bind fun p157 =>
(aStore st.stk.length 1 p157 (PV.v (.int .i64 7)) st154).bind fun st158 =>
(aIndexAddr Try.prog 31 p52 p57).bind fun p159 =>
(shift p159 2).bind fun p160 =>
(shift p160 10).bind fun p161 =>
(shift p161 13).bind fun p162 =>
(aStore st.stk.length 1 p162 (PV.v (.int .i64 8)) st158).bind fun st163 =>
some (Ex.normal, [(nth r46.2.1 3), (nth r46.2.1 4), (PV.v (.bool true))], st163)
else
some (Ex.normal, [(nth r46.2.1 3), (nth r46.2.1 4), (PV.v (.bool false))], r46.2.2)).bind fun r148 =>
some (r148.1, [(nth r148.2.1 0), (nth r148.2.1 1), (nth r148.2.1 2)], r148.2.2)).bind fun r139 =>
some (r139.1, [(nth r139.2.1 0), (nth r139.2.1 1), (nth r139.2.1 2)], r139.2.2)).bind fun r127 =>
some (r127.1, [(nth r127.2.1 0), (nth r127.2.1 1), (nth r127.2.1 2)], r127.2.2)).bind fun r111 =>
some (r111.1, [(nth r111.2.1 0), (nth r111.2.1 1), (nth r111.2.1 2)], r111.2.2)).bind fun r95 =>
some (r95.1, [(nth r95.2.1 0), (nth r95.2.1 1), (nth r95.2.1 2)], r95.2.2)).bind fun r83 =>
some (r83.1, [(nth r83.2.1 0), (nth r83.2.1 1), (nth r83.2.1 2)], r83.2.2)).bind fun r73 =>
some (r73.1, [(nth r73.2.1 0), (nth r73.2.1 1), (nth r73.2.1 2)], r73.2.2)).bind fun r63 =>
seqK (Ex.outOf 0 r63.1) ((aLoad true 4 (nth r63.2.1 0) r63.2.2).bind fun p165 =>
(aLoad true 4 (nth r63.2.1 1) r63.2.2).bind fun p166 =>
(call (.func 12) [canon p165, canon p166] r63.2.2).bind fun r167 =>
(aBin Try.prog false .eql 4 r167.1 (nth r63.2.1 2)).bind fun p168 =>
(onG p168 true (
(aLoad true 4 (nth r63.2.1 1) r167.2).bind fun p171 =>
some (p171, r167.2)) r167.2).bind fun r170 =>
(onG p168 true (
(aLoad true 4 (nth r63.2.1 0) r170.2).bind fun p174 =>
some (p174, r170.2)) r170.2).bind fun r173 =>
(onG p168 true (
(call (.func 12) [canon r170.1, canon r173.1] r173.2).bind fun r177 =>
some (r177.1, r177.2)) r173.2).bind fun r176 =>
(onG p168 true (
some ((nth r63.2.1 2), r176.2)) r176.2).bind fun r179 =>
(onG p168 true (
(aBin Try.prog false .eql 4 r176.1 r179.1).bind fun p182 =>
some (p182, r179.2)) r179.2).bind fun r181 =>
(aPick p168 r181.1 (PV.v (.bool false))).bind fun p183 =>
fin st.stk.length st.tk.length st.lp.length [p183] r181.2) fun x164 =>
retK x164 (fin st.stk.length st.tk.length st.lp.length [PV.u] r63.2.2)) fun x47 =>
retK x47 (fin st.stk.length st.tk.length st.lp.length [(nth r46.2.1 2)] r46.2.2)) fun x10 =>
retK x10 (fin st.stk.length st.tk.length st.lp.length [(nth r9.2.1 3)] r9.2.2)) fun x5 =>
retK x5 (fin st.stk.length st.tk.length st.lp.length [(nth r4.2.1 3)] r4.2.2)
theorem S5_eq (a0 a1 a2 : PV) (st : St) : E L (.func 5) [a0, a1, a2] st = S5 (E L) itE a0 a1 a2 st := (E_func' (by rfl) Try.func5 _ _).trans (by kernel_rfl)
noncomputable def S20.lp0 (vs : List PV) : Lp := ⟨[3], vs, 19, ⟨[], []⟩, [8, 9], (Try.f20.body.getD .skip).r.r.l.r.l.l, (Try.f20.body.getD .skip).r.r.l.r.l.r, (.seq .nil (.blk (.seq .nil (.cnd [] .nil .nil)))), 0, .normal⟩
noncomputable def S20.r0 (call : CallF) (it : LoopF) (i : Nat) (vs : List PV) (p0_ p1_ : PV) (st : St) : Option (PV × St) :=
let q10 : PV := .ptr false st.stk.length 0
let st9 := st.push [.v (.int .i64 0), .v (.string ⟨#[]⟩), .v (.int .i64 0), .v (.int .i64 0), .v (.int .i64 0), .v (.int .u64 0), .v (.int .i64 0), .v (.string ⟨#[]⟩), .v (.string ⟨#[]⟩), .sl [] .nil, .v (.int .i64 0), .v (.int .i64 0), .v (.int .i64 0), .v (.string ⟨#[]⟩), .v (.string ⟨#[]⟩), .v (.int .i64 0), .v (.int .i64 0), .v (.int .u64 0), .v (.int .i64 0), .v (.string ⟨#[]⟩), .v (.string ⟨#[]⟩), .sl [] .nil, .v (.int .i64 0), .v (.int .i64 0), .v (.int .i64 0), .v (.int .i64 0), .v (.string ⟨#[]⟩), .v (.int .i64 0), .v (.int .i64 0), .v (.int .i64 0), .v (.string ⟨#[]⟩), .v (.string ⟨#[]⟩), .v (.int .i64 0), .v (.int .i64 0), .v (.int .u64 0), .v (.int .i64 0), .v (.string ⟨#[]⟩), .v (.string ⟨#[]⟩), .sl [] .nil, .v (.int .i64 0), .v (.int .i64 0), .v (.int .i64 0), .v (.int .i64 0), .v (.int .i64 0), .v (.int .i64 0), .v (.int .u64 0), .v (.int .i64 0), .v (.string ⟨#[]⟩), .v (.string ⟨#[]⟩), .sl [] .nil, .v (.int .i64 0), .v (.int .i64 0), .v (.int .i64 0), .sl [] .nil, .sl [] .nil, .sl [] .nil, .v (.int .i64 0), .v (.int .i64 0)]
(aStore st.stk.length 58 q10 p1_ st9).bind fun st11 =>
beginR i st11 fun st12 =>
(shift q10 0).bind fun p13 =>
(aLoad false 1 p13 st12).bind fun p14 =>
(aBin Try.prog true .eql 3 p14 (PV.v (.int .i64 11))).bind fun p15 =>
onBool p15 fun b16 => (bif b16 then
(aLoad false 1 (nth vs 0) st12).bind fun p18 =>
(shift q10 1).bind fun p19 =>
(aLoad false 1 p19 st12).bind fun p20 =>
(rBuildSlice 1 [.v (.string ⟨#[]⟩)] 1 [(0, p20)]).bind fun p21 =>
(elemsOf st12 p21).bind fun ys22 =>
(rAppend st.stk.length [.v (.string ⟨#[]⟩)] 1 16 p18 ys22 st12).bind fun r23 =>
(aStore st.stk.length 1 (nth vs 0) r23.1 r23.2).bind fun st24 =>
some (Ex.normal, ([] : List PV), st24)
else
some (Ex.normal, ([] : List PV), st12)).bind fun r17 =>
finR st.stk.length st.tk.length st.lp.length i (Ex.outOf 1 r17.1) r17.2.2
/-- padlock/tree.Calls -/
noncomputable def S20 (call : CallF) (it : LoopF) (a0 : PV) (st : St) : Option (PV × St) :=
let q2 : PV := .ptr false st.stk.length 0
let st1 := st.push [.sl [] .nil]
(call (.func 26) [canon a0] st1).bind fun r3 =>
onFn r3.1 fun g4 caps5 => bif true && plainFn g4 then
(call g4 (.clo (.yield r3.2.lp.length) [] :: caps5) { r3.2 with lp := r3.2.lp ++ [.loop (S20.lp0 [q2])] }).bind fun r6 =>
endLp r6.2 r3.2.stk.length r3.2.tk.length r3.2.lp.length fun x7 st8 =>
seqK (Ex.outOf 0 x7) ((aLoad false 1 q2 st8).bind fun p26 =>
fin st.stk.length st.tk.length st.lp.length [p26] st8) fun x25 =>
retK x25 (fin st.stk.length st.tk.length st.lp.length [(PV.sl [] .nil)] st8)
else none
theorem S20_eq (a0 : PV) (st : St) : E L (.func 20) [a0] st = S20 (E L) itE a0 st := (E_func' (by rfl) Try.func20 _ _).trans (by kernel_rfl)
theorem S20.r0_eq {i : Nat} {vs : List PV} {st : St} (h : st.loop i = some (S20.lp0 vs)) (p0_ p1_ : PV) : E L (.yield i) [p0_, p1_] st = S20.r0 (E L) itE i vs p0_ p1_ st := (E_yield h _).trans (by kernel_rfl)
noncomputable def S6.b0 (call : CallF) (it : LoopF) (base lb : Nat) (vs19 : List PV) (st20 : St) : Option (Ex × List PV × St) :=
(aBin Try.prog false .lss 3 (nth vs19 8) (nth vs19 7)).bind fun p21 =>
onBool p21 fun b22 => (bif b22 then
some (Ex.normal, [(nth vs19 0), (nth vs19 1), (nth vs19 2), (nth vs19 3), (nth vs19 4), (nth vs19 5), (nth vs19 6), (nth vs19 7), (nth vs19 8)], st20)
else
some ((Ex.exit 0), [(nth vs19 0), (nth vs19 1), (nth vs19 2), (nth vs19 3), (nth vs19 4), (nth vs19 5), (nth vs19 6), (nth vs19 7), (nth vs19 8)], st20)).bind fun r23 =>
seqK r23.1 ((aIndexAddr Try.prog 26 (nth r23.2.1 6) (nth r23.2.1 8)).bind fun p25 =>
(aLoad true 5 p25 r23.2.2).bind fun p26 =>
let q28 : PV := .ptr false r23.2.2.stk.length 0
let st27 := r23.2.2.push [.v (.string ⟨#[]⟩), .sl [] .nil, .sl [] .nil, .v (.int .i64 0), .v (.int .i64 0)]
(aStore base 5 q28 p26 st27).bind fun st29 =>
(shift q28 2).bind fun p30 =>
(aLoad false 1 p30 st29).bind fun p31 =>
(rBuildSlice 1 [.sl [] .nil] 1 [(0, p31)]).bind fun p32 =>
(elemsOf st29 p32).bind fun ys33 =>
(rAppend base [.sl [] .nil] 1 24 (nth r23.2.1 5) ys33 st29).bind fun r34 =>
(aBin Try.prog true .add 3 (nth r23.2.1 8) (PV.v (.int .i64 1))).bind fun p35 =>
leaveV base lb st20.stk.length Ex.normal [(nth r23.2.1 0), (nth r23.2.1 1), (nth r23.2.1 2), (nth r23.2.1 3), (nth r23.2.1 4), r34.1, (nth r23.2.1 6), (nth r23.2.1 7), p35] r34.2) fun x24 =>
leaveV base lb st20.stk.length x24 [(nth r23.2.1 0), (nth r23.2.1 1), (nth r23.2.1 2), (nth r23.2.1 3), (nth r23.2.1 4), (nth r23.2.1 5), (nth r23.2.1 6), (nth r23.2.1 7), (nth r23.2.1 8)] r23.2.2
noncomputable def S6.b1 (call : CallF) (it : LoopF) (base lb : Nat) (vs41 : List PV) (st42 : St) : Option (Ex × List PV × St) :=
(aBin Try.prog false .lss 3 (nth vs41 8) (nth vs41 7)).bind fun p43 =>
onBool p43 fun b44 => (bif b44 then
some (Ex.normal, [(nth vs41 0), (nth vs41 1), (nth vs41 2), (nth vs41 3), (nth vs41 4), (nth vs41 5), (nth vs41 6), (nth vs41 7), (nth vs41 8)], st42)
else
some ((Ex.exit 2), [(nth vs41 0), (nth vs41 1), (nth vs41 2), (nth vs41 3), (nth vs41 4), (nth vs41 5), (nth vs41 6), (nth vs41 7), (nth vs41 8)], st42)).bind fun r45 =>
seqK r45.1 ((aIndexAddr Try.prog 27 (nth r45.2.1 6) (nth r45.2.1 8)).bind fun p47 =>
(aLoad true 3 p47 r45.2.2).bind fun p48 =>
let q50 : PV := .ptr false r45.2.2.stk.length 0
let st49 := r45.2.2.push [.sl [] .nil, .v (.int .i64 0), .v (.int .i64 0)]
(aStore base 3 q50 p48 st49).bind fun st51 =>
(shift q50 0).bind fun p52 =>
(aLoad false 1 p52 st51).bind fun p53 =>
(rBuildSlice 1 [.sl [] .nil] 1 [(0, p53)]).bind fun p54 =>
(elemsOf st51 p54).bind fun ys55 =>
(rAppend base [.sl [] .nil] 1 24 (nth r45.2.1 5) ys55 st51).bind fun r56 =>
(aBin Try.prog true .add 3 (nth r45.2.1 8) (PV.v (.int .i64 1))).bind fun p57 =>
leaveV base lb st42.stk.length Ex.normal [(nth r45.2.1 0), (nth r45.2.1 1), (nth r45.2.1 2), (nth r45.2.1 3), (nth r45.2.1 4), r56.1, (nth r45.2.1 6), (nth r45.2.1 7), p57] r56.2) fun x46 =>
leaveV base lb st42.stk.length x46 [(nth r45.2.1 0), (nth r45.2.1 1), (nth r45.2.1 2), (nth r45.2.1 3), (nth r45.2.1 4), (nth r45.2.1 5), (nth r45.2.1 6), (nth r45.2.1 7), (nth r45.2.1 8)] r45.2.2
noncomputable def S6.b3 (call : CallF) (it : LoopF) (base lb : Nat) (vs90 : List PV) (st91 : St) : Option (Ex × List PV × St) :=
(aBin Try.prog false .lss 3 (nth vs90 13) (nth vs90 12)).bind fun p92 =>
onBool p92 fun b93 => (bif b93 then
some (Ex.normal, [(nth vs90 0), (nth vs90 1), (nth vs90 2), (nth vs90 3), (nth vs90 4), (nth vs90 5), (nth vs90 6), (nth vs90 7), (nth vs90 8), (nth vs90 9), (nth vs90 10), (nth vs90 11), (nth vs90 12), (nth vs90 13)], st91)
else
some ((Ex.exit 6), [(nth vs90 0), (nth vs90 1), (nth vs90 2), (nth vs90 3), (nth vs90 4), (nth vs90 5), (nth vs90 6), (nth vs90 7), (nth vs90 8), (nth vs90 9), (nth vs90 10), (nth vs90 11), (nth vs90 12), (nth vs90 13)], st91)).bind fun r94 =>
seqK r94.1 ((aIndexAddr Try.prog 31 (nth r94.2.1 11) (nth r94.2.1 13)).bind fun p96 =>
(aLoad true 58 p96 r94.2.2).bind fun p97 =>
let q99 : PV := .ptr false r94.2.2.stk.length 0
let st98 := r94.2.2.push [.v (.int .i64 0), .v (.string ⟨#[]⟩), .v (.int .i64 0), .v (.int .i64 0), .v (.int .i64 0), .v (.int .u64 0), .v (.int .i64 0), .v (.string ⟨#[]⟩), .v (.string ⟨#[]⟩), .sl [] .nil, .v (.int .i64 0), .v (.int .i64 0), .v (.int .i64 0), .v (.string ⟨#[]⟩), .v (.string ⟨#[]⟩), .v (.int .i64 0), .v (.int .i64 0), .v (.int .u64 0), .v (.int .i64 0), .v (.string ⟨#[]⟩), .v (.string ⟨#[]⟩), .sl [] .nil, .v (.int .i64 0), .v (.int .i64 0), .v (.int .i64 0), .v (.int .i64 0), .v (.string ⟨#[]⟩), .v (.int .i64 0), .v (.int .i64 0), .v (.int .i64 0), .v (.string ⟨#[]⟩), .v (.string ⟨#[]⟩), .v (.int .i64 0), .v (.int .i64 0), .v (.int .u64 0), .v (.int .i64 0), .v (.string ⟨#[]⟩), .v (.string ⟨#[]⟩), .sl [] .nil, .v (.int .i64 0), .v (.int .i64 0), .v (.int .i64 0), .v (.int .i64 0), .v (.int .i64 0), .v (.int .i64 0), .v (.int .u64 0), .v (.int .i64 0), .v (.string ⟨#[]⟩), .v (.string ⟨#[]⟩), .sl [] .nil, .v (.int .i64 0), .v (.int .i64 0), .v (.int .i64 0), .sl [] .nil, .sl [] .nil, .sl [] .nil, .v (.int .i64 0), .v (.int .i64 0)]
(aStore base 58 q99 p97 st98).bind fun st100 =>
(aIndexAddr Try.prog 22 (nth r94.2.1 6) (nth r94.2.1 13)).bind fun p101 =>
(aLoad false 1 p101 st100).bind fun p102 =>
(aMax2 Try.prog (nth r94.2.1 4) p102).bind fun p103 =>
(shift q99 0).bind fun p104 =>
(aLoad false 1 p104 st100).bind fun p105 =>
(aBin Try.prog true .eql 3 p105 (PV.v (.int .i64 11))).bind fun p106 =>
onBool p106 fun b107 => (bif b107 then
(shift q99 1).bind fun p109 =>
(aLoad false 1 p109 st100).bind fun p110 =>
(rBuildSlice 1 [.v (.string ⟨#[]⟩)] 1 [(0, p110)]).bind fun p111 =>
(elemsOf st100 p111).bind fun ys112 =>
(rAppend base [.v (.string ⟨#[]⟩)] 1 16 (nth r94.2.1 7) ys112 st100).bind fun r113 =>
some (Ex.normal, [(nth r94.2.1 0), (nth r94.2.1 1), (nth r94.2.1 2), (nth r94.2.1 3), p103, (nth r94.2.1 5), (nth r94.2.1 6), r113.1, (nth r94.2.1 8), (nth r94.2.1 9), (nth r94.2.1 10), (nth r94.2.1 11), (nth r94.2.1 12), (nth r94.2.1 13)], r113.2)
else
some (Ex.normal, [(nth r94.2.1 0), (nth r94.2.1 1), (nth r94.2.1 2), (nth r94.2.1 3), p103, (nth r94.2.1 5), (nth r94.2.1 6), (nth r94.2.1 7), (nth r94.2.1 8), (nth r94.2.1 9), (nth r94.2.1 10), (nth r94.2.1 11), (nth r94.2.1 12), (nth r94.2.1 13)], st100)).bind fun r108 =>
seqK (Ex.outOf 7 r108.1) ((aBin Try.prog true .add 3 (nth r108.2.1 13) (PV.v (.int .i64 1))).bind fun p115 =>
leaveV base lb st91.stk.length Ex.normal [(nth r108.2.1 0), (nth r108.2.1 1), (nth r108.2.1 2), (nth r108.2.1 3), (nth r108.2.1 4), (nth r108.2.1 5), (nth r108.2.1 6), (nth r108.2.1 7), (nth r108.2.1 8), (nth r108.2.1 9), (nth r108.2.1 10), (nth r108.2.1 11), (nth r108.2.1 12), p115] r108.2.2) fun x114 =>
leaveV base lb st91.stk.length x114 [(nth r108.2.1 0), (nth r108.2.1 1), (nth r108.2.1 2), (nth r108.2.1 3), (nth r108.2.1 4), (nth r108.2.1 5), (nth r108.2.1 6), (nth r108.2.1 7), (nth r108.2.1 8), (nth r108.2.1 9), (nth r108.2.1 10), (nth r108.2.1 11), (nth r108.2.1 12), (nth r108.2.1 13)] r108.2.2) fun x95 =>
leaveV base lb st91.stk.length x95 [(nth r94.2.1 0), (nth r94.2.1 1), (nth r94.2.1 2), (nth r94.2.1 3), (nth r94.2.1 4), (nth r94.2.1 5), (nth r94.2.1 6), (nth r94.2.1 7), (nth r94.2.1 8), (nth r94.2.1 9), (nth r94.2.1 10), (nth r94.2.1 11), (nth r94.2.1 12), (nth r94.2.1 13)] r94.2.2
noncomputable def S6.b2 (call : CallF) (it : LoopF) (base lb : Nat) (vs61 : List PV) (st62 : St) : Option (Ex × List PV × St) :=
(aBin Try.prog false .lss 3 (nth vs61 7) (nth vs61 6)).bind fun p63 =>
onBool p63 fun b64 => (bif b64 then
some (Ex.normal, [(nth vs61 0), (nth vs61 1), (nth vs61 2), (nth vs61 3), (nth vs61 4), (nth vs61 5), (nth vs61 6), (nth vs61 7)], st62)
else
some ((Ex.exit 4), [(nth vs61 0), (nth vs61 1), (nth vs61 2), (nth vs61 3), (nth vs61 4), (nth vs61 5), (nth vs61 6), (nth vs61 7)], st62)).bind fun r65 =>
seqK r65.1 ((aIndexAddr Try.prog 61 (nth r65.2.1 5) (nth r65.2.1 7)).bind fun p67 =>
(aLoad false 1 p67 r65.2.2).bind fun p68 =>
(call (.func 9) [canon p68, canon (nth r65.2.1 0)] r65.2.2).bind fun r69 =>
(aExtract r69.1 0).bind fun p70 =>
(aExtract r69.1 1).bind fun p71 =>
(aUn Try.prog .not p71).bind fun p72 =>
onBool p72 fun b73 => (bif b73 then
some (Ex.ret, [(nth r65.2.1 0), (PV.v (.bool false)), (nth r65.2.1 2), (nth r65.2.1 3), (nth r65.2.1 4), p68, (nth r65.2.1 5), (nth r65.2.1 6), (nth r65.2.1 7)], r69.2)
else
some (Ex.normal, [(nth r65.2.1 0), (nth r65.2.1 1), (nth r65.2.1 2), (nth r65.2.1 3), (nth r65.2.1 4), p68, (nth r65.2.1 5), (nth r65.2.1 6), (nth r65.2.1 7)], r69.2)).bind fun r74 =>
seqK r74.1 ((call (.func 9) [canon (nth r74.2.1 5), canon (PV.v (.int .i64 1000))] r74.2.2).bind fun r76 =>
(aExtract r76.1 0).bind fun p77 =>
(aExtract r76.1 1).bind fun p78 =>
(aUn Try.prog .not p78).bind fun p79 =>
onBool p79 fun b80 => (bif b80 then
some (Ex.ret, [(nth r74.2.1 0), (PV.v (.bool false)), (nth r74.2.1 2), (nth r74.2.1 3), (nth r74.2.1 4), (nth r74.2.1 5), (nth r74.2.1 6), (nth r74.2.1 7), (nth r74.2.1 8)], r76.2)
else
some (Ex.normal, [(nth r74.2.1 0), (nth r74.2.1 1), (nth r74.2.1 2), (nth r74.2.1 3), (nth r74.2.1 4), (nth r74.2.1 5), (nth r74.2.1 6), (nth r74.2.1 7), (nth r74.2.1 8)], r76.2)).bind fun r81 =>
seqK r81.1 ((call (.func 19) [canon (nth r81.2.1 5), canon (PV.v (.int .i64 0))] r81.2.2).bind fun r83 =>
(aExtract r83.1 0).bind fun p84 =>
(aExtract r83.1 1).bind fun p85 =>
(aLen Try.prog 31 p84).bind fun p86 =>
(aBin Try.prog false .add 3 (nth r81.2.1 3) p86).bind fun p87 =>
(aLen Try.prog 31 p84).bind fun p88 =>
(it (S6.b3 call it base lb) [(nth r81.2.1 0), (nth r81.2.1 1), (nth r81.2.1 2), p87, (nth r81.2.1 4), (nth r81.2.1 5), p85, (PV.sl [] .nil), (nth r81.2.1 6), (nth r81.2.1 7), (nth r81.2.1 8), p84, p88, (PV.v (.int .i64 0))] r83.2).bind fun r89 =>
seqK (Ex.outOf 6 r89.1) ((call (.func 20) [canon (nth r89.2.1 5)] r89.2.2).bind fun r117 =>
(call (.func 13) [canon r117.1, canon (nth r89.2.1 7)] r117.2).bind fun r118 =>
(aUn Try.prog .not r118.1).bind fun p119 =>
onBool p119 fun b120 => (bif b120 then
some (Ex.ret, [(nth r89.2.1 0), (PV.v (.bool false)), (nth r89.2.1 2), (nth r89.2.1 3), (nth r89.2.1 4), (nth r89.2.1 8), (nth r89.2.1 9), (nth r89.2.1 10)], r118.2)
else
some (Ex.normal, [(nth r89.2.1 0), (nth r89.2.1 1), (nth r89.2.1 2), (nth r89.2.1 3), (nth r89.2.1 4), (nth r89.2.1 8), (nth r89.2.1 9), (nth r89.2.1 10)], r118.2)).bind fun r121 =>
seqK (Ex.outOf 5 r121.1) ((aBin Try.prog true .add 3 (nth r121.2.1 7) (PV.v (.int .i64 1))).bind fun p123 =>
leaveV base lb st62.stk.length Ex.normal [(nth r121.2.1 0), (nth r121.2.1 1), (nth r121.2.1 2), (nth r121.2.1 3), (nth r121.2.1 4), (nth r121.2.1 5), (nth r121.2.1 6), p123] r121.2.2) fun x122 =>
leaveV base lb st62.stk.length x122 [(nth r121.2.1 0), (nth r121.2.1 1), (nth r121.2.1 2), (nth r121.2.1 3), (nth r121.2.1 4), (nth r121.2.1 5), (nth r121.2.1 6), (nth r121.2.1 7)] r121.2.2) fun x116 =>
seqK (Ex.outOf 5 x116) ((aBin Try.prog true .add 3 (nth r89.2.1 10) (PV.v (.int .i64 1))).bind fun p125 =>
leaveV base lb st62.stk.length Ex.normal [(nth r89.2.1 0), (nth r89.2.1 1), (nth r89.2.1 2), (nth r89.2.1 3), (nth r89.2.1 4), (nth r89.2.1 8), (nth r89.2.1 9), p125] r89.2.2) fun x124 =>
leaveV base lb st62.stk.length x124 [(nth r89.2.1 0), (nth r89.2.1 1), (nth r89.2.1 2), (nth r89.2.1 3), (nth r89.2.1 4), (nth r89.2.1 8), (nth r89.2.1 9), (nth r89.2.1 10)] r89.2.2) fun x82 =>
seqK (Ex.outOf 5 x82) ((aBin Try.prog true .add 3 (nth r81.2.1 8) (PV.v (.int .i64 1))).bind fun p127 =>
leaveV base lb st62.stk.length Ex.normal [(nth r81.2.1 0), (nth r81.2.1 1), (nth r81.2.1 2), (nth r81.2.1 3), (nth r81.2.1 4), (nth r81.2.1 6), (nth r81.2.1 7), p127] r81.2.2) fun x126 =>
leaveV base lb st62.stk.length x126 [(nth r81.2.1 0), (nth r81.2.1 1), (nth r81.2.1 2), (nth r81.2.1 3), (nth r81.2.1 4), (nth r81.2.1 6), (nth r81.2.1 7), (nth r81.2.1 8)] r81.2.2) fun x75 =>
seqK (Ex.outOf 5 x75) ((aBin Try.prog true .add 3 (nth r74.2.1 8) (PV.v (.int .i64 1))).bind fun p129 =>
leaveV base lb st62.stk.length Ex.normal [(nth r74.2.1 0), (nth r74.2.1 1), (nth r74.2.1 2), (nth r74.2.1 3), (nth r74.2.1 4), (nth r74.2.1 6), (nth r74.2.1 7), p129] r74.2.2) fun x128 =>
leaveV base lb st62.stk.length x128 [(nth r74.2.1 0), (nth r74.2.1 1), (nth r74.2.1 2), (nth r74.2.1 3), (nth r74.2.1 4), (nth r74.2.1 6), (nth r74.2.1 7), (nth r74.2.1 8)] r74.2.2) fun x66 =>
leaveV base lb st62.stk.length x66 [(nth r65.2.1 0), (nth r65.2.1 1), (nth r65.2.1 2), (nth r65.2.1 3), (nth r65.2.1 4), (nth r65.2.1 5), (nth r65.2.1 6), (nth r65.2.1 7)] r65.2.2
/-- padlock/padlocklaw04.TreeAll -/
noncomputable def S6 (call : CallF) (it : LoopF) (a0 a1 : PV) (st : St) : Option (PV × St) :=
(call (.func 7) [] st).bind fun r1 =>
(aUn Try.prog .not r1.1).bind fun p2 =>
onBool p2 fun b3 => (bif b3 then
some (Ex.ret, [a0, a1, (PV.v (.bool false))], r1.2)
else
some (Ex.normal, [a0, a1, (PV.v (.bool false))], r1.2)).bind fun r4 =>
seqK r4.1 ((aLen Try.prog 22 (nth r4.2.1 0)).bind fun p6 =>
(aBin Try.prog true .gtr 3 p6 (PV.v (.int .i64 400))).bind fun p7 =>
onBool p7 fun b8 => (bif b8 then
some (Ex.ret, [(nth r4.2.1 0), (nth r4.2.1 1), (PV.v (.bool true))], r4.2.2)
else
some (Ex.normal, [(nth r4.2.1 0), (nth r4.2.1 1), (nth r4.2.1 2)], r4.2.2)).bind fun r9 =>
seqK r9.1 ((call (.func 8) [canon (nth r9.2.1 0)] r9.2.2).bind fun r11 =>
let q13 : PV := .ptr false r11.2.stk.length 0
let st12 := r11.2.push [.sl [] .nil, .sl [] .nil, .sl [] .nil, .sl [] .nil]
(aStore st.stk.length 4 q13 r11.1 st12).bind fun st14 =>
(shift q13 2).bind fun p15 =>
(aLoad false 1 p15 st14).bind fun p16 =>
(aLen Try.prog 26 p16).bind fun p17 =>
(it (S6.b0 call it st.stk.length st.lp.length) [(nth r9.2.1 1), (nth r9.2.1 2), q13, (PV.v (.int .i64 0)), (PV.v (.int .i64 (-1))), (PV.sl [] .nil), p16, p17, (PV.v (.int .i64 0))] st14).bind fun r18 =>
seqK (Ex.outOf 0 r18.1) ((shift (nth r18.2.1 2) 3).bind fun p37 =>
(aLoad false 1 p37 r18.2.2).bind fun p38 =>
(aLen Try.prog 27 p38).bind fun p39 =>
(it (S6.b1 call it st.stk.length st.lp.length) [(nth r18.2.1 0), (nth r18.2.1 1), (nth r18.2.1 2), (nth r18.2.1 3), (nth r18.2.1 4), (nth r18.2.1 5), p38, p39, (PV.v (.int .i64 0))] r18.2.2).bind fun r40 =>
seqK (Ex.outOf 2 r40.1) ((aLen Try.prog 61 (nth r40.2.1 5)).bind fun p59 =>
(it (S6.b2 call it st.stk.length st.lp.length) [(nth r40.2.1 0), (nth r40.2.1 1), (nth r40.2.1 2), (nth r40.2.1 3), (nth r40.2.1 4), (nth r40.2.1 5), p59, (PV.v (.int .i64 0))] r40.2.2).bind fun r60 =>
seqK (Ex.outOf 4 r60.1) ((aLoad true 4 (nth r60.2.1 2) r60.2.2).bind fun p131 =>
(call (.func 21) [canon p131] r60.2.2).bind fun r132 =>
(aExtract r132.1 0).bind fun p133 =>
(aExtract r132.1 1).bind fun p134 =>
(aBin Try.prog false .eql 3 p133 (nth r60.2.1 3)).bind fun p135 =>
(onG p135 true (
some (p134, r132.2)) r132.2).bind fun r137 =>
(onG p135 true (
some ((nth r60.2.1 4), r137.2)) r137.2).bind fun r139 =>
(onG p135 true (
(aBin Try.prog false .eql 3 r137.1 r139.1).bind fun p142 =>
some (p142, r139.2)) r139.2).bind fun r141 =>
(aPick p135 r141.1 (PV.v (.bool false))).bind fun p143 =>
fin st.stk.length st.tk.length st.lp.length [p143] r141.2) fun x130 =>
retK x130 (fin st.stk.length st.tk.length st.lp.length [(nth r60.2.1 1)] r60.2.2)) fun x58 =>
retK x58 (fin st.stk.length st.tk.length st.lp.length [(nth r40.2.1 1)] r40.2.2)) fun x36 =>
retK x36 (fin st.stk.length st.tk.length st.lp.length [(nth r18.2.1 1)] r18.2.2)) fun x10 =>
retK x10 (fin st.stk.length st.tk.length st.lp.length [(nth r9.2.1 2)] r9.2.2)) fun x5 =>
retK x5 (fin st.stk.length st.tk.length st.lp.length [(nth r4.2.1 2)] r4.2.2)
theorem S6_eq (a0 a1 : PV) (st : St) : E L (.func 6) [a0, a1] st = S6 (E L) itE a0 a1 st := (E_func' (by rfl) Try.func6 _ _).trans (by kernel_rfl)
/-- padlock/tree.Same$1 -/
noncomputable def S30 (call : CallF) (it : LoopF) (a0 a1 : PV) (st : St) : Option (PV × St) :=
(cellsOf a0).bind fun b1 =>
let q3 : PV := .ptr false st.stk.length 0
let st2 := st.push b1
(cellsOf a1).bind fun b4 =>
let q6 : PV := .ptr false st2.stk.length 0
let st5 := st2.push b4
(shift q3 0).bind fun p7 =>
(aLoad false 1 p7 st5).bind fun p8 =>
(shift q6 0).bind fun p9 =>
(aLoad false 1 p9 st5).bind fun p10 =>
(aBin Try.prog false .eql 9 p8 p10).bind fun p11 =>
(onG p11 true (
(shift q3 1).bind fun p14 =>
some (p14, st5)) st5).bind fun r13 =>
(onG p11 true (
(aLoad false 1 r13.1 r13.2).bind fun p17 =>
some (p17, r13.2)) r13.2).bind fun r16 =>
(onG p11 true (
(shift q6 1).bind fun p20 =>
some (p20, r16.2)) r16.2).bind fun r19 =>
(onG p11 true (
(aLoad false 1 r19.1 r19.2).bind fun p23 =>
some (p23, r19.2)) r19.2).bind fun r22 =>
(onG p11 true (
(call (.func 31) [canon r16.1, canon r22.1, canon (PV.clo (.func 32) [])] r22.2).bind fun r26 =>
some (r26.1, r26.2)) r22.2).bind fun r25 =>
(aPick p11 r25.1 (PV.v (.bool false))).bind fun p27 =>
fin st.stk.length st.tk.length st.lp.length [p27] r25.2
theorem S30_eq (a0 a1 : PV) (st : St) : E L (.func 30) [a0, a1] st = S30 (E L) itE a0 a1 st := (E_func' (by rfl) Try.func30 _ _).trans (by kernel_rfl)
/-- padlock/tree.Same$2 -/
noncomputable def S34 (call : CallF) (it : LoopF) (a0 a1 : PV) (st : St) : Option (PV × St) :=
(cellsOf a0).bind fun b1 =>
let q3 : PV := .ptr false st.stk.length 0
let st2 := st.push b1
(cellsOf a1).bind fun b4 =>
let q6 : PV := .ptr false st2.stk.length 0
let st5 := st2.push b4
(shift q3 0).bind fun p7 =>
(aLoad false 1 p7 st5).bind fun p8 =>
(shift q6 0).bind fun p9 =>
(aLoad false 1 p9 st5).bind fun p10 =>
(aBin Try.prog false .eql 9 p8 p10).bind fun p11 =>
(onG p11 true (
(shift q3 1).bind fun p14 =>
some (p14, st5)) st5).bind fun r13 =>
(onG p11 true (
(aLoad false 1 r13.1 r13.2).bind fun p17 =>
some (p17, r13.2)) r13.2).bind fun r16 =>
(onG p11 true (
(shift q6 1).bind fun p20 =>
some (p20, r16.2)) r16.2).bind fun r19 =>
(onG p11 true (
(aLoad false 1 r19.1 r19.2).bind fun p23 =>
some (p23, r19.2)) r19.2).bind fun r22 =>
(onG p11 true (
(call (.func 31) [canon r16.1, canon r22.1, canon (PV.clo (.func 32) [])] r22.2).bind fun r26 =>
some (r26.1, r26.2)) r22.2).bind fun r25 =>
(aPick p11 r25.1 (PV.v (.bool false))).bind fun p27 =>
(onG p27 true (
(shift q3 2).bind fun p30 =>
some (p30, r25.2)) r25.2).bind fun r29 =>
(onG p27 true (
(aLoad false 1 r29.1 r29.2).bind fun p33 =>
some (p33, r29.2)) r29.2).bind fun r32 =>
(onG p27 true (
(shift q6 2).bind fun p36 =>
some (p36, r32.2)) r32.2).bind fun r35 =>
(onG p27 true (
(aLoad false 1 r35.1 r35.2).bind fun p39 =>
some (p39, r35.2)) r35.2).bind fun r38 =>
(onG p27 true (
(call (.func 10) [canon r32.1, canon r38.1] r38.2).bind fun r42 =>
some (r42.1, r42.2)) r38.2).bind fun r41 =>
(aPick p27 r41.1 (PV.v (.bool false))).bind fun p43 =>
fin st.stk.length st.tk.length st.lp.length [p43] r41.2
theorem S34_eq (a0 a1 : PV) (st : St) : E L (.func 34) [a0, a1] st = S34 (E L) itE a0 a1 st := (E_func' (by rfl) Try.func34 _ _).trans (by kernel_rfl)
/-- padlock/tree.Same$3 -/
noncomputable def S36 (call : CallF) (it : LoopF) (a0 a1 : PV) (st : St) : Option (PV × St) :=
(cellsOf a0).bind fun b1 =>
let q3 : PV := .ptr false st.stk.length 0
let st2 := st.push b1
(cellsOf a1).bind fun b4 =>
let q6 : PV := .ptr false st2.stk.length 0
let st5 := st2.push b4
(shift q3 0).bind fun p7 =>
(aLoad false 1 p7 st5).bind fun p8 =>
(shift q6 0).bind fun p9 =>
(aLoad false 1 p9 st5).bind fun p10 =>
(call (.func 10) [canon p8, canon p10] st5).bind fun r11 =>
fin st.stk.length st.tk.length st.lp.length [r11.1] r11.2
theorem S36_eq (a0 a1 : PV) (st : St) : E L (.func 36) [a0, a1] st = S36 (E L) itE a0 a1 st := (E_func' (by rfl) Try.func36 _ _).trans (by kernel_rfl)
/-- padlock/tree.All$1 -/
noncomputable def S45 (call : CallF) (it : LoopF) (a0 a1 : PV) (st : St) : Option (PV × St) :=
(aLoad false 1 a1 st).bind fun p1 =>
(call (.func 46) [canon p1, canon (PV.v (.int .i64 0)), canon a0] st).bind fun r2 =>
fin st.stk.length st.tk.length st.lp.length [] r2.2
theorem S45_eq (a0 a1 : PV) (st : St) : E L (.func 45) [a0, a1] st = S45 (E L) itE a0 a1 st := (E_func' (by rfl) Try.func45 _ _).trans (by kernel_rfl)
end Go.Proofs.Ytkbhejcfejembaa.S

/- The seat's functions, each as a Lean function over plain values, and that the evaluator comes to it: written by my program mkS.py. No condition. -/
namespace Go.Proofs.Ytkbhejcfejembaa.S
open Go Go.AM Go.Proofs
set_option linter.unusedVariables false
noncomputable def S46.b0 (call : CallF) (it : LoopF) (base lb : Nat) (vs3 : List PV) (st4 : St) : Option (Ex × List PV × St) :=
(aBin Try.prog false .lss 3 (nth vs3 5) (nth vs3 4)).bind fun p5 =>
onBool p5 fun b6 => (bif b6 then
some (Ex.normal, [(nth vs3 0), (nth vs3 1), (nth vs3 2), (nth vs3 3), (nth vs3 4), (nth vs3 5)], st4)
else
some ((Ex.exit 0), [(nth vs3 0), (nth vs3 1), (nth vs3 2), (nth vs3 3), (nth vs3 4), (nth vs3 5)], st4)).bind fun r7 =>
seqK r7.1 ((aIndexAddr Try.prog 31 (nth r7.2.1 3) (nth r7.2.1 5)).bind fun p9 =>
(aLoad true 58 p9 r7.2.2).bind fun p10 =>
let q12 : PV := .ptr false r7.2.2.stk.length 0
let st11 := r7.2.2.push [.v (.int .i64 0), .v (.string ⟨#[]⟩), .v (.int .i64 0), .v (.int .i64 0), .v (.int .i64 0), .v (.int .u64 0), .v (.int .i64 0), .v (.string ⟨#[]⟩), .v (.string ⟨#[]⟩), .sl [] .nil, .v (.int .i64 0), .v (.int .i64 0), .v (.int .i64 0), .v (.string ⟨#[]⟩), .v (.string ⟨#[]⟩), .v (.int .i64 0), .v (.int .i64 0), .v (.int .u64 0), .v (.int .i64 0), .v (.string ⟨#[]⟩), .v (.string ⟨#[]⟩), .sl [] .nil, .v (.int .i64 0), .v (.int .i64 0), .v (.int .i64 0), .v (.int .i64 0), .v (.string ⟨#[]⟩), .v (.int .i64 0), .v (.int .i64 0), .v (.int .i64 0), .v (.string ⟨#[]⟩), .v (.string ⟨#[]⟩), .v (.int .i64 0), .v (.int .i64 0), .v (.int .u64 0), .v (.int .i64 0), .v (.string ⟨#[]⟩), .v (.string ⟨#[]⟩), .sl [] .nil, .v (.int .i64 0), .v (.int .i64 0), .v (.int .i64 0), .v (.int .i64 0), .v (.int .i64 0), .v (.int .i64 0), .v (.int .u64 0), .v (.int .i64 0), .v (.string ⟨#[]⟩), .v (.string ⟨#[]⟩), .sl [] .nil, .v (.int .i64 0), .v (.int .i64 0), .v (.int .i64 0), .sl [] .nil, .sl [] .nil, .sl [] .nil, .v (.int .i64 0), .v (.int .i64 0)]
(aStore base 58 q12 p10 st11).bind fun st13 =>
(aLoad true 58 q12 st13).bind fun p14 =>
onFn (nth r7.2.1 1) fun g16 caps17 =>
(call g16 ([canon (nth r7.2.1 0), canon p14] ++ caps17) st13).bind fun r15 =>
(aUn Try.prog .not r15.1).bind fun p18 =>
(onG p18 false (
(shift q12 54).bind fun p21 =>
some (p21, r15.2)) r15.2).bind fun r20 =>
(onG p18 false (
(aLoad false 1 r20.1 r20.2).bind fun p24 =>
some (p24, r20.2)) r20.2).bind fun r23 =>
(onG p18 false (
some ((nth r7.2.1 0), r23.2)) r23.2).bind fun r26 =>
(onG p18 false (
(aBin Try.prog true .add 3 r26.1 (PV.v (.int .i64 1))).bind fun p29 =>
some (p29, r26.2)) r26.2).bind fun r28 =>
(onG p18 false (
some ((nth r7.2.1 1), r28.2)) r28.2).bind fun r31 =>
(onG p18 false (
(call (.func 46) [canon r23.1, canon r28.1, canon r31.1] r31.2).bind fun r34 =>
some (r34.1, r34.2)) r31.2).bind fun r33 =>
(onG p18 false (
(aUn Try.prog .not r33.1).bind fun p37 =>
some (p37, r33.2)) r33.2).bind fun r36 =>
(aPick p18 (PV.v (.bool true)) r36.1).bind fun p38 =>
(onG p38 false (
(shift q12 55).bind fun p41 =>
some (p41, r36.2)) r36.2).bind fun r40 =>
(onG p38 false (
(aLoad false 1 r40.1 r40.2).bind fun p44 =>
some (p44, r40.2)) r40.2).bind fun r43 =>
(onG p38 false (
some ((nth r7.2.1 0), r43.2)) r43.2).bind fun r46 =>
(onG p38 false (
(aBin Try.prog true .add 3 r46.1 (PV.v (.int .i64 1))).bind fun p49 =>
some (p49, r46.2)) r46.2).bind fun r48 =>
(onG p38 false (
some ((nth r7.2.1 1), r48.2)) r48.2).bind fun r51 =>
(onG p38 false (
(call (.func 46) [canon r43.1, canon r48.1, canon r51.1] r51.2).bind fun r54 =>
some (r54.1, r54.2)) r51.2).bind fun r53 =>
(onG p38 false (
(aUn Try.prog .not r53.1).bind fun p57 =>
some (p57, r53.2)) r53.2).bind fun r56 =>
(aPick p38 (PV.v (.bool true)) r56.1).bind fun p58 =>
onBool p58 fun b59 => (bif b59 then
some (Ex.ret, [(nth r7.2.1 0), (nth r7.2.1 1), (PV.v (.bool false)), (nth r7.2.1 3), (nth r7.2.1 4), (nth r7.2.1 5)], r56.2)
else
some (Ex.normal, [(nth r7.2.1 0), (nth r7.2.1 1), (nth r7.2.1 2), (nth r7.2.1 3), (nth r7.2.1 4), (nth r7.2.1 5)], r56.2)).bind fun r60 =>
seqK (Ex.outOf 1 r60.1) ((aBin Try.prog true .add 3 (nth r60.2.1 5) (PV.v (.int .i64 1))).bind fun p62 =>
leaveV base lb st4.stk.length Ex.normal [(nth r60.2.1 0), (nth r60.2.1 1), (nth r60.2.1 2), (nth r60.2.1 3), (nth r60.2.1 4), p62] r60.2.2) fun x61 =>
leaveV base lb st4.stk.length x61 [(nth r60.2.1 0), (nth r60.2.1 1), (nth r60.2.1 2), (nth r60.2.1 3), (nth r60.2.1 4), (nth r60.2.1 5)] r60.2.2) fun x8 =>
leaveV base lb st4.stk.length x8 [(nth r7.2.1 0), (nth r7.2.1 1), (nth r7.2.1 2), (nth r7.2.1 3), (nth r7.2.1 4), (nth r7.2.1 5)] r7.2.2
/-- padlock/tree.walk -/
noncomputable def S46 (call : CallF) (it : LoopF) (a0 a1 a2 : PV) (st : St) : Option (PV × St) :=
(aLen Try.prog 31 a0).bind fun p1 =>
(it (S46.b0 call it st.stk.length st.lp.length) [a1, a2, (PV.v (.bool false)), a0, p1, (PV.v (.int .i64 0))] st).bind fun r2 =>
seqK (Ex.outOf 0 r2.1) (fin st.stk.length st.tk.length st.lp.length [(PV.v (.bool true))] r2.2.2) fun x63 =>
retK x63 (fin st.stk.length st.tk.length st.lp.length [(nth r2.2.1 2)] r2.2.2)
theorem S46_eq (a0 a1 a2 : PV) (st : St) : E L (.func 46) [a0, a1, a2] st = S46 (E L) itE a0 a1 a2 st := (E_func' (by rfl) Try.func46 _ _).trans (by kernel_rfl)
end Go.Proofs.Ytkbhejcfejembaa.S

/- What the abstract machine's words say at this program's types: written by my program mkF.py. No condition. -/
namespace Go.Proofs.Ytkbhejcfejembaa.S
open Go Go.AM Go.Proofs
set_option linter.unusedVariables false
theorem beq_4 (c x y : Bool) : aBin Try.prog c .eql 4 (.v (.bool x)) (.v (.bool y)) = some (.v (.bool (x == y))) := by kernel_rfl
theorem bne_4 (c x y : Bool) : aBin Try.prog c .neq 4 (.v (.bool x)) (.v (.bool y)) = some (.v (.bool (!(x == y)))) := by kernel_rfl
theorem under_40 : Try.prog.underlying 40 = some (.struct (Try.prog.fieldsOf 40)) := by kernel_rfl
theorem steq_40 (c : Bool) (x0 y0 : Int) (x1 y1 : ByteArray) : aBin Try.prog c .eql 40 (.agg [(.v (.int .i64 x0)), (.v (.string x1))]) (.agg [(.v (.int .i64 y0)), (.v (.string y1))]) = some (.v (.bool (((x0 == y0) && ((x1 == y1) && true))))) := by kernel_rfl
theorem stne_40 (c : Bool) (x0 y0 : Int) (x1 y1 : ByteArray) : aBin Try.prog c .neq 40 (.agg [(.v (.int .i64 x0)), (.v (.string x1))]) (.agg [(.v (.int .i64 y0)), (.v (.string y1))]) = some (.v (.bool (!(((x0 == y0) && ((x1 == y1) && true)))))) := by kernel_rfl
theorem conv_103_9 (es : List (List PV)) (c : Cap) : aConv Try.prog 103 9 (.sl es c) = (bytesOf es).bind fun bs => some (.v (.string ⟨bs.toArray⟩)) := by kernel_rfl
theorem conv_3_38 (n : Int) : aConv Try.prog 3 38 (.v (.int .i64 n)) = some (.v (.int .u64 (IntKind.u64.wrap n))) := by kernel_rfl
theorem conv_3_59 (n : Int) : aConv Try.prog 3 59 (.v (.int .i64 n)) = some (.v (.int .u64 (IntKind.u64.wrap n))) := by kernel_rfl
theorem conv_38_3 (n : Int) : aConv Try.prog 38 3 (.v (.int .u64 n)) = some (.v (.int .i64 (IntKind.i64.wrap n))) := by kernel_rfl
theorem conv_38_5 (n : Int) : aConv Try.prog 38 5 (.v (.int .u64 n)) = some (.v (.int .u8 (IntKind.u8.wrap n))) := by kernel_rfl
theorem conv_59_3 (n : Int) : aConv Try.prog 59 3 (.v (.int .u64 n)) = some (.v (.int .i64 (IntKind.i64.wrap n))) := by kernel_rfl
theorem ia_107 (es : List (List PV)) (c : Cap) (k : IntKind) (n : Int) : aIndexAddr Try.prog 107 (.sl es c) (.v (.int k n)) = bif inRange n es.length then (es[n.toNat]?).bind fun e => bif Nat.beq e.length 1 && true then some (.fp e 0) else none else none := by kernel_rfl
theorem iar_107 (h : Bool) (b off len sz : Nat) (k : IntKind) (n : Int) : aIndexAddr Try.prog 107 (.rs h b off len sz) (.v (.int k n)) = bif inRange n len && Nat.beq 1 sz && !Nat.beq sz 0 then some (.ptr h b (off + n.toNat * sz)) else none := by kernel_rfl
theorem ia_22 (es : List (List PV)) (c : Cap) (k : IntKind) (n : Int) : aIndexAddr Try.prog 22 (.sl es c) (.v (.int k n)) = bif inRange n es.length then (es[n.toNat]?).bind fun e => bif Nat.beq e.length 1 && true then some (.fp e 0) else none else none := by kernel_rfl
theorem iar_22 (h : Bool) (b off len sz : Nat) (k : IntKind) (n : Int) : aIndexAddr Try.prog 22 (.rs h b off len sz) (.v (.int k n)) = bif inRange n len && Nat.beq 1 sz && !Nat.beq sz 0 then some (.ptr h b (off + n.toNat * sz)) else none := by kernel_rfl
theorem ia_24 (es : List (List PV)) (c : Cap) (k : IntKind) (n : Int) : aIndexAddr Try.prog 24 (.sl es c) (.v (.int k n)) = bif inRange n es.length then (es[n.toNat]?).bind fun e => bif Nat.beq e.length 4 && true then some (.fp e 0) else none else none := by kernel_rfl
theorem iar_24 (h : Bool) (b off len sz : Nat) (k : IntKind) (n : Int) : aIndexAddr Try.prog 24 (.rs h b off len sz) (.v (.int k n)) = bif inRange n len && Nat.beq 4 sz && !Nat.beq sz 0 then some (.ptr h b (off + n.toNat * sz)) else none := by kernel_rfl
theorem ia_25 (es : List (List PV)) (c : Cap) (k : IntKind) (n : Int) : aIndexAddr Try.prog 25 (.sl es c) (.v (.int k n)) = bif inRange n es.length then (es[n.toNat]?).bind fun e => bif Nat.beq e.length 5 && true then some (.fp e 0) else none else none := by kernel_rfl
theorem iar_25 (h : Bool) (b off len sz : Nat) (k : IntKind) (n : Int) : aIndexAddr Try.prog 25 (.rs h b off len sz) (.v (.int k n)) = bif inRange n len && Nat.beq 5 sz && !Nat.beq sz 0 then some (.ptr h b (off + n.toNat * sz)) else none := by kernel_rfl
theorem ia_26 (es : List (List PV)) (c : Cap) (k : IntKind) (n : Int) : aIndexAddr Try.prog 26 (.sl es c) (.v (.int k n)) = bif inRange n es.length then (es[n.toNat]?).bind fun e => bif Nat.beq e.length 5 && true then some (.fp e 0) else none else none := by kernel_rfl
theorem iar_26 (h : Bool) (b off len sz : Nat) (k : IntKind) (n : Int) : aIndexAddr Try.prog 26 (.rs h b off len sz) (.v (.int k n)) = bif inRange n len && Nat.beq 5 sz && !Nat.beq sz 0 then some (.ptr h b (off + n.toNat * sz)) else none := by kernel_rfl
theorem ia_27 (es : List (List PV)) (c : Cap) (k : IntKind) (n : Int) : aIndexAddr Try.prog 27 (.sl es c) (.v (.int k n)) = bif inRange n es.length then (es[n.toNat]?).bind fun e => bif Nat.beq e.length 3 && true then some (.fp e 0) else none else none := by kernel_rfl
theorem iar_27 (h : Bool) (b off len sz : Nat) (k : IntKind) (n : Int) : aIndexAddr Try.prog 27 (.rs h b off len sz) (.v (.int k n)) = bif inRange n len && Nat.beq 3 sz && !Nat.beq sz 0 then some (.ptr h b (off + n.toNat * sz)) else none := by kernel_rfl
theorem ia_31 (es : List (List PV)) (c : Cap) (k : IntKind) (n : Int) : aIndexAddr Try.prog 31 (.sl es c) (.v (.int k n)) = bif inRange n es.length then (es[n.toNat]?).bind fun e => bif Nat.beq e.length 58 && true then some (.fp e 0) else none else none := by kernel_rfl
theorem iar_31 (h : Bool) (b off len sz : Nat) (k : IntKind) (n : Int) : aIndexAddr Try.prog 31 (.rs h b off len sz) (.v (.int k n)) = bif inRange n len && Nat.beq 58 sz && !Nat.beq sz 0 then some (.ptr h b (off + n.toNat * sz)) else none := by kernel_rfl
theorem ia_41 (es : List (List PV)) (c : Cap) (k : IntKind) (n : Int) : aIndexAddr Try.prog 41 (.sl es c) (.v (.int k n)) = bif inRange n es.length then (es[n.toNat]?).bind fun e => bif Nat.beq e.length 9 && true then some (.fp e 0) else none else none := by kernel_rfl
theorem iar_41 (h : Bool) (b off len sz : Nat) (k : IntKind) (n : Int) : aIndexAddr Try.prog 41 (.rs h b off len sz) (.v (.int k n)) = bif inRange n len && Nat.beq 9 sz && !Nat.beq sz 0 then some (.ptr h b (off + n.toNat * sz)) else none := by kernel_rfl
theorem ia_47 (es : List (List PV)) (c : Cap) (k : IntKind) (n : Int) : aIndexAddr Try.prog 47 (.sl es c) (.v (.int k n)) = bif inRange n es.length then (es[n.toNat]?).bind fun e => bif Nat.beq e.length 1 && true then some (.fp e 0) else none else none := by kernel_rfl
theorem iar_47 (h : Bool) (b off len sz : Nat) (k : IntKind) (n : Int) : aIndexAddr Try.prog 47 (.rs h b off len sz) (.v (.int k n)) = bif inRange n len && Nat.beq 1 sz && !Nat.beq sz 0 then some (.ptr h b (off + n.toNat * sz)) else none := by kernel_rfl
theorem ia_61 (es : List (List PV)) (c : Cap) (k : IntKind) (n : Int) : aIndexAddr Try.prog 61 (.sl es c) (.v (.int k n)) = bif inRange n es.length then (es[n.toNat]?).bind fun e => bif Nat.beq e.length 1 && true then some (.fp e 0) else none else none := by kernel_rfl
theorem iar_61 (h : Bool) (b off len sz : Nat) (k : IntKind) (n : Int) : aIndexAddr Try.prog 61 (.rs h b off len sz) (.v (.int k n)) = bif inRange n len && Nat.beq 1 sz && !Nat.beq sz 0 then some (.ptr h b (off + n.toNat * sz)) else none := by kernel_rfl
theorem len_22 (es : List (List PV)) (c : Cap) : aLen Try.prog 22 (.sl es c) = some (.v (.int .i64 es.length)) := by kernel_rfl
theorem lenr_22 (h : Bool) (b off n sz : Nat) : aLen Try.prog 22 (.rs h b off n sz) = some (.v (.int .i64 n)) := by kernel_rfl
theorem len_24 (es : List (List PV)) (c : Cap) : aLen Try.prog 24 (.sl es c) = some (.v (.int .i64 es.length)) := by kernel_rfl
theorem lenr_24 (h : Bool) (b off n sz : Nat) : aLen Try.prog 24 (.rs h b off n sz) = some (.v (.int .i64 n)) := by kernel_rfl
theorem len_25 (es : List (List PV)) (c : Cap) : aLen Try.prog 25 (.sl es c) = some (.v (.int .i64 es.length)) := by kernel_rfl
theorem lenr_25 (h : Bool) (b off n sz : Nat) : aLen Try.prog 25 (.rs h b off n sz) = some (.v (.int .i64 n)) := by kernel_rfl
theorem len_26 (es : List (List PV)) (c : Cap) : aLen Try.prog 26 (.sl es c) = some (.v (.int .i64 es.length)) := by kernel_rfl
theorem lenr_26 (h : Bool) (b off n sz : Nat) : aLen Try.prog 26 (.rs h b off n sz) = some (.v (.int .i64 n)) := by kernel_rfl
theorem len_27 (es : List (List PV)) (c : Cap) : aLen Try.prog 27 (.sl es c) = some (.v (.int .i64 es.length)) := by kernel_rfl
theorem lenr_27 (h : Bool) (b off n sz : Nat) : aLen Try.prog 27 (.rs h b off n sz) = some (.v (.int .i64 n)) := by kernel_rfl
theorem len_31 (es : List (List PV)) (c : Cap) : aLen Try.prog 31 (.sl es c) = some (.v (.int .i64 es.length)) := by kernel_rfl
theorem lenr_31 (h : Bool) (b off n sz : Nat) : aLen Try.prog 31 (.rs h b off n sz) = some (.v (.int .i64 n)) := by kernel_rfl
theorem len_41 (es : List (List PV)) (c : Cap) : aLen Try.prog 41 (.sl es c) = some (.v (.int .i64 es.length)) := by kernel_rfl
theorem lenr_41 (h : Bool) (b off n sz : Nat) : aLen Try.prog 41 (.rs h b off n sz) = some (.v (.int .i64 n)) := by kernel_rfl
theorem len_47 (es : List (List PV)) (c : Cap) : aLen Try.prog 47 (.sl es c) = some (.v (.int .i64 es.length)) := by kernel_rfl
theorem lenr_47 (h : Bool) (b off n sz : Nat) : aLen Try.prog 47 (.rs h b off n sz) = some (.v (.int .i64 n)) := by kernel_rfl
theorem len_61 (es : List (List PV)) (c : Cap) : aLen Try.prog 61 (.sl es c) = some (.v (.int .i64 es.length)) := by kernel_rfl
theorem lenr_61 (h : Bool) (b off n sz : Nat) : aLen Try.prog 61 (.rs h b off n sz) = some (.v (.int .i64 n)) := by kernel_rfl
theorem slc_31 (es : List (List PV)) (c : Cap) (lo hi : Option PV) : aSlice Try.prog 31 (.sl es c) lo hi none = (bnd hi es.length es.length).bind fun h => (bnd lo 0 h).bind fun l => bif !okSz 58 es then none else some (.sl ((es.take h).drop l) (sliceCap c h es.length false)) := by kernel_rfl
end Go.Proofs.Ytkbhejcfejembaa.S

/- Trees: their types, and what loads of their cells answer. Printed by mkTy.py. No condition. -/
namespace Go.Proofs.Ytkbhejcfejembaa.S
open Go Go.AM Go.Proofs
set_option linter.unusedVariables false
set_option linter.unusedSimpArgs false

abbrev int (n : Int) : PV := .v (.int .i64 n)
abbrev str (s : ByteArray) : PV := .v (.string s)
/-- An expression. -/
inductive X where
  | mk (op bin n kd : Int) (rc name : ByteArray) (kids : List X) (line col : Int)
def X.op : X → Int
  | ⟨a, _, _, _, _, _, _, _, _⟩ => a
def X.bin : X → Int
  | ⟨_, a, _, _, _, _, _, _, _⟩ => a
def X.n : X → Int
  | ⟨_, _, a, _, _, _, _, _, _⟩ => a
def X.kd : X → Int
  | ⟨_, _, _, a, _, _, _, _, _⟩ => a
def X.rc : X → ByteArray
  | ⟨_, _, _, _, a, _, _, _, _⟩ => a
def X.name : X → ByteArray
  | ⟨_, _, _, _, _, a, _, _, _⟩ => a
def X.kids : X → List X
  | ⟨_, _, _, _, _, _, a, _, _⟩ => a
def X.line : X → Int
  | ⟨_, _, _, _, _, _, _, a, _⟩ => a
def X.col : X → Int
  | ⟨_, _, _, _, _, _, _, _, a⟩ => a
structure Pl where
  mk ::
  op : Int
  base : ByteArray
  field : ByteArray
  index : X
  line : Int
  col : Int
structure Rt where
  mk ::
  op : Int
  e : X
  place : Pl
  name : ByteArray
  line : Int
  col : Int
inductive S where
  | mk (op : Int) (name : ByteArray) (right : Rt) (place : Pl) (e : X) (n : Int) (args : List X) (body : List S) (els : List S) (line : Int) (col : Int)
def S.op : S → Int
  | ⟨a, _, _, _, _, _, _, _, _, _, _⟩ => a
def S.name : S → ByteArray
  | ⟨_, a, _, _, _, _, _, _, _, _, _⟩ => a
def S.right : S → Rt
  | ⟨_, _, a, _, _, _, _, _, _, _, _⟩ => a
def S.place : S → Pl
  | ⟨_, _, _, a, _, _, _, _, _, _, _⟩ => a
def S.e : S → X
  | ⟨_, _, _, _, a, _, _, _, _, _, _⟩ => a
def S.n : S → Int
  | ⟨_, _, _, _, _, a, _, _, _, _, _⟩ => a
def S.args : S → List X
  | ⟨_, _, _, _, _, _, a, _, _, _, _⟩ => a
def S.body : S → List S
  | ⟨_, _, _, _, _, _, _, a, _, _, _⟩ => a
def S.els : S → List S
  | ⟨_, _, _, _, _, _, _, _, a, _, _⟩ => a
def S.line : S → Int
  | ⟨_, _, _, _, _, _, _, _, _, a, _⟩ => a
def S.col : S → Int
  | ⟨_, _, _, _, _, _, _, _, _, _, a⟩ => a
mutual
def X.enc : X → List PV
  | ⟨op, bin, n, kd, rc, name, kids, line, col⟩ => [int op, int bin, .v (.int .u64 n), int kd, str rc, str name, .sl (encs kids) .dead, int line, int col]
def encs : List X → List (List PV)
  | [] => []
  | x :: xs => x.enc :: encs xs
end
def Pl.enc (p : Pl) : List PV := [int p.op, str p.base, str p.field] ++ p.index.enc ++ [int p.line, int p.col]
def Rt.enc (p : Rt) : List PV := [int p.op] ++ p.e.enc ++ p.place.enc ++ [str p.name, int p.line, int p.col]
mutual
def S.enc : S → List PV
  | ⟨op, name, right, place, e, n, args, body, els, line, col⟩ => [int op, str name] ++ right.enc ++ place.enc ++ e.enc ++ [int n, .sl (encs args) .dead, .sl (sencs body) .dead, .sl (sencs els) .dead, int line, int col]
def sencs : List S → List (List PV)
  | [] => []
  | x :: xs => x.enc :: sencs xs
end
theorem X.enc_eq (x : X) : x.enc = [int x.op, int x.bin, .v (.int .u64 x.n), int x.kd, str x.rc, str x.name, .sl (encs x.kids) .dead, int x.line, int x.col] := by cases x; simp only [X.enc]; rfl
theorem S.enc_eq (x : S) : x.enc = [int x.op, str x.name] ++ x.right.enc ++ x.place.enc ++ x.e.enc ++ [int x.n, .sl (encs x.args) .dead, .sl (sencs x.body) .dead, .sl (sencs x.els) .dead, int x.line, int x.col] := by cases x; simp only [S.enc]; rfl
theorem encs_map : ∀ xs, encs xs = xs.map X.enc
  | [] => by simp [encs]
  | x :: xs => by simp [encs, encs_map xs]
theorem sencs_map : ∀ xs, sencs xs = xs.map S.enc
  | [] => by simp [sencs]
  | x :: xs => by simp [sencs, sencs_map xs]
theorem encs_length (xs : List X) : (encs xs).length = xs.length := by rw [encs_map, List.length_map]
theorem sencs_length (xs : List S) : (sencs xs).length = xs.length := by rw [sencs_map, List.length_map]
theorem X.len (x : X) : x.enc.length = 9 := by simp only [X.enc_eq]; rfl
theorem X.whole (x : X) : AM.part true 9 0 x.enc = some (.agg x.enc) := by simp only [X.enc_eq]; rfl
theorem X.okc (x : X) : okCells x.enc = true := by simp only [X.enc_eq]; rfl
theorem X.can (x : X) : canon (.agg x.enc) = .agg x.enc := by simp only [X.enc_eq]; rfl
theorem X.canC (x : X) : x.enc.map canonC = x.enc := by simp only [X.enc_eq]; rfl
theorem X.pl (x : X) : plainCs x.enc = some x.enc := by simp only [X.enc_eq]; rfl
theorem X.sf4 (x : X) (m : Nat) : x.enc.all (sf true m 4) = true := by simp only [X.enc_eq]; rfl
theorem X.fl (x : X) : x.enc.all flatC = true := by simp only [X.enc_eq]; rfl
theorem X.p0_1 (x : X) : AM.part false 1 0 x.enc = some (int x.op) := by simp only [X.enc_eq]; rfl
theorem X.p1_1 (x : X) : AM.part false 1 1 x.enc = some (int x.bin) := by simp only [X.enc_eq]; rfl
theorem X.p2_1 (x : X) : AM.part false 1 2 x.enc = some (.v (.int .u64 x.n)) := by simp only [X.enc_eq]; rfl
theorem X.p3_1 (x : X) : AM.part false 1 3 x.enc = some (int x.kd) := by simp only [X.enc_eq]; rfl
theorem X.p3_2a (x : X) : AM.part true 2 3 x.enc = some (.agg [int x.kd, str x.rc]) := by simp only [X.enc_eq]; rfl
theorem X.p4_1 (x : X) : AM.part false 1 4 x.enc = some (str x.rc) := by simp only [X.enc_eq]; rfl
theorem X.p5_1 (x : X) : AM.part false 1 5 x.enc = some (str x.name) := by simp only [X.enc_eq]; rfl
theorem X.p6_1 (x : X) : AM.part false 1 6 x.enc = some (.sl (encs x.kids) .dead) := by simp only [X.enc_eq]; rfl
theorem X.p7_1 (x : X) : AM.part false 1 7 x.enc = some (int x.line) := by simp only [X.enc_eq]; rfl
theorem X.p8_1 (x : X) : AM.part false 1 8 x.enc = some (int x.col) := by simp only [X.enc_eq]; rfl
theorem Pl.len (x : Pl) : x.enc.length = 14 := by simp only [Pl.enc, X.enc_eq]; rfl
theorem Pl.whole (x : Pl) : AM.part true 14 0 x.enc = some (.agg x.enc) := by simp only [Pl.enc, X.enc_eq]; rfl
theorem Pl.okc (x : Pl) : okCells x.enc = true := by simp only [Pl.enc, X.enc_eq]; rfl
theorem Pl.can (x : Pl) : canon (.agg x.enc) = .agg x.enc := by simp only [Pl.enc, X.enc_eq]; rfl
theorem Pl.canC (x : Pl) : x.enc.map canonC = x.enc := by simp only [Pl.enc, X.enc_eq]; rfl
theorem Pl.pl (x : Pl) : plainCs x.enc = some x.enc := by simp only [Pl.enc, X.enc_eq]; rfl
theorem Pl.sf4 (x : Pl) (m : Nat) : x.enc.all (sf true m 4) = true := by simp only [Pl.enc, X.enc_eq]; rfl
theorem Pl.fl (x : Pl) : x.enc.all flatC = true := by simp only [Pl.enc, X.enc_eq]; rfl
theorem Pl.p0_1 (x : Pl) : AM.part false 1 0 x.enc = some (int x.op) := by simp only [Pl.enc, X.enc_eq]; rfl
theorem Pl.p1_1 (x : Pl) : AM.part false 1 1 x.enc = some (str x.base) := by simp only [Pl.enc, X.enc_eq]; rfl
theorem Pl.p2_1 (x : Pl) : AM.part false 1 2 x.enc = some (str x.field) := by simp only [Pl.enc, X.enc_eq]; rfl
theorem Pl.p3_9a (x : Pl) : AM.part true 9 3 x.enc = some (.agg x.index.enc) := by simp only [Pl.enc, X.enc_eq]; rfl
theorem Pl.p3_1 (x : Pl) : AM.part false 1 3 x.enc = some (int x.index.op) := by simp only [Pl.enc, X.enc_eq]; rfl
theorem Pl.p4_1 (x : Pl) : AM.part false 1 4 x.enc = some (int x.index.bin) := by simp only [Pl.enc, X.enc_eq]; rfl
theorem Pl.p5_1 (x : Pl) : AM.part false 1 5 x.enc = some (.v (.int .u64 x.index.n)) := by simp only [Pl.enc, X.enc_eq]; rfl
theorem Pl.p6_1 (x : Pl) : AM.part false 1 6 x.enc = some (int x.index.kd) := by simp only [Pl.enc, X.enc_eq]; rfl
theorem Pl.p6_2a (x : Pl) : AM.part true 2 6 x.enc = some (.agg [int x.index.kd, str x.index.rc]) := by simp only [Pl.enc, X.enc_eq]; rfl
theorem Pl.p7_1 (x : Pl) : AM.part false 1 7 x.enc = some (str x.index.rc) := by simp only [Pl.enc, X.enc_eq]; rfl
theorem Pl.p8_1 (x : Pl) : AM.part false 1 8 x.enc = some (str x.index.name) := by simp only [Pl.enc, X.enc_eq]; rfl
theorem Pl.p9_1 (x : Pl) : AM.part false 1 9 x.enc = some (.sl (encs x.index.kids) .dead) := by simp only [Pl.enc, X.enc_eq]; rfl
theorem Pl.p10_1 (x : Pl) : AM.part false 1 10 x.enc = some (int x.index.line) := by simp only [Pl.enc, X.enc_eq]; rfl
theorem Pl.p11_1 (x : Pl) : AM.part false 1 11 x.enc = some (int x.index.col) := by simp only [Pl.enc, X.enc_eq]; rfl
theorem Pl.p12_1 (x : Pl) : AM.part false 1 12 x.enc = some (int x.line) := by simp only [Pl.enc, X.enc_eq]; rfl
theorem Pl.p13_1 (x : Pl) : AM.part false 1 13 x.enc = some (int x.col) := by simp only [Pl.enc, X.enc_eq]; rfl
theorem Rt.len (x : Rt) : x.enc.length = 27 := by simp only [Rt.enc, Pl.enc, X.enc_eq]; rfl
theorem Rt.whole (x : Rt) : AM.part true 27 0 x.enc = some (.agg x.enc) := by simp only [Rt.enc, Pl.enc, X.enc_eq]; rfl
theorem Rt.okc (x : Rt) : okCells x.enc = true := by simp only [Rt.enc, Pl.enc, X.enc_eq]; rfl
theorem Rt.can (x : Rt) : canon (.agg x.enc) = .agg x.enc := by simp only [Rt.enc, Pl.enc, X.enc_eq]; rfl
theorem Rt.canC (x : Rt) : x.enc.map canonC = x.enc := by simp only [Rt.enc, Pl.enc, X.enc_eq]; rfl
theorem Rt.pl (x : Rt) : plainCs x.enc = some x.enc := by simp only [Rt.enc, Pl.enc, X.enc_eq]; rfl
theorem Rt.sf4 (x : Rt) (m : Nat) : x.enc.all (sf true m 4) = true := by simp only [Rt.enc, Pl.enc, X.enc_eq]; rfl
theorem Rt.fl (x : Rt) : x.enc.all flatC = true := by simp only [Rt.enc, Pl.enc, X.enc_eq]; rfl
theorem Rt.p0_1 (x : Rt) : AM.part false 1 0 x.enc = some (int x.op) := by simp only [Rt.enc, Pl.enc, X.enc_eq]; rfl
theorem Rt.p1_9a (x : Rt) : AM.part true 9 1 x.enc = some (.agg x.e.enc) := by simp only [Rt.enc, Pl.enc, X.enc_eq]; rfl
theorem Rt.p1_1 (x : Rt) : AM.part false 1 1 x.enc = some (int x.e.op) := by simp only [Rt.enc, Pl.enc, X.enc_eq]; rfl
theorem Rt.p2_1 (x : Rt) : AM.part false 1 2 x.enc = some (int x.e.bin) := by simp only [Rt.enc, Pl.enc, X.enc_eq]; rfl
theorem Rt.p3_1 (x : Rt) : AM.part false 1 3 x.enc = some (.v (.int .u64 x.e.n)) := by simp only [Rt.enc, Pl.enc, X.enc_eq]; rfl
theorem Rt.p4_1 (x : Rt) : AM.part false 1 4 x.enc = some (int x.e.kd) := by simp only [Rt.enc, Pl.enc, X.enc_eq]; rfl
theorem Rt.p4_2a (x : Rt) : AM.part true 2 4 x.enc = some (.agg [int x.e.kd, str x.e.rc]) := by simp only [Rt.enc, Pl.enc, X.enc_eq]; rfl
theorem Rt.p5_1 (x : Rt) : AM.part false 1 5 x.enc = some (str x.e.rc) := by simp only [Rt.enc, Pl.enc, X.enc_eq]; rfl
theorem Rt.p6_1 (x : Rt) : AM.part false 1 6 x.enc = some (str x.e.name) := by simp only [Rt.enc, Pl.enc, X.enc_eq]; rfl
theorem Rt.p7_1 (x : Rt) : AM.part false 1 7 x.enc = some (.sl (encs x.e.kids) .dead) := by simp only [Rt.enc, Pl.enc, X.enc_eq]; rfl
theorem Rt.p8_1 (x : Rt) : AM.part false 1 8 x.enc = some (int x.e.line) := by simp only [Rt.enc, Pl.enc, X.enc_eq]; rfl
theorem Rt.p9_1 (x : Rt) : AM.part false 1 9 x.enc = some (int x.e.col) := by simp only [Rt.enc, Pl.enc, X.enc_eq]; rfl
theorem Rt.p10_14a (x : Rt) : AM.part true 14 10 x.enc = some (.agg x.place.enc) := by simp only [Rt.enc, Pl.enc, X.enc_eq]; rfl
theorem Rt.p10_1 (x : Rt) : AM.part false 1 10 x.enc = some (int x.place.op) := by simp only [Rt.enc, Pl.enc, X.enc_eq]; rfl
theorem Rt.p11_1 (x : Rt) : AM.part false 1 11 x.enc = some (str x.place.base) := by simp only [Rt.enc, Pl.enc, X.enc_eq]; rfl
theorem Rt.p12_1 (x : Rt) : AM.part false 1 12 x.enc = some (str x.place.field) := by simp only [Rt.enc, Pl.enc, X.enc_eq]; rfl
theorem Rt.p13_9a (x : Rt) : AM.part true 9 13 x.enc = some (.agg x.place.index.enc) := by simp only [Rt.enc, Pl.enc, X.enc_eq]; rfl
theorem Rt.p13_1 (x : Rt) : AM.part false 1 13 x.enc = some (int x.place.index.op) := by simp only [Rt.enc, Pl.enc, X.enc_eq]; rfl
theorem Rt.p14_1 (x : Rt) : AM.part false 1 14 x.enc = some (int x.place.index.bin) := by simp only [Rt.enc, Pl.enc, X.enc_eq]; rfl
theorem Rt.p15_1 (x : Rt) : AM.part false 1 15 x.enc = some (.v (.int .u64 x.place.index.n)) := by simp only [Rt.enc, Pl.enc, X.enc_eq]; rfl
theorem Rt.p16_1 (x : Rt) : AM.part false 1 16 x.enc = some (int x.place.index.kd) := by simp only [Rt.enc, Pl.enc, X.enc_eq]; rfl
theorem Rt.p16_2a (x : Rt) : AM.part true 2 16 x.enc = some (.agg [int x.place.index.kd, str x.place.index.rc]) := by simp only [Rt.enc, Pl.enc, X.enc_eq]; rfl
theorem Rt.p17_1 (x : Rt) : AM.part false 1 17 x.enc = some (str x.place.index.rc) := by simp only [Rt.enc, Pl.enc, X.enc_eq]; rfl
theorem Rt.p18_1 (x : Rt) : AM.part false 1 18 x.enc = some (str x.place.index.name) := by simp only [Rt.enc, Pl.enc, X.enc_eq]; rfl
theorem Rt.p19_1 (x : Rt) : AM.part false 1 19 x.enc = some (.sl (encs x.place.index.kids) .dead) := by simp only [Rt.enc, Pl.enc, X.enc_eq]; rfl
theorem Rt.p20_1 (x : Rt) : AM.part false 1 20 x.enc = some (int x.place.index.line) := by simp only [Rt.enc, Pl.enc, X.enc_eq]; rfl
theorem Rt.p21_1 (x : Rt) : AM.part false 1 21 x.enc = some (int x.place.index.col) := by simp only [Rt.enc, Pl.enc, X.enc_eq]; rfl
theorem Rt.p22_1 (x : Rt) : AM.part false 1 22 x.enc = some (int x.place.line) := by simp only [Rt.enc, Pl.enc, X.enc_eq]; rfl
theorem Rt.p23_1 (x : Rt) : AM.part false 1 23 x.enc = some (int x.place.col) := by simp only [Rt.enc, Pl.enc, X.enc_eq]; rfl
theorem Rt.p24_1 (x : Rt) : AM.part false 1 24 x.enc = some (str x.name) := by simp only [Rt.enc, Pl.enc, X.enc_eq]; rfl
theorem Rt.p25_1 (x : Rt) : AM.part false 1 25 x.enc = some (int x.line) := by simp only [Rt.enc, Pl.enc, X.enc_eq]; rfl
theorem Rt.p26_1 (x : Rt) : AM.part false 1 26 x.enc = some (int x.col) := by simp only [Rt.enc, Pl.enc, X.enc_eq]; rfl
theorem S.len (x : S) : x.enc.length = 58 := by simp only [S.enc_eq, Rt.enc, Pl.enc, X.enc_eq]; rfl
theorem S.whole (x : S) : AM.part true 58 0 x.enc = some (.agg x.enc) := by simp only [S.enc_eq, Rt.enc, Pl.enc, X.enc_eq]; rfl
theorem S.okc (x : S) : okCells x.enc = true := by simp only [S.enc_eq, Rt.enc, Pl.enc, X.enc_eq]; rfl
theorem S.can (x : S) : canon (.agg x.enc) = .agg x.enc := by simp only [S.enc_eq, Rt.enc, Pl.enc, X.enc_eq]; rfl
theorem S.canC (x : S) : x.enc.map canonC = x.enc := by simp only [S.enc_eq, Rt.enc, Pl.enc, X.enc_eq]; rfl
theorem S.pl (x : S) : plainCs x.enc = some x.enc := by simp only [S.enc_eq, Rt.enc, Pl.enc, X.enc_eq]; rfl
theorem S.sf4 (x : S) (m : Nat) : x.enc.all (sf true m 4) = true := by simp only [S.enc_eq, Rt.enc, Pl.enc, X.enc_eq]; rfl
theorem S.fl (x : S) : x.enc.all flatC = true := by simp only [S.enc_eq, Rt.enc, Pl.enc, X.enc_eq]; rfl
theorem S.p0_1 (x : S) : AM.part false 1 0 x.enc = some (int x.op) := by simp only [S.enc_eq, Rt.enc, Pl.enc, X.enc_eq]; rfl
theorem S.p1_1 (x : S) : AM.part false 1 1 x.enc = some (str x.name) := by simp only [S.enc_eq, Rt.enc, Pl.enc, X.enc_eq]; rfl
theorem S.p2_27a (x : S) : AM.part true 27 2 x.enc = some (.agg x.right.enc) := by simp only [S.enc_eq, Rt.enc, Pl.enc, X.enc_eq]; rfl
theorem S.p2_1 (x : S) : AM.part false 1 2 x.enc = some (int x.right.op) := by simp only [S.enc_eq, Rt.enc, Pl.enc, X.enc_eq]; rfl
theorem S.p3_9a (x : S) : AM.part true 9 3 x.enc = some (.agg x.right.e.enc) := by simp only [S.enc_eq, Rt.enc, Pl.enc, X.enc_eq]; rfl
theorem S.p3_1 (x : S) : AM.part false 1 3 x.enc = some (int x.right.e.op) := by simp only [S.enc_eq, Rt.enc, Pl.enc, X.enc_eq]; rfl
theorem S.p4_1 (x : S) : AM.part false 1 4 x.enc = some (int x.right.e.bin) := by simp only [S.enc_eq, Rt.enc, Pl.enc, X.enc_eq]; rfl
theorem S.p5_1 (x : S) : AM.part false 1 5 x.enc = some (.v (.int .u64 x.right.e.n)) := by simp only [S.enc_eq, Rt.enc, Pl.enc, X.enc_eq]; rfl
theorem S.p6_1 (x : S) : AM.part false 1 6 x.enc = some (int x.right.e.kd) := by simp only [S.enc_eq, Rt.enc, Pl.enc, X.enc_eq]; rfl
theorem S.p6_2a (x : S) : AM.part true 2 6 x.enc = some (.agg [int x.right.e.kd, str x.right.e.rc]) := by simp only [S.enc_eq, Rt.enc, Pl.enc, X.enc_eq]; rfl
theorem S.p7_1 (x : S) : AM.part false 1 7 x.enc = some (str x.right.e.rc) := by simp only [S.enc_eq, Rt.enc, Pl.enc, X.enc_eq]; rfl
theorem S.p8_1 (x : S) : AM.part false 1 8 x.enc = some (str x.right.e.name) := by simp only [S.enc_eq, Rt.enc, Pl.enc, X.enc_eq]; rfl
theorem S.p9_1 (x : S) : AM.part false 1 9 x.enc = some (.sl (encs x.right.e.kids) .dead) := by simp only [S.enc_eq, Rt.enc, Pl.enc, X.enc_eq]; rfl
theorem S.p10_1 (x : S) : AM.part false 1 10 x.enc = some (int x.right.e.line) := by simp only [S.enc_eq, Rt.enc, Pl.enc, X.enc_eq]; rfl
theorem S.p11_1 (x : S) : AM.part false 1 11 x.enc = some (int x.right.e.col) := by simp only [S.enc_eq, Rt.enc, Pl.enc, X.enc_eq]; rfl
theorem S.p12_14a (x : S) : AM.part true 14 12 x.enc = some (.agg x.right.place.enc) := by simp only [S.enc_eq, Rt.enc, Pl.enc, X.enc_eq]; rfl
theorem S.p12_1 (x : S) : AM.part false 1 12 x.enc = some (int x.right.place.op) := by simp only [S.enc_eq, Rt.enc, Pl.enc, X.enc_eq]; rfl
theorem S.p13_1 (x : S) : AM.part false 1 13 x.enc = some (str x.right.place.base) := by simp only [S.enc_eq, Rt.enc, Pl.enc, X.enc_eq]; rfl
theorem S.p14_1 (x : S) : AM.part false 1 14 x.enc = some (str x.right.place.field) := by simp only [S.enc_eq, Rt.enc, Pl.enc, X.enc_eq]; rfl
theorem S.p15_9a (x : S) : AM.part true 9 15 x.enc = some (.agg x.right.place.index.enc) := by simp only [S.enc_eq, Rt.enc, Pl.enc, X.enc_eq]; rfl
theorem S.p15_1 (x : S) : AM.part false 1 15 x.enc = some (int x.right.place.index.op) := by simp only [S.enc_eq, Rt.enc, Pl.enc, X.enc_eq]; rfl
theorem S.p16_1 (x : S) : AM.part false 1 16 x.enc = some (int x.right.place.index.bin) := by simp only [S.enc_eq, Rt.enc, Pl.enc, X.enc_eq]; rfl
theorem S.p17_1 (x : S) : AM.part false 1 17 x.enc = some (.v (.int .u64 x.right.place.index.n)) := by simp only [S.enc_eq, Rt.enc, Pl.enc, X.enc_eq]; rfl
theorem S.p18_1 (x : S) : AM.part false 1 18 x.enc = some (int x.right.place.index.kd) := by simp only [S.enc_eq, Rt.enc, Pl.enc, X.enc_eq]; rfl
theorem S.p18_2a (x : S) : AM.part true 2 18 x.enc = some (.agg [int x.right.place.index.kd, str x.right.place.index.rc]) := by simp only [S.enc_eq, Rt.enc, Pl.enc, X.enc_eq]; rfl
theorem S.p19_1 (x : S) : AM.part false 1 19 x.enc = some (str x.right.place.index.rc) := by simp only [S.enc_eq, Rt.enc, Pl.enc, X.enc_eq]; rfl
theorem S.p20_1 (x : S) : AM.part false 1 20 x.enc = some (str x.right.place.index.name) := by simp only [S.enc_eq, Rt.enc, Pl.enc, X.enc_eq]; rfl
theorem S.p21_1 (x : S) : AM.part false 1 21 x.enc = some (.sl (encs x.right.place.index.kids) .dead) := by simp only [S.enc_eq, Rt.enc, Pl.enc, X.enc_eq]; rfl
theorem S.p22_1 (x : S) : AM.part false 1 22 x.enc = some (int x.right.place.index.line) := by simp only [S.enc_eq, Rt.enc, Pl.enc, X.enc_eq]; rfl
theorem S.p23_1 (x : S) : AM.part false 1 23 x.enc = some (int x.right.place.index.col) := by simp only [S.enc_eq, Rt.enc, Pl.enc, X.enc_eq]; rfl
theorem S.p24_1 (x : S) : AM.part false 1 24 x.enc = some (int x.right.place.line) := by simp only [S.enc_eq, Rt.enc, Pl.enc, X.enc_eq]; rfl
theorem S.p25_1 (x : S) : AM.part false 1 25 x.enc = some (int x.right.place.col) := by simp only [S.enc_eq, Rt.enc, Pl.enc, X.enc_eq]; rfl
theorem S.p26_1 (x : S) : AM.part false 1 26 x.enc = some (str x.right.name) := by simp only [S.enc_eq, Rt.enc, Pl.enc, X.enc_eq]; rfl
theorem S.p27_1 (x : S) : AM.part false 1 27 x.enc = some (int x.right.line) := by simp only [S.enc_eq, Rt.enc, Pl.enc, X.enc_eq]; rfl
theorem S.p28_1 (x : S) : AM.part false 1 28 x.enc = some (int x.right.col) := by simp only [S.enc_eq, Rt.enc, Pl.enc, X.enc_eq]; rfl
theorem S.p29_14a (x : S) : AM.part true 14 29 x.enc = some (.agg x.place.enc) := by simp only [S.enc_eq, Rt.enc, Pl.enc, X.enc_eq]; rfl
theorem S.p29_1 (x : S) : AM.part false 1 29 x.enc = some (int x.place.op) := by simp only [S.enc_eq, Rt.enc, Pl.enc, X.enc_eq]; rfl
theorem S.p30_1 (x : S) : AM.part false 1 30 x.enc = some (str x.place.base) := by simp only [S.enc_eq, Rt.enc, Pl.enc, X.enc_eq]; rfl
theorem S.p31_1 (x : S) : AM.part false 1 31 x.enc = some (str x.place.field) := by simp only [S.enc_eq, Rt.enc, Pl.enc, X.enc_eq]; rfl
theorem S.p32_9a (x : S) : AM.part true 9 32 x.enc = some (.agg x.place.index.enc) := by simp only [S.enc_eq, Rt.enc, Pl.enc, X.enc_eq]; rfl
theorem S.p32_1 (x : S) : AM.part false 1 32 x.enc = some (int x.place.index.op) := by simp only [S.enc_eq, Rt.enc, Pl.enc, X.enc_eq]; rfl
theorem S.p33_1 (x : S) : AM.part false 1 33 x.enc = some (int x.place.index.bin) := by simp only [S.enc_eq, Rt.enc, Pl.enc, X.enc_eq]; rfl
theorem S.p34_1 (x : S) : AM.part false 1 34 x.enc = some (.v (.int .u64 x.place.index.n)) := by simp only [S.enc_eq, Rt.enc, Pl.enc, X.enc_eq]; rfl
theorem S.p35_1 (x : S) : AM.part false 1 35 x.enc = some (int x.place.index.kd) := by simp only [S.enc_eq, Rt.enc, Pl.enc, X.enc_eq]; rfl
theorem S.p35_2a (x : S) : AM.part true 2 35 x.enc = some (.agg [int x.place.index.kd, str x.place.index.rc]) := by simp only [S.enc_eq, Rt.enc, Pl.enc, X.enc_eq]; rfl
theorem S.p36_1 (x : S) : AM.part false 1 36 x.enc = some (str x.place.index.rc) := by simp only [S.enc_eq, Rt.enc, Pl.enc, X.enc_eq]; rfl
theorem S.p37_1 (x : S) : AM.part false 1 37 x.enc = some (str x.place.index.name) := by simp only [S.enc_eq, Rt.enc, Pl.enc, X.enc_eq]; rfl
theorem S.p38_1 (x : S) : AM.part false 1 38 x.enc = some (.sl (encs x.place.index.kids) .dead) := by simp only [S.enc_eq, Rt.enc, Pl.enc, X.enc_eq]; rfl
theorem S.p39_1 (x : S) : AM.part false 1 39 x.enc = some (int x.place.index.line) := by simp only [S.enc_eq, Rt.enc, Pl.enc, X.enc_eq]; rfl
theorem S.p40_1 (x : S) : AM.part false 1 40 x.enc = some (int x.place.index.col) := by simp only [S.enc_eq, Rt.enc, Pl.enc, X.enc_eq]; rfl
theorem S.p41_1 (x : S) : AM.part false 1 41 x.enc = some (int x.place.line) := by simp only [S.enc_eq, Rt.enc, Pl.enc, X.enc_eq]; rfl
theorem S.p42_1 (x : S) : AM.part false 1 42 x.enc = some (int x.place.col) := by simp only [S.enc_eq, Rt.enc, Pl.enc, X.enc_eq]; rfl
theorem S.p43_9a (x : S) : AM.part true 9 43 x.enc = some (.agg x.e.enc) := by simp only [S.enc_eq, Rt.enc, Pl.enc, X.enc_eq]; rfl
theorem S.p43_1 (x : S) : AM.part false 1 43 x.enc = some (int x.e.op) := by simp only [S.enc_eq, Rt.enc, Pl.enc, X.enc_eq]; rfl
theorem S.p44_1 (x : S) : AM.part false 1 44 x.enc = some (int x.e.bin) := by simp only [S.enc_eq, Rt.enc, Pl.enc, X.enc_eq]; rfl
theorem S.p45_1 (x : S) : AM.part false 1 45 x.enc = some (.v (.int .u64 x.e.n)) := by simp only [S.enc_eq, Rt.enc, Pl.enc, X.enc_eq]; rfl
theorem S.p46_1 (x : S) : AM.part false 1 46 x.enc = some (int x.e.kd) := by simp only [S.enc_eq, Rt.enc, Pl.enc, X.enc_eq]; rfl
theorem S.p46_2a (x : S) : AM.part true 2 46 x.enc = some (.agg [int x.e.kd, str x.e.rc]) := by simp only [S.enc_eq, Rt.enc, Pl.enc, X.enc_eq]; rfl
theorem S.p47_1 (x : S) : AM.part false 1 47 x.enc = some (str x.e.rc) := by simp only [S.enc_eq, Rt.enc, Pl.enc, X.enc_eq]; rfl
theorem S.p48_1 (x : S) : AM.part false 1 48 x.enc = some (str x.e.name) := by simp only [S.enc_eq, Rt.enc, Pl.enc, X.enc_eq]; rfl
theorem S.p49_1 (x : S) : AM.part false 1 49 x.enc = some (.sl (encs x.e.kids) .dead) := by simp only [S.enc_eq, Rt.enc, Pl.enc, X.enc_eq]; rfl
theorem S.p50_1 (x : S) : AM.part false 1 50 x.enc = some (int x.e.line) := by simp only [S.enc_eq, Rt.enc, Pl.enc, X.enc_eq]; rfl
theorem S.p51_1 (x : S) : AM.part false 1 51 x.enc = some (int x.e.col) := by simp only [S.enc_eq, Rt.enc, Pl.enc, X.enc_eq]; rfl
theorem S.p52_1 (x : S) : AM.part false 1 52 x.enc = some (int x.n) := by simp only [S.enc_eq, Rt.enc, Pl.enc, X.enc_eq]; rfl
theorem S.p53_1 (x : S) : AM.part false 1 53 x.enc = some (.sl (encs x.args) .dead) := by simp only [S.enc_eq, Rt.enc, Pl.enc, X.enc_eq]; rfl
theorem S.p54_1 (x : S) : AM.part false 1 54 x.enc = some (.sl (sencs x.body) .dead) := by simp only [S.enc_eq, Rt.enc, Pl.enc, X.enc_eq]; rfl
theorem S.p55_1 (x : S) : AM.part false 1 55 x.enc = some (.sl (sencs x.els) .dead) := by simp only [S.enc_eq, Rt.enc, Pl.enc, X.enc_eq]; rfl
theorem S.p56_1 (x : S) : AM.part false 1 56 x.enc = some (int x.line) := by simp only [S.enc_eq, Rt.enc, Pl.enc, X.enc_eq]; rfl
theorem S.p57_1 (x : S) : AM.part false 1 57 x.enc = some (int x.col) := by simp only [S.enc_eq, Rt.enc, Pl.enc, X.enc_eq]; rfl
end Go.Proofs.Ytkbhejcfejembaa.S

/- Trees: when two expressions are the same. No condition. -/
namespace Go.Proofs.Ytkbhejcfejembaa.S
open Go Go.AM Go.Proofs
set_option linter.unusedVariables false
set_option linter.unusedSimpArgs false

mutual
def X.sz : X → Nat
  | ⟨_, _, _, _, _, _, ks, _, _⟩ => szs ks + 1
def szs : List X → Nat
  | [] => 0
  | x :: xs => x.sz + szs xs
end
theorem szs_len : ∀ xs : List X, xs.length ≤ szs xs
  | [] => by simp [szs]
  | x :: xs => by
    have := szs_len xs
    have : 1 ≤ x.sz := by cases x; simp [X.sz]
    simp [szs]; omega
theorem szs_mem {x : X} : ∀ {xs : List X}, x ∈ xs → x.sz ≤ szs xs
  | [], h => by cases h
  | y :: ys, h => by
    rcases List.mem_cons.1 h with rfl | h
    · simp [szs]
    · have := szs_mem h; simp [szs]; omega
theorem X.sz_eq (x : X) : x.sz = szs x.kids + 1 := by cases x; rfl

mutual
def X.same : X → X → Bool
  | ⟨op, bin, n, kd, rc, name, ks, _, _⟩, y =>
    (op == y.op) && ((bin == y.bin) && ((n == y.n) && (((kd == y.kd) && ((rc == y.rc) && true)) && ((decide (name = y.name)) && sames ks y.kids))))
def sames : List X → List X → Bool
  | [], [] => true
  | x :: xs, y :: ys => x.same y && sames xs ys
  | _, _ => false
end
theorem X.same_eq (x y : X) : x.same y = ((x.op == y.op) && ((x.bin == y.bin) && ((x.n == y.n) && (((x.kd == y.kd) && ((x.rc == y.rc) && true)) && ((decide (x.name = y.name)) && sames x.kids y.kids))))) := by
  cases x; simp only [X.same]; rfl
theorem sames_len : ∀ (xs ys : List X), xs.length ≠ ys.length → sames xs ys = false
  | [], [], h => absurd rfl h
  | [], y :: ys, h => by simp [sames]
  | x :: xs, [], h => by simp [sames]
  | x :: xs, y :: ys, h => by simp [sames, sames_len xs ys (by simpa using h)]

theorem encs_get (p : List X) (x : X) (xs : List X) : (encs (p ++ x :: xs))[p.length]? = some x.enc := by
  rw [encs_map]; simp
theorem inR {α : Type} (p : List α) (x : α) (xs : List α) : inRange (p.length : Int) (p ++ x :: xs).length = true := by
  simp [inRange]; omega
theorem laid_all : ∀ (pre old cs : List PV), old.length = cs.length → laid (pre ++ old) pre.length cs = pre ++ cs
  | pre, [], [], _ => rfl
  | pre, o :: old, c :: cs, h => by
    have : (pre ++ o :: old).set pre.length c = (pre ++ [c]) ++ old := by simp
    rw [laid, this, show pre.length + 1 = (pre ++ [c]).length by simp, laid_all (pre ++ [c]) old cs (by simpa using h)]
    simp
theorem laid0 (old cs : List PV) (h : old.length = cs.length) : laid old 0 cs = cs := laid_all [] old cs h

theorem eqf_loop (s : St) (xs0 ys0 : List X) (hb : xs0.length ≤ 1000000) (hl : xs0.length = ys0.length) : ∀ (xs ys p q : List X), xs0 = p ++ xs → ys0 = q ++ ys → p.length = q.length →
    (∀ x ∈ xs, ∀ (y : X) (st : St), E L (.func 16) [.agg x.enc, .agg y.enc] st = some (.v (.bool (x.same y)), st)) →
    ∃ j : Int, itE (S28.b0 (E L) itE s.stk.length s.lp.length) [.sl (encs ys0) .dead, .clo (.func 16) [], .v (.bool false), .sl (encs xs0) .dead, int xs0.length, int p.length] (s.app [] [] []) =
      some (bif sames xs ys then .exit 0 else .ret, [.sl (encs ys0) .dead, .clo (.func 16) [], .v (.bool false), .sl (encs xs0) .dead, int xs0.length, int j], s.app [] [] [])
  | [], ys, p, q, hx, hy, hp, hf => by
    obtain rfl : ys = [] := by
      have := congrArg List.length hx
      have := congrArg List.length hy
      simp at *
      exact List.length_eq_zero_iff.1 (by omega)
    refine ⟨p.length, ?_⟩
    rw [itE_eq]
    have e : xs0.length = p.length := by rw [hx]; simp
    simp [S28.b0, canon_v, canon_sl, canon_clo, canon_ptr, need_refl, elems_sl, sf_v, sf_sl, sf_ptr, sf_ptrh, sf_clo, sf_dead, sf_nil, sf_full, sf_fr, need_true, ibeq, beq_ba, nbeq, nble, nblt, AM.nth, List.getD_cons_succ, List.getD_cons_zero, Option.bind_some, Option.bind_none, Option.map_some, onBool, AM.onG, onFn, seqK, retK, Ex.outOf, cond_true, cond_false, bin_lss, bin_leq, bin_gtr, bin_geq, bin_eql, bin_neq, bin_add, bin_sub, bin_mul, un_not, str_eql, str_neq, app_push, app_stk, app_tk, app_lp, load_app, load_app0, load_fp, store_app, store_app0, leave_app, leave_app0, AM.ownPut, AM.cellsOf, AM.shift, aPick, fin_v, fin_sl, beq_true, okSz, List.length_cons, List.length_nil, Nat.zero_add, Nat.add_zero, Nat.reduceAdd, decide_true, decide_false, Bool.and_true, Bool.true_and, Bool.and_self, Bool.not_true, Bool.not_false, List.getElem?_cons_zero, List.getElem?_cons_succ, List.nil_append, List.cons_append, hpp_app, hpp_stk, hpp_tk, hpp_lp, hpp_hp, app_lpadd, hload, hload0, hloadh, hstore, hstore0, hleave, hleave0, hfin_v, hfin_sl, hback, hloop, hsetlp, max_int, min_int, hstore_v, hstore_v0, hstore_s, hstore_d, modify_concat, part1, hbackt, hbackl, hback0, List.take_succ_cons, List.take_left, List.take_zero, List.take_nil, e, sames]
  | x :: xs, ys, p, q, hx, hy, hp, hf => by
    match ys, hy with
    | [], hy =>
      exfalso
      have := congrArg List.length hx
      have := congrArg List.length hy
      simp at *
      omega
    | y :: ys, hy =>
      have hlt : (p.length : Int) < (xs0.length : Int) := by rw [hx]; simp; omega
      have g1 : (encs xs0)[p.length]? = some x.enc := by rw [hx]; exact encs_get p x xs
      have g2 : (encs ys0)[p.length]? = some y.enc := by rw [hy, hp]; exact encs_get q y ys
      have r1 : inRange (p.length : Int) (encs xs0).length = true := by rw [encs_length, hx]; exact inR p x xs
      have r2 : inRange (p.length : Int) (encs ys0).length = true := by rw [encs_length, hy, hp]; exact inR q y ys
      have w1 : IntKind.i64.wrap ((p.length : Int) + 1) = ((p ++ [x]).length : Int) := by rw [IntWalk.i64_in _ (by omega)]; simp
      have hc := hf x List.mem_cons_self y
      have hstep : S28.b0 (E L) itE s.stk.length s.lp.length [.sl (encs ys0) .dead, .clo (.func 16) [], .v (.bool false), .sl (encs xs0) .dead, int xs0.length, int p.length] (s.app [] [] []) =
          some (bif x.same y then (.normal, [.sl (encs ys0) .dead, .clo (.func 16) [], .v (.bool false), .sl (encs xs0) .dead, int xs0.length, int (p ++ [x]).length], s.app [] [] []) else
            (.ret, [.sl (encs ys0) .dead, .clo (.func 16) [], .v (.bool false), .sl (encs xs0) .dead, int xs0.length, int p.length], s.app [] [] [])) := by
        simp [S28.b0, canon_v, canon_sl, canon_clo, canon_ptr, need_refl, elems_sl, sf_v, sf_sl, sf_ptr, sf_ptrh, sf_clo, sf_dead, sf_nil, sf_full, sf_fr, need_true, ibeq, beq_ba, nbeq, nble, nblt, AM.nth, List.getD_cons_succ, List.getD_cons_zero, Option.bind_some, Option.bind_none, Option.map_some, onBool, AM.onG, onFn, seqK, retK, Ex.outOf, cond_true, cond_false, bin_lss, bin_leq, bin_gtr, bin_geq, bin_eql, bin_neq, bin_add, bin_sub, bin_mul, un_not, str_eql, str_neq, app_push, app_stk, app_tk, app_lp, load_app, load_app0, load_fp, store_app, store_app0, leave_app, leave_app0, AM.ownPut, AM.cellsOf, AM.shift, aPick, fin_v, fin_sl, beq_true, okSz, List.length_cons, List.length_nil, Nat.zero_add, Nat.add_zero, Nat.reduceAdd, decide_true, decide_false, Bool.and_true, Bool.true_and, Bool.and_self, Bool.not_true, Bool.not_false, List.getElem?_cons_zero, List.getElem?_cons_succ, List.nil_append, List.cons_append, hpp_app, hpp_stk, hpp_tk, hpp_lp, hpp_hp, app_lpadd, hload, hload0, hloadh, hstore, hstore0, hleave, hleave0, hfin_v, hfin_sl, hback, hloop, hsetlp, max_int, min_int, hstore_v, hstore_v0, hstore_s, hstore_d, modify_concat, part1, hbackt, hbackl, hback0, List.take_succ_cons, List.take_left, List.take_zero, List.take_nil, hlt, ia_41, r1, r2, g1, g2, X.len, X.whole, X.okc, X.can, laid0, hc]
        cases x.same y <;> simp [canon_v, canon_sl, canon_clo, canon_ptr, need_refl, elems_sl, sf_v, sf_sl, sf_ptr, sf_ptrh, sf_clo, sf_dead, sf_nil, sf_full, sf_fr, need_true, ibeq, beq_ba, nbeq, nble, nblt, AM.nth, List.getD_cons_succ, List.getD_cons_zero, Option.bind_some, Option.bind_none, Option.map_some, onBool, AM.onG, onFn, seqK, retK, Ex.outOf, cond_true, cond_false, bin_lss, bin_leq, bin_gtr, bin_geq, bin_eql, bin_neq, bin_add, bin_sub, bin_mul, un_not, str_eql, str_neq, app_push, app_stk, app_tk, app_lp, load_app, load_app0, load_fp, store_app, store_app0, leave_app, leave_app0, AM.ownPut, AM.cellsOf, AM.shift, aPick, fin_v, fin_sl, beq_true, okSz, List.length_cons, List.length_nil, Nat.zero_add, Nat.add_zero, Nat.reduceAdd, decide_true, decide_false, Bool.and_true, Bool.true_and, Bool.and_self, Bool.not_true, Bool.not_false, List.getElem?_cons_zero, List.getElem?_cons_succ, List.nil_append, List.cons_append, hpp_app, hpp_stk, hpp_tk, hpp_lp, hpp_hp, app_lpadd, hload, hload0, hloadh, hstore, hstore0, hleave, hleave0, hfin_v, hfin_sl, hback, hloop, hsetlp, max_int, min_int, hstore_v, hstore_v0, hstore_s, hstore_d, modify_concat, part1, hbackt, hbackl, hback0, List.take_succ_cons, List.take_left, List.take_zero, List.take_nil, w1]
      cases hxy : x.same y with
      | true =>
        rw [hxy] at hstep
        obtain ⟨j, hj⟩ := eqf_loop s xs0 ys0 hb hl xs ys (p ++ [x]) (q ++ [y]) (by simp [hx]) (by simp [hy]) (by simp [hp]) fun z hz => hf z (List.mem_cons_of_mem _ hz)
        refine ⟨j, ?_⟩
        rw [it_step hstep, hj]
        simp [sames, hxy]
      | false =>
        rw [hxy] at hstep
        refine ⟨p.length, ?_⟩
        rw [it_ret hstep]
        simp [sames, hxy]

theorem eqf_ev (xs ys : List X) (hb : xs.length ≤ 1000000) (hf : ∀ x ∈ xs, ∀ (y : X) (st : St), E L (.func 16) [.agg x.enc, .agg y.enc] st = some (.v (.bool (x.same y)), st)) (st : St) :
    E L (.func 28) [.sl (encs xs) .dead, .sl (encs ys) .dead, .clo (.func 16) []] st = some (.v (.bool (sames xs ys)), st) := by
  obtain ⟨s, rfl⟩ : ∃ s : St, st = s.app [] [] [] := ⟨st, (app_nil st).symm⟩
  rw [S28_eq]
  by_cases hl : xs.length = ys.length
  · obtain ⟨j, hj⟩ := eqf_loop s xs ys hb hl xs ys [] [] rfl rfl rfl hf
    simp [S28, canon_v, canon_sl, canon_clo, canon_ptr, need_refl, elems_sl, sf_v, sf_sl, sf_ptr, sf_ptrh, sf_clo, sf_dead, sf_nil, sf_full, sf_fr, need_true, ibeq, beq_ba, nbeq, nble, nblt, AM.nth, List.getD_cons_succ, List.getD_cons_zero, Option.bind_some, Option.bind_none, Option.map_some, onBool, AM.onG, onFn, seqK, retK, Ex.outOf, cond_true, cond_false, bin_lss, bin_leq, bin_gtr, bin_geq, bin_eql, bin_neq, bin_add, bin_sub, bin_mul, un_not, str_eql, str_neq, app_push, app_stk, app_tk, app_lp, load_app, load_app0, load_fp, store_app, store_app0, leave_app, leave_app0, AM.ownPut, AM.cellsOf, AM.shift, aPick, fin_v, fin_sl, beq_true, okSz, List.length_cons, List.length_nil, Nat.zero_add, Nat.add_zero, Nat.reduceAdd, decide_true, decide_false, Bool.and_true, Bool.true_and, Bool.and_self, Bool.not_true, Bool.not_false, List.getElem?_cons_zero, List.getElem?_cons_succ, List.nil_append, List.cons_append, hpp_app, hpp_stk, hpp_tk, hpp_lp, hpp_hp, app_lpadd, hload, hload0, hloadh, hstore, hstore0, hleave, hleave0, hfin_v, hfin_sl, hback, hloop, hsetlp, max_int, min_int, hstore_v, hstore_v0, hstore_s, hstore_d, modify_concat, part1, hbackt, hbackl, hback0, List.take_succ_cons, List.take_left, List.take_zero, List.take_nil, len_41, encs_length, hl] at hj ⊢
    rw [hj]
    cases sames xs ys <;> simp [canon_v, canon_sl, canon_clo, canon_ptr, need_refl, elems_sl, sf_v, sf_sl, sf_ptr, sf_ptrh, sf_clo, sf_dead, sf_nil, sf_full, sf_fr, need_true, ibeq, beq_ba, nbeq, nble, nblt, AM.nth, List.getD_cons_succ, List.getD_cons_zero, Option.bind_some, Option.bind_none, Option.map_some, onBool, AM.onG, onFn, seqK, retK, Ex.outOf, cond_true, cond_false, bin_lss, bin_leq, bin_gtr, bin_geq, bin_eql, bin_neq, bin_add, bin_sub, bin_mul, un_not, str_eql, str_neq, app_push, app_stk, app_tk, app_lp, load_app, load_app0, load_fp, store_app, store_app0, leave_app, leave_app0, AM.ownPut, AM.cellsOf, AM.shift, aPick, fin_v, fin_sl, beq_true, okSz, List.length_cons, List.length_nil, Nat.zero_add, Nat.add_zero, Nat.reduceAdd, decide_true, decide_false, Bool.and_true, Bool.true_and, Bool.and_self, Bool.not_true, Bool.not_false, List.getElem?_cons_zero, List.getElem?_cons_succ, List.nil_append, List.cons_append, hpp_app, hpp_stk, hpp_tk, hpp_lp, hpp_hp, app_lpadd, hload, hload0, hloadh, hstore, hstore0, hleave, hleave0, hfin_v, hfin_sl, hback, hloop, hsetlp, max_int, min_int, hstore_v, hstore_v0, hstore_s, hstore_d, modify_concat, part1, hbackt, hbackl, hback0, List.take_succ_cons, List.take_left, List.take_zero, List.take_nil]
  · have : ¬ (xs.length : Int) = ys.length := by omega
    simp [S28, canon_v, canon_sl, canon_clo, canon_ptr, need_refl, elems_sl, sf_v, sf_sl, sf_ptr, sf_ptrh, sf_clo, sf_dead, sf_nil, sf_full, sf_fr, need_true, ibeq, beq_ba, nbeq, nble, nblt, AM.nth, List.getD_cons_succ, List.getD_cons_zero, Option.bind_some, Option.bind_none, Option.map_some, onBool, AM.onG, onFn, seqK, retK, Ex.outOf, cond_true, cond_false, bin_lss, bin_leq, bin_gtr, bin_geq, bin_eql, bin_neq, bin_add, bin_sub, bin_mul, un_not, str_eql, str_neq, app_push, app_stk, app_tk, app_lp, load_app, load_app0, load_fp, store_app, store_app0, leave_app, leave_app0, AM.ownPut, AM.cellsOf, AM.shift, aPick, fin_v, fin_sl, beq_true, okSz, List.length_cons, List.length_nil, Nat.zero_add, Nat.add_zero, Nat.reduceAdd, decide_true, decide_false, Bool.and_true, Bool.true_and, Bool.and_self, Bool.not_true, Bool.not_false, List.getElem?_cons_zero, List.getElem?_cons_succ, List.nil_append, List.cons_append, hpp_app, hpp_stk, hpp_tk, hpp_lp, hpp_hp, app_lpadd, hload, hload0, hloadh, hstore, hstore0, hleave, hleave0, hfin_v, hfin_sl, hback, hloop, hsetlp, max_int, min_int, hstore_v, hstore_v0, hstore_s, hstore_d, modify_concat, part1, hbackt, hbackl, hback0, List.take_succ_cons, List.take_left, List.take_zero, List.take_nil, len_41, encs_length, this, sames_len xs ys hl]

theorem same_ev : ∀ (n : Nat) (x : X), x.sz ≤ n → n ≤ 1000000 → ∀ (y : X) (st : St), E L (.func 16) [.agg x.enc, .agg y.enc] st = some (.v (.bool (x.same y)), st)
  | 0, x, h, _ => by rw [X.sz_eq] at h; omega
  | n + 1, x, h, hn => fun y st => by
    rw [X.sz_eq] at h
    have hk := eqf_ev x.kids y.kids (by have := szs_len x.kids; omega) fun z hz y st => same_ev n z (by have := szs_mem hz; omega) (by omega) y st
    have he : ∀ st, E L (.func 11) [.sl (encs x.kids) .dead, .sl (encs y.kids) .dead] st = some (.v (.bool (sames x.kids y.kids)), st) := fun st => by
      obtain ⟨s, rfl⟩ : ∃ s : St, st = s.app [] [] [] := ⟨st, (app_nil st).symm⟩
      rw [S11_eq]
      simp [S11, canon_v, canon_sl, canon_clo, canon_ptr, need_refl, elems_sl, sf_v, sf_sl, sf_ptr, sf_ptrh, sf_clo, sf_dead, sf_nil, sf_full, sf_fr, need_true, ibeq, beq_ba, nbeq, nble, nblt, AM.nth, List.getD_cons_succ, List.getD_cons_zero, Option.bind_some, Option.bind_none, Option.map_some, onBool, AM.onG, onFn, seqK, retK, Ex.outOf, cond_true, cond_false, bin_lss, bin_leq, bin_gtr, bin_geq, bin_eql, bin_neq, bin_add, bin_sub, bin_mul, un_not, str_eql, str_neq, app_push, app_stk, app_tk, app_lp, load_app, load_app0, load_fp, store_app, store_app0, leave_app, leave_app0, AM.ownPut, AM.cellsOf, AM.shift, aPick, fin_v, fin_sl, beq_true, okSz, List.length_cons, List.length_nil, Nat.zero_add, Nat.add_zero, Nat.reduceAdd, decide_true, decide_false, Bool.and_true, Bool.true_and, Bool.and_self, Bool.not_true, Bool.not_false, List.getElem?_cons_zero, List.getElem?_cons_succ, List.nil_append, List.cons_append, hpp_app, hpp_stk, hpp_tk, hpp_lp, hpp_hp, app_lpadd, hload, hload0, hloadh, hstore, hstore0, hleave, hleave0, hfin_v, hfin_sl, hback, hloop, hsetlp, max_int, min_int, hstore_v, hstore_v0, hstore_s, hstore_d, modify_concat, part1, hbackt, hbackl, hback0, List.take_succ_cons, List.take_left, List.take_zero, List.take_nil, hk]
    obtain ⟨s, rfl⟩ : ∃ s : St, st = s.app [] [] [] := ⟨st, (app_nil st).symm⟩
    rw [S16_eq, X.same_eq]
    by_cases h0 : x.op = y.op
    case neg => simp [S16, canon_v, canon_sl, canon_clo, canon_ptr, need_refl, elems_sl, sf_v, sf_sl, sf_ptr, sf_ptrh, sf_clo, sf_dead, sf_nil, sf_full, sf_fr, need_true, ibeq, beq_ba, nbeq, nble, nblt, AM.nth, List.getD_cons_succ, List.getD_cons_zero, Option.bind_some, Option.bind_none, Option.map_some, onBool, AM.onG, onFn, seqK, retK, Ex.outOf, cond_true, cond_false, bin_lss, bin_leq, bin_gtr, bin_geq, bin_eql, bin_neq, bin_add, bin_sub, bin_mul, un_not, str_eql, str_neq, app_push, app_stk, app_tk, app_lp, load_app, load_app0, load_fp, store_app, store_app0, leave_app, leave_app0, AM.ownPut, AM.cellsOf, AM.shift, aPick, fin_v, fin_sl, beq_true, okSz, List.length_cons, List.length_nil, Nat.zero_add, Nat.add_zero, Nat.reduceAdd, decide_true, decide_false, Bool.and_true, Bool.true_and, Bool.and_self, Bool.not_true, Bool.not_false, List.getElem?_cons_zero, List.getElem?_cons_succ, List.nil_append, List.cons_append, hpp_app, hpp_stk, hpp_tk, hpp_lp, hpp_hp, app_lpadd, hload, hload0, hloadh, hstore, hstore0, hleave, hleave0, hfin_v, hfin_sl, hback, hloop, hsetlp, max_int, min_int, hstore_v, hstore_v0, hstore_s, hstore_d, modify_concat, part1, hbackt, hbackl, hback0, List.take_succ_cons, List.take_left, List.take_zero, List.take_nil, X.p0_1, X.p1_1, X.p2_1, X.p3_1, X.p3_2a, X.p4_1, X.p5_1, X.p6_1, steq_40, he, h0]
    by_cases h1 : x.bin = y.bin
    case neg => simp [S16, canon_v, canon_sl, canon_clo, canon_ptr, need_refl, elems_sl, sf_v, sf_sl, sf_ptr, sf_ptrh, sf_clo, sf_dead, sf_nil, sf_full, sf_fr, need_true, ibeq, beq_ba, nbeq, nble, nblt, AM.nth, List.getD_cons_succ, List.getD_cons_zero, Option.bind_some, Option.bind_none, Option.map_some, onBool, AM.onG, onFn, seqK, retK, Ex.outOf, cond_true, cond_false, bin_lss, bin_leq, bin_gtr, bin_geq, bin_eql, bin_neq, bin_add, bin_sub, bin_mul, un_not, str_eql, str_neq, app_push, app_stk, app_tk, app_lp, load_app, load_app0, load_fp, store_app, store_app0, leave_app, leave_app0, AM.ownPut, AM.cellsOf, AM.shift, aPick, fin_v, fin_sl, beq_true, okSz, List.length_cons, List.length_nil, Nat.zero_add, Nat.add_zero, Nat.reduceAdd, decide_true, decide_false, Bool.and_true, Bool.true_and, Bool.and_self, Bool.not_true, Bool.not_false, List.getElem?_cons_zero, List.getElem?_cons_succ, List.nil_append, List.cons_append, hpp_app, hpp_stk, hpp_tk, hpp_lp, hpp_hp, app_lpadd, hload, hload0, hloadh, hstore, hstore0, hleave, hleave0, hfin_v, hfin_sl, hback, hloop, hsetlp, max_int, min_int, hstore_v, hstore_v0, hstore_s, hstore_d, modify_concat, part1, hbackt, hbackl, hback0, List.take_succ_cons, List.take_left, List.take_zero, List.take_nil, X.p0_1, X.p1_1, X.p2_1, X.p3_1, X.p3_2a, X.p4_1, X.p5_1, X.p6_1, steq_40, he, h0, h1]
    by_cases h2 : x.n = y.n
    case neg => simp [S16, canon_v, canon_sl, canon_clo, canon_ptr, need_refl, elems_sl, sf_v, sf_sl, sf_ptr, sf_ptrh, sf_clo, sf_dead, sf_nil, sf_full, sf_fr, need_true, ibeq, beq_ba, nbeq, nble, nblt, AM.nth, List.getD_cons_succ, List.getD_cons_zero, Option.bind_some, Option.bind_none, Option.map_some, onBool, AM.onG, onFn, seqK, retK, Ex.outOf, cond_true, cond_false, bin_lss, bin_leq, bin_gtr, bin_geq, bin_eql, bin_neq, bin_add, bin_sub, bin_mul, un_not, str_eql, str_neq, app_push, app_stk, app_tk, app_lp, load_app, load_app0, load_fp, store_app, store_app0, leave_app, leave_app0, AM.ownPut, AM.cellsOf, AM.shift, aPick, fin_v, fin_sl, beq_true, okSz, List.length_cons, List.length_nil, Nat.zero_add, Nat.add_zero, Nat.reduceAdd, decide_true, decide_false, Bool.and_true, Bool.true_and, Bool.and_self, Bool.not_true, Bool.not_false, List.getElem?_cons_zero, List.getElem?_cons_succ, List.nil_append, List.cons_append, hpp_app, hpp_stk, hpp_tk, hpp_lp, hpp_hp, app_lpadd, hload, hload0, hloadh, hstore, hstore0, hleave, hleave0, hfin_v, hfin_sl, hback, hloop, hsetlp, max_int, min_int, hstore_v, hstore_v0, hstore_s, hstore_d, modify_concat, part1, hbackt, hbackl, hback0, List.take_succ_cons, List.take_left, List.take_zero, List.take_nil, X.p0_1, X.p1_1, X.p2_1, X.p3_1, X.p3_2a, X.p4_1, X.p5_1, X.p6_1, steq_40, he, h0, h1, h2]
    by_cases h3 : x.kd = y.kd
    case neg => simp [S16, canon_v, canon_sl, canon_clo, canon_ptr, need_refl, elems_sl, sf_v, sf_sl, sf_ptr, sf_ptrh, sf_clo, sf_dead, sf_nil, sf_full, sf_fr, need_true, ibeq, beq_ba, nbeq, nble, nblt, AM.nth, List.getD_cons_succ, List.getD_cons_zero, Option.bind_some, Option.bind_none, Option.map_some, onBool, AM.onG, onFn, seqK, retK, Ex.outOf, cond_true, cond_false, bin_lss, bin_leq, bin_gtr, bin_geq, bin_eql, bin_neq, bin_add, bin_sub, bin_mul, un_not, str_eql, str_neq, app_push, app_stk, app_tk, app_lp, load_app, load_app0, load_fp, store_app, store_app0, leave_app, leave_app0, AM.ownPut, AM.cellsOf, AM.shift, aPick, fin_v, fin_sl, beq_true, okSz, List.length_cons, List.length_nil, Nat.zero_add, Nat.add_zero, Nat.reduceAdd, decide_true, decide_false, Bool.and_true, Bool.true_and, Bool.and_self, Bool.not_true, Bool.not_false, List.getElem?_cons_zero, List.getElem?_cons_succ, List.nil_append, List.cons_append, hpp_app, hpp_stk, hpp_tk, hpp_lp, hpp_hp, app_lpadd, hload, hload0, hloadh, hstore, hstore0, hleave, hleave0, hfin_v, hfin_sl, hback, hloop, hsetlp, max_int, min_int, hstore_v, hstore_v0, hstore_s, hstore_d, modify_concat, part1, hbackt, hbackl, hback0, List.take_succ_cons, List.take_left, List.take_zero, List.take_nil, X.p0_1, X.p1_1, X.p2_1, X.p3_1, X.p3_2a, X.p4_1, X.p5_1, X.p6_1, steq_40, he, h0, h1, h2, h3]
    by_cases h4 : x.rc = y.rc
    case neg => simp [S16, canon_v, canon_sl, canon_clo, canon_ptr, need_refl, elems_sl, sf_v, sf_sl, sf_ptr, sf_ptrh, sf_clo, sf_dead, sf_nil, sf_full, sf_fr, need_true, ibeq, beq_ba, nbeq, nble, nblt, AM.nth, List.getD_cons_succ, List.getD_cons_zero, Option.bind_some, Option.bind_none, Option.map_some, onBool, AM.onG, onFn, seqK, retK, Ex.outOf, cond_true, cond_false, bin_lss, bin_leq, bin_gtr, bin_geq, bin_eql, bin_neq, bin_add, bin_sub, bin_mul, un_not, str_eql, str_neq, app_push, app_stk, app_tk, app_lp, load_app, load_app0, load_fp, store_app, store_app0, leave_app, leave_app0, AM.ownPut, AM.cellsOf, AM.shift, aPick, fin_v, fin_sl, beq_true, okSz, List.length_cons, List.length_nil, Nat.zero_add, Nat.add_zero, Nat.reduceAdd, decide_true, decide_false, Bool.and_true, Bool.true_and, Bool.and_self, Bool.not_true, Bool.not_false, List.getElem?_cons_zero, List.getElem?_cons_succ, List.nil_append, List.cons_append, hpp_app, hpp_stk, hpp_tk, hpp_lp, hpp_hp, app_lpadd, hload, hload0, hloadh, hstore, hstore0, hleave, hleave0, hfin_v, hfin_sl, hback, hloop, hsetlp, max_int, min_int, hstore_v, hstore_v0, hstore_s, hstore_d, modify_concat, part1, hbackt, hbackl, hback0, List.take_succ_cons, List.take_left, List.take_zero, List.take_nil, X.p0_1, X.p1_1, X.p2_1, X.p3_1, X.p3_2a, X.p4_1, X.p5_1, X.p6_1, steq_40, he, h0, h1, h2, h3, h4]
    by_cases h5 : x.name = y.name
    case neg => simp [S16, canon_v, canon_sl, canon_clo, canon_ptr, need_refl, elems_sl, sf_v, sf_sl, sf_ptr, sf_ptrh, sf_clo, sf_dead, sf_nil, sf_full, sf_fr, need_true, ibeq, beq_ba, nbeq, nble, nblt, AM.nth, List.getD_cons_succ, List.getD_cons_zero, Option.bind_some, Option.bind_none, Option.map_some, onBool, AM.onG, onFn, seqK, retK, Ex.outOf, cond_true, cond_false, bin_lss, bin_leq, bin_gtr, bin_geq, bin_eql, bin_neq, bin_add, bin_sub, bin_mul, un_not, str_eql, str_neq, app_push, app_stk, app_tk, app_lp, load_app, load_app0, load_fp, store_app, store_app0, leave_app, leave_app0, AM.ownPut, AM.cellsOf, AM.shift, aPick, fin_v, fin_sl, beq_true, okSz, List.length_cons, List.length_nil, Nat.zero_add, Nat.add_zero, Nat.reduceAdd, decide_true, decide_false, Bool.and_true, Bool.true_and, Bool.and_self, Bool.not_true, Bool.not_false, List.getElem?_cons_zero, List.getElem?_cons_succ, List.nil_append, List.cons_append, hpp_app, hpp_stk, hpp_tk, hpp_lp, hpp_hp, app_lpadd, hload, hload0, hloadh, hstore, hstore0, hleave, hleave0, hfin_v, hfin_sl, hback, hloop, hsetlp, max_int, min_int, hstore_v, hstore_v0, hstore_s, hstore_d, modify_concat, part1, hbackt, hbackl, hback0, List.take_succ_cons, List.take_left, List.take_zero, List.take_nil, X.p0_1, X.p1_1, X.p2_1, X.p3_1, X.p3_2a, X.p4_1, X.p5_1, X.p6_1, steq_40, he, h0, h1, h2, h3, h4, h5]
    simp [S16, canon_v, canon_sl, canon_clo, canon_ptr, need_refl, elems_sl, sf_v, sf_sl, sf_ptr, sf_ptrh, sf_clo, sf_dead, sf_nil, sf_full, sf_fr, need_true, ibeq, beq_ba, nbeq, nble, nblt, AM.nth, List.getD_cons_succ, List.getD_cons_zero, Option.bind_some, Option.bind_none, Option.map_some, onBool, AM.onG, onFn, seqK, retK, Ex.outOf, cond_true, cond_false, bin_lss, bin_leq, bin_gtr, bin_geq, bin_eql, bin_neq, bin_add, bin_sub, bin_mul, un_not, str_eql, str_neq, app_push, app_stk, app_tk, app_lp, load_app, load_app0, load_fp, store_app, store_app0, leave_app, leave_app0, AM.ownPut, AM.cellsOf, AM.shift, aPick, fin_v, fin_sl, beq_true, okSz, List.length_cons, List.length_nil, Nat.zero_add, Nat.add_zero, Nat.reduceAdd, decide_true, decide_false, Bool.and_true, Bool.true_and, Bool.and_self, Bool.not_true, Bool.not_false, List.getElem?_cons_zero, List.getElem?_cons_succ, List.nil_append, List.cons_append, hpp_app, hpp_stk, hpp_tk, hpp_lp, hpp_hp, app_lpadd, hload, hload0, hloadh, hstore, hstore0, hleave, hleave0, hfin_v, hfin_sl, hback, hloop, hsetlp, max_int, min_int, hstore_v, hstore_v0, hstore_s, hstore_d, modify_concat, part1, hbackt, hbackl, hback0, List.take_succ_cons, List.take_left, List.take_zero, List.take_nil, X.p0_1, X.p1_1, X.p2_1, X.p3_1, X.p3_2a, X.p4_1, X.p5_1, X.p6_1, steq_40, he, h0, h1, h2, h3, h4, h5]
end Go.Proofs.Ytkbhejcfejembaa.S

/- Trees: when two statements are the same. No condition. -/
namespace Go.Proofs.Ytkbhejcfejembaa.S
open Go Go.AM Go.Proofs
set_option linter.unusedVariables false
set_option linter.unusedSimpArgs false

mutual
def S.sz : S → Nat
  | ⟨_, _, r, p, e, _, xs, b, c, _, _⟩ => r.e.sz + r.place.index.sz + p.index.sz + e.sz + szs xs + sszs b + sszs c + 1
def sszs : List S → Nat
  | [] => 0
  | x :: xs => x.sz + sszs xs
end
theorem S.sz_eq (x : S) : x.sz = x.right.e.sz + x.right.place.index.sz + x.place.index.sz + x.e.sz + szs x.args + sszs x.body + sszs x.els + 1 := by cases x; rfl
theorem sszs_len : ∀ xs : List S, xs.length ≤ sszs xs
  | [] => by simp [sszs]
  | x :: xs => by
    have := sszs_len xs
    have : 1 ≤ x.sz := by cases x; simp [S.sz]
    simp [sszs]; omega
theorem sszs_mem {x : S} : ∀ {xs : List S}, x ∈ xs → x.sz ≤ sszs xs
  | [], h => by cases h
  | y :: ys, h => by
    rcases List.mem_cons.1 h with rfl | h
    · simp [sszs]
    · have := sszs_mem h; simp [sszs]; omega

def Pl.same (x y : Pl) : Bool := decide (x.op = y.op) && (decide (x.base = y.base) && (decide (x.field = y.field) && x.index.same y.index))
def Rt.same (x y : Rt) : Bool := decide (x.op = y.op) && (decide (x.name = y.name) && (x.e.same y.e && x.place.same y.place))
mutual
def S.same : S → S → Bool
  | ⟨op, name, right, place, e, n, args, body, els, _, _⟩, y =>
    decide (op = y.op) && (decide (name = y.name) && (decide (n = y.n) && (right.same y.right && (place.same y.place && (e.same y.e && (sames args y.args && (ssames body y.body && ssames els y.els)))))))
def ssames : List S → List S → Bool
  | [], [] => true
  | x :: xs, y :: ys => x.same y && ssames xs ys
  | _, _ => false
end
theorem S.same_eq (x y : S) : x.same y = (decide (x.op = y.op) && (decide (x.name = y.name) && (decide (x.n = y.n) && (x.right.same y.right && (x.place.same y.place && (x.e.same y.e && (sames x.args y.args && (ssames x.body y.body && ssames x.els y.els)))))))) := by
  cases x; simp only [S.same]; rfl
theorem ssames_len : ∀ (xs ys : List S), xs.length ≠ ys.length → ssames xs ys = false
  | [], [], h => absurd rfl h
  | [], y :: ys, h => by simp [ssames]
  | x :: xs, [], h => by simp [ssames]
  | x :: xs, y :: ys, h => by simp [ssames, ssames_len xs ys (by simpa using h)]

theorem exprs_ev (xs ys : List X) (h : szs xs ≤ 1000000) (st : St) : E L (.func 11) [.sl (encs xs) .dead, .sl (encs ys) .dead] st = some (.v (.bool (sames xs ys)), st) := by
  have hk := eqf_ev xs ys (by have := szs_len xs; omega) fun z hz y st => same_ev z.sz z (Nat.le_refl _) (by have := szs_mem hz; omega) y st
  obtain ⟨s, rfl⟩ : ∃ s : St, st = s.app [] [] [] := ⟨st, (app_nil st).symm⟩
  rw [S11_eq]
  simp [S11, canon_v, canon_sl, canon_clo, canon_ptr, need_refl, elems_sl, sf_v, sf_sl, sf_ptr, sf_ptrh, sf_clo, sf_dead, sf_nil, sf_full, sf_fr, need_true, ibeq, beq_ba, nbeq, nble, nblt, AM.nth, List.getD_cons_succ, List.getD_cons_zero, Option.bind_some, Option.bind_none, Option.map_some, onBool, AM.onG, onFn, seqK, retK, Ex.outOf, cond_true, cond_false, bin_lss, bin_leq, bin_gtr, bin_geq, bin_eql, bin_neq, bin_add, bin_sub, bin_mul, un_not, str_eql, str_neq, app_push, app_stk, app_tk, app_lp, load_app, load_app0, load_fp, store_app, store_app0, leave_app, leave_app0, AM.ownPut, AM.cellsOf, AM.shift, aPick, fin_v, fin_sl, beq_true, okSz, List.length_cons, List.length_nil, Nat.zero_add, Nat.add_zero, Nat.reduceAdd, decide_true, decide_false, Bool.and_true, Bool.true_and, Bool.and_self, Bool.not_true, Bool.not_false, List.getElem?_cons_zero, List.getElem?_cons_succ, List.nil_append, List.cons_append, hpp_app, hpp_stk, hpp_tk, hpp_lp, hpp_hp, app_lpadd, hload, hload0, hloadh, hstore, hstore0, hleave, hleave0, hfin_v, hfin_sl, hback, hloop, hsetlp, max_int, min_int, hstore_v, hstore_v0, hstore_s, hstore_d, modify_concat, part1, hbackt, hbackl, hback0, List.take_succ_cons, List.take_left, List.take_zero, List.take_nil, hk]

theorem pl_ev (x y : Pl) (h : x.index.sz ≤ 1000000) (st : St) : E L (.func 41) [.agg x.enc, .agg y.enc] st = some (.v (.bool (x.same y)), st) := by
  have he := same_ev x.index.sz x.index (Nat.le_refl _) h y.index
  obtain ⟨s, rfl⟩ : ∃ s : St, st = s.app [] [] [] := ⟨st, (app_nil st).symm⟩
  rw [S41_eq, Pl.same]
  by_cases h0 : x.op = y.op
  case neg => simp [S41, canon_v, canon_sl, canon_clo, canon_ptr, need_refl, elems_sl, sf_v, sf_sl, sf_ptr, sf_ptrh, sf_clo, sf_dead, sf_nil, sf_full, sf_fr, need_true, ibeq, beq_ba, nbeq, nble, nblt, AM.nth, List.getD_cons_succ, List.getD_cons_zero, Option.bind_some, Option.bind_none, Option.map_some, onBool, AM.onG, onFn, seqK, retK, Ex.outOf, cond_true, cond_false, bin_lss, bin_leq, bin_gtr, bin_geq, bin_eql, bin_neq, bin_add, bin_sub, bin_mul, un_not, str_eql, str_neq, app_push, app_stk, app_tk, app_lp, load_app, load_app0, load_fp, store_app, store_app0, leave_app, leave_app0, AM.ownPut, AM.cellsOf, AM.shift, aPick, fin_v, fin_sl, beq_true, okSz, List.length_cons, List.length_nil, Nat.zero_add, Nat.add_zero, Nat.reduceAdd, decide_true, decide_false, Bool.and_true, Bool.true_and, Bool.and_self, Bool.not_true, Bool.not_false, List.getElem?_cons_zero, List.getElem?_cons_succ, List.nil_append, List.cons_append, hpp_app, hpp_stk, hpp_tk, hpp_lp, hpp_hp, app_lpadd, hload, hload0, hloadh, hstore, hstore0, hleave, hleave0, hfin_v, hfin_sl, hback, hloop, hsetlp, max_int, min_int, hstore_v, hstore_v0, hstore_s, hstore_d, modify_concat, part1, hbackt, hbackl, hback0, List.take_succ_cons, List.take_left, List.take_zero, List.take_nil, Pl.p0_1, Pl.p1_1, Pl.p2_1, Pl.p3_9a, X.can, he, h0]
  by_cases h1 : x.base = y.base
  case neg => simp [S41, canon_v, canon_sl, canon_clo, canon_ptr, need_refl, elems_sl, sf_v, sf_sl, sf_ptr, sf_ptrh, sf_clo, sf_dead, sf_nil, sf_full, sf_fr, need_true, ibeq, beq_ba, nbeq, nble, nblt, AM.nth, List.getD_cons_succ, List.getD_cons_zero, Option.bind_some, Option.bind_none, Option.map_some, onBool, AM.onG, onFn, seqK, retK, Ex.outOf, cond_true, cond_false, bin_lss, bin_leq, bin_gtr, bin_geq, bin_eql, bin_neq, bin_add, bin_sub, bin_mul, un_not, str_eql, str_neq, app_push, app_stk, app_tk, app_lp, load_app, load_app0, load_fp, store_app, store_app0, leave_app, leave_app0, AM.ownPut, AM.cellsOf, AM.shift, aPick, fin_v, fin_sl, beq_true, okSz, List.length_cons, List.length_nil, Nat.zero_add, Nat.add_zero, Nat.reduceAdd, decide_true, decide_false, Bool.and_true, Bool.true_and, Bool.and_self, Bool.not_true, Bool.not_false, List.getElem?_cons_zero, List.getElem?_cons_succ, List.nil_append, List.cons_append, hpp_app, hpp_stk, hpp_tk, hpp_lp, hpp_hp, app_lpadd, hload, hload0, hloadh, hstore, hstore0, hleave, hleave0, hfin_v, hfin_sl, hback, hloop, hsetlp, max_int, min_int, hstore_v, hstore_v0, hstore_s, hstore_d, modify_concat, part1, hbackt, hbackl, hback0, List.take_succ_cons, List.take_left, List.take_zero, List.take_nil, Pl.p0_1, Pl.p1_1, Pl.p2_1, Pl.p3_9a, X.can, he, h0, h1]
  by_cases h2 : x.field = y.field
  case neg => simp [S41, canon_v, canon_sl, canon_clo, canon_ptr, need_refl, elems_sl, sf_v, sf_sl, sf_ptr, sf_ptrh, sf_clo, sf_dead, sf_nil, sf_full, sf_fr, need_true, ibeq, beq_ba, nbeq, nble, nblt, AM.nth, List.getD_cons_succ, List.getD_cons_zero, Option.bind_some, Option.bind_none, Option.map_some, onBool, AM.onG, onFn, seqK, retK, Ex.outOf, cond_true, cond_false, bin_lss, bin_leq, bin_gtr, bin_geq, bin_eql, bin_neq, bin_add, bin_sub, bin_mul, un_not, str_eql, str_neq, app_push, app_stk, app_tk, app_lp, load_app, load_app0, load_fp, store_app, store_app0, leave_app, leave_app0, AM.ownPut, AM.cellsOf, AM.shift, aPick, fin_v, fin_sl, beq_true, okSz, List.length_cons, List.length_nil, Nat.zero_add, Nat.add_zero, Nat.reduceAdd, decide_true, decide_false, Bool.and_true, Bool.true_and, Bool.and_self, Bool.not_true, Bool.not_false, List.getElem?_cons_zero, List.getElem?_cons_succ, List.nil_append, List.cons_append, hpp_app, hpp_stk, hpp_tk, hpp_lp, hpp_hp, app_lpadd, hload, hload0, hloadh, hstore, hstore0, hleave, hleave0, hfin_v, hfin_sl, hback, hloop, hsetlp, max_int, min_int, hstore_v, hstore_v0, hstore_s, hstore_d, modify_concat, part1, hbackt, hbackl, hback0, List.take_succ_cons, List.take_left, List.take_zero, List.take_nil, Pl.p0_1, Pl.p1_1, Pl.p2_1, Pl.p3_9a, X.can, he, h0, h1, h2]
  simp [S41, canon_v, canon_sl, canon_clo, canon_ptr, need_refl, elems_sl, sf_v, sf_sl, sf_ptr, sf_ptrh, sf_clo, sf_dead, sf_nil, sf_full, sf_fr, need_true, ibeq, beq_ba, nbeq, nble, nblt, AM.nth, List.getD_cons_succ, List.getD_cons_zero, Option.bind_some, Option.bind_none, Option.map_some, onBool, AM.onG, onFn, seqK, retK, Ex.outOf, cond_true, cond_false, bin_lss, bin_leq, bin_gtr, bin_geq, bin_eql, bin_neq, bin_add, bin_sub, bin_mul, un_not, str_eql, str_neq, app_push, app_stk, app_tk, app_lp, load_app, load_app0, load_fp, store_app, store_app0, leave_app, leave_app0, AM.ownPut, AM.cellsOf, AM.shift, aPick, fin_v, fin_sl, beq_true, okSz, List.length_cons, List.length_nil, Nat.zero_add, Nat.add_zero, Nat.reduceAdd, decide_true, decide_false, Bool.and_true, Bool.true_and, Bool.and_self, Bool.not_true, Bool.not_false, List.getElem?_cons_zero, List.getElem?_cons_succ, List.nil_append, List.cons_append, hpp_app, hpp_stk, hpp_tk, hpp_lp, hpp_hp, app_lpadd, hload, hload0, hloadh, hstore, hstore0, hleave, hleave0, hfin_v, hfin_sl, hback, hloop, hsetlp, max_int, min_int, hstore_v, hstore_v0, hstore_s, hstore_d, modify_concat, part1, hbackt, hbackl, hback0, List.take_succ_cons, List.take_left, List.take_zero, List.take_nil, Pl.p0_1, Pl.p1_1, Pl.p2_1, Pl.p3_9a, X.can, he, h0, h1, h2]

theorem rt_ev (x y : Rt) (h : x.e.sz ≤ 1000000) (h2 : x.place.index.sz ≤ 1000000) (st : St) : E L (.func 40) [.agg x.enc, .agg y.enc] st = some (.v (.bool (x.same y)), st) := by
  have he := same_ev x.e.sz x.e (Nat.le_refl _) h y.e
  have hp := pl_ev x.place y.place h2
  obtain ⟨s, rfl⟩ : ∃ s : St, st = s.app [] [] [] := ⟨st, (app_nil st).symm⟩
  rw [S40_eq, Rt.same]
  by_cases h0 : x.op = y.op
  case neg => simp [S40, canon_v, canon_sl, canon_clo, canon_ptr, need_refl, elems_sl, sf_v, sf_sl, sf_ptr, sf_ptrh, sf_clo, sf_dead, sf_nil, sf_full, sf_fr, need_true, ibeq, beq_ba, nbeq, nble, nblt, AM.nth, List.getD_cons_succ, List.getD_cons_zero, Option.bind_some, Option.bind_none, Option.map_some, onBool, AM.onG, onFn, seqK, retK, Ex.outOf, cond_true, cond_false, bin_lss, bin_leq, bin_gtr, bin_geq, bin_eql, bin_neq, bin_add, bin_sub, bin_mul, un_not, str_eql, str_neq, app_push, app_stk, app_tk, app_lp, load_app, load_app0, load_fp, store_app, store_app0, leave_app, leave_app0, AM.ownPut, AM.cellsOf, AM.shift, aPick, fin_v, fin_sl, beq_true, okSz, List.length_cons, List.length_nil, Nat.zero_add, Nat.add_zero, Nat.reduceAdd, decide_true, decide_false, Bool.and_true, Bool.true_and, Bool.and_self, Bool.not_true, Bool.not_false, List.getElem?_cons_zero, List.getElem?_cons_succ, List.nil_append, List.cons_append, hpp_app, hpp_stk, hpp_tk, hpp_lp, hpp_hp, app_lpadd, hload, hload0, hloadh, hstore, hstore0, hleave, hleave0, hfin_v, hfin_sl, hback, hloop, hsetlp, max_int, min_int, hstore_v, hstore_v0, hstore_s, hstore_d, modify_concat, part1, hbackt, hbackl, hback0, List.take_succ_cons, List.take_left, List.take_zero, List.take_nil, Rt.p0_1, Rt.p24_1, Rt.p1_9a, Rt.p10_14a, X.can, Pl.can, he, hp, h0]
  by_cases h1 : x.name = y.name
  case neg => simp [S40, canon_v, canon_sl, canon_clo, canon_ptr, need_refl, elems_sl, sf_v, sf_sl, sf_ptr, sf_ptrh, sf_clo, sf_dead, sf_nil, sf_full, sf_fr, need_true, ibeq, beq_ba, nbeq, nble, nblt, AM.nth, List.getD_cons_succ, List.getD_cons_zero, Option.bind_some, Option.bind_none, Option.map_some, onBool, AM.onG, onFn, seqK, retK, Ex.outOf, cond_true, cond_false, bin_lss, bin_leq, bin_gtr, bin_geq, bin_eql, bin_neq, bin_add, bin_sub, bin_mul, un_not, str_eql, str_neq, app_push, app_stk, app_tk, app_lp, load_app, load_app0, load_fp, store_app, store_app0, leave_app, leave_app0, AM.ownPut, AM.cellsOf, AM.shift, aPick, fin_v, fin_sl, beq_true, okSz, List.length_cons, List.length_nil, Nat.zero_add, Nat.add_zero, Nat.reduceAdd, decide_true, decide_false, Bool.and_true, Bool.true_and, Bool.and_self, Bool.not_true, Bool.not_false, List.getElem?_cons_zero, List.getElem?_cons_succ, List.nil_append, List.cons_append, hpp_app, hpp_stk, hpp_tk, hpp_lp, hpp_hp, app_lpadd, hload, hload0, hloadh, hstore, hstore0, hleave, hleave0, hfin_v, hfin_sl, hback, hloop, hsetlp, max_int, min_int, hstore_v, hstore_v0, hstore_s, hstore_d, modify_concat, part1, hbackt, hbackl, hback0, List.take_succ_cons, List.take_left, List.take_zero, List.take_nil, Rt.p0_1, Rt.p24_1, Rt.p1_9a, Rt.p10_14a, X.can, Pl.can, he, hp, h0, h1]
  by_cases h2 : x.e.same y.e = true
  case neg => simp [S40, canon_v, canon_sl, canon_clo, canon_ptr, need_refl, elems_sl, sf_v, sf_sl, sf_ptr, sf_ptrh, sf_clo, sf_dead, sf_nil, sf_full, sf_fr, need_true, ibeq, beq_ba, nbeq, nble, nblt, AM.nth, List.getD_cons_succ, List.getD_cons_zero, Option.bind_some, Option.bind_none, Option.map_some, onBool, AM.onG, onFn, seqK, retK, Ex.outOf, cond_true, cond_false, bin_lss, bin_leq, bin_gtr, bin_geq, bin_eql, bin_neq, bin_add, bin_sub, bin_mul, un_not, str_eql, str_neq, app_push, app_stk, app_tk, app_lp, load_app, load_app0, load_fp, store_app, store_app0, leave_app, leave_app0, AM.ownPut, AM.cellsOf, AM.shift, aPick, fin_v, fin_sl, beq_true, okSz, List.length_cons, List.length_nil, Nat.zero_add, Nat.add_zero, Nat.reduceAdd, decide_true, decide_false, Bool.and_true, Bool.true_and, Bool.and_self, Bool.not_true, Bool.not_false, List.getElem?_cons_zero, List.getElem?_cons_succ, List.nil_append, List.cons_append, hpp_app, hpp_stk, hpp_tk, hpp_lp, hpp_hp, app_lpadd, hload, hload0, hloadh, hstore, hstore0, hleave, hleave0, hfin_v, hfin_sl, hback, hloop, hsetlp, max_int, min_int, hstore_v, hstore_v0, hstore_s, hstore_d, modify_concat, part1, hbackt, hbackl, hback0, List.take_succ_cons, List.take_left, List.take_zero, List.take_nil, Rt.p0_1, Rt.p24_1, Rt.p1_9a, Rt.p10_14a, X.can, Pl.can, he, hp, h0, h1, h2]
  simp [S40, canon_v, canon_sl, canon_clo, canon_ptr, need_refl, elems_sl, sf_v, sf_sl, sf_ptr, sf_ptrh, sf_clo, sf_dead, sf_nil, sf_full, sf_fr, need_true, ibeq, beq_ba, nbeq, nble, nblt, AM.nth, List.getD_cons_succ, List.getD_cons_zero, Option.bind_some, Option.bind_none, Option.map_some, onBool, AM.onG, onFn, seqK, retK, Ex.outOf, cond_true, cond_false, bin_lss, bin_leq, bin_gtr, bin_geq, bin_eql, bin_neq, bin_add, bin_sub, bin_mul, un_not, str_eql, str_neq, app_push, app_stk, app_tk, app_lp, load_app, load_app0, load_fp, store_app, store_app0, leave_app, leave_app0, AM.ownPut, AM.cellsOf, AM.shift, aPick, fin_v, fin_sl, beq_true, okSz, List.length_cons, List.length_nil, Nat.zero_add, Nat.add_zero, Nat.reduceAdd, decide_true, decide_false, Bool.and_true, Bool.true_and, Bool.and_self, Bool.not_true, Bool.not_false, List.getElem?_cons_zero, List.getElem?_cons_succ, List.nil_append, List.cons_append, hpp_app, hpp_stk, hpp_tk, hpp_lp, hpp_hp, app_lpadd, hload, hload0, hloadh, hstore, hstore0, hleave, hleave0, hfin_v, hfin_sl, hback, hloop, hsetlp, max_int, min_int, hstore_v, hstore_v0, hstore_s, hstore_d, modify_concat, part1, hbackt, hbackl, hback0, List.take_succ_cons, List.take_left, List.take_zero, List.take_nil, Rt.p0_1, Rt.p24_1, Rt.p1_9a, Rt.p10_14a, X.can, Pl.can, he, hp, h0, h1, h2]

theorem sencs_get (p : List S) (x : S) (xs : List S) : (sencs (p ++ x :: xs))[p.length]? = some x.enc := by
  rw [sencs_map]; simp

theorem seqf_loop (s : St) (xs0 ys0 : List S) (hb : xs0.length ≤ 1000000) (hl : xs0.length = ys0.length) : ∀ (xs ys p q : List S), xs0 = p ++ xs → ys0 = q ++ ys → p.length = q.length →
    (∀ x ∈ xs, ∀ (y : S) (st : St), E L (.func 18) [.agg x.enc, .agg y.enc] st = some (.v (.bool (x.same y)), st)) →
    ∃ j : Int, itE (S27.b0 (E L) itE s.stk.length s.lp.length) [.sl (sencs ys0) .dead, .clo (.func 18) [], .v (.bool false), .sl (sencs xs0) .dead, int xs0.length, int p.length] (s.app [] [] []) =
      some (bif ssames xs ys then .exit 0 else .ret, [.sl (sencs ys0) .dead, .clo (.func 18) [], .v (.bool false), .sl (sencs xs0) .dead, int xs0.length, int j], s.app [] [] [])
  | [], ys, p, q, hx, hy, hp, hf => by
    obtain rfl : ys = [] := by
      have := congrArg List.length hx
      have := congrArg List.length hy
      simp at *
      exact List.length_eq_zero_iff.1 (by omega)
    refine ⟨p.length, ?_⟩
    rw [itE_eq]
    have e : xs0.length = p.length := by rw [hx]; simp
    simp [S27.b0, canon_v, canon_sl, canon_clo, canon_ptr, need_refl, elems_sl, sf_v, sf_sl, sf_ptr, sf_ptrh, sf_clo, sf_dead, sf_nil, sf_full, sf_fr, need_true, ibeq, beq_ba, nbeq, nble, nblt, AM.nth, List.getD_cons_succ, List.getD_cons_zero, Option.bind_some, Option.bind_none, Option.map_some, onBool, AM.onG, onFn, seqK, retK, Ex.outOf, cond_true, cond_false, bin_lss, bin_leq, bin_gtr, bin_geq, bin_eql, bin_neq, bin_add, bin_sub, bin_mul, un_not, str_eql, str_neq, app_push, app_stk, app_tk, app_lp, load_app, load_app0, load_fp, store_app, store_app0, leave_app, leave_app0, AM.ownPut, AM.cellsOf, AM.shift, aPick, fin_v, fin_sl, beq_true, okSz, List.length_cons, List.length_nil, Nat.zero_add, Nat.add_zero, Nat.reduceAdd, decide_true, decide_false, Bool.and_true, Bool.true_and, Bool.and_self, Bool.not_true, Bool.not_false, List.getElem?_cons_zero, List.getElem?_cons_succ, List.nil_append, List.cons_append, hpp_app, hpp_stk, hpp_tk, hpp_lp, hpp_hp, app_lpadd, hload, hload0, hloadh, hstore, hstore0, hleave, hleave0, hfin_v, hfin_sl, hback, hloop, hsetlp, max_int, min_int, hstore_v, hstore_v0, hstore_s, hstore_d, modify_concat, part1, hbackt, hbackl, hback0, List.take_succ_cons, List.take_left, List.take_zero, List.take_nil, e, ssames]
  | x :: xs, ys, p, q, hx, hy, hp, hf => by
    match ys, hy with
    | [], hy =>
      exfalso
      have := congrArg List.length hx
      have := congrArg List.length hy
      simp at *
      omega
    | y :: ys, hy =>
      have hlt : (p.length : Int) < (xs0.length : Int) := by rw [hx]; simp; omega
      have g1 : (sencs xs0)[p.length]? = some x.enc := by rw [hx]; exact sencs_get p x xs
      have g2 : (sencs ys0)[p.length]? = some y.enc := by rw [hy, hp]; exact sencs_get q y ys
      have r1 : inRange (p.length : Int) (sencs xs0).length = true := by rw [sencs_length, hx]; exact inR p x xs
      have r2 : inRange (p.length : Int) (sencs ys0).length = true := by rw [sencs_length, hy, hp]; exact inR q y ys
      have w1 : IntKind.i64.wrap ((p.length : Int) + 1) = ((p ++ [x]).length : Int) := by rw [IntWalk.i64_in _ (by omega)]; simp
      have hc := hf x List.mem_cons_self y
      have hstep : S27.b0 (E L) itE s.stk.length s.lp.length [.sl (sencs ys0) .dead, .clo (.func 18) [], .v (.bool false), .sl (sencs xs0) .dead, int xs0.length, int p.length] (s.app [] [] []) =
          some (bif x.same y then (.normal, [.sl (sencs ys0) .dead, .clo (.func 18) [], .v (.bool false), .sl (sencs xs0) .dead, int xs0.length, int (p ++ [x]).length], s.app [] [] []) else
            (.ret, [.sl (sencs ys0) .dead, .clo (.func 18) [], .v (.bool false), .sl (sencs xs0) .dead, int xs0.length, int p.length], s.app [] [] [])) := by
        simp [S27.b0, canon_v, canon_sl, canon_clo, canon_ptr, need_refl, elems_sl, sf_v, sf_sl, sf_ptr, sf_ptrh, sf_clo, sf_dead, sf_nil, sf_full, sf_fr, need_true, ibeq, beq_ba, nbeq, nble, nblt, AM.nth, List.getD_cons_succ, List.getD_cons_zero, Option.bind_some, Option.bind_none, Option.map_some, onBool, AM.onG, onFn, seqK, retK, Ex.outOf, cond_true, cond_false, bin_lss, bin_leq, bin_gtr, bin_geq, bin_eql, bin_neq, bin_add, bin_sub, bin_mul, un_not, str_eql, str_neq, app_push, app_stk, app_tk, app_lp, load_app, load_app0, load_fp, store_app, store_app0, leave_app, leave_app0, AM.ownPut, AM.cellsOf, AM.shift, aPick, fin_v, fin_sl, beq_true, okSz, List.length_cons, List.length_nil, Nat.zero_add, Nat.add_zero, Nat.reduceAdd, decide_true, decide_false, Bool.and_true, Bool.true_and, Bool.and_self, Bool.not_true, Bool.not_false, List.getElem?_cons_zero, List.getElem?_cons_succ, List.nil_append, List.cons_append, hpp_app, hpp_stk, hpp_tk, hpp_lp, hpp_hp, app_lpadd, hload, hload0, hloadh, hstore, hstore0, hleave, hleave0, hfin_v, hfin_sl, hback, hloop, hsetlp, max_int, min_int, hstore_v, hstore_v0, hstore_s, hstore_d, modify_concat, part1, hbackt, hbackl, hback0, List.take_succ_cons, List.take_left, List.take_zero, List.take_nil, hlt, ia_31, r1, r2, g1, g2, S.len, S.whole, S.okc, S.can, laid0, hc]
        cases x.same y <;> simp [canon_v, canon_sl, canon_clo, canon_ptr, need_refl, elems_sl, sf_v, sf_sl, sf_ptr, sf_ptrh, sf_clo, sf_dead, sf_nil, sf_full, sf_fr, need_true, ibeq, beq_ba, nbeq, nble, nblt, AM.nth, List.getD_cons_succ, List.getD_cons_zero, Option.bind_some, Option.bind_none, Option.map_some, onBool, AM.onG, onFn, seqK, retK, Ex.outOf, cond_true, cond_false, bin_lss, bin_leq, bin_gtr, bin_geq, bin_eql, bin_neq, bin_add, bin_sub, bin_mul, un_not, str_eql, str_neq, app_push, app_stk, app_tk, app_lp, load_app, load_app0, load_fp, store_app, store_app0, leave_app, leave_app0, AM.ownPut, AM.cellsOf, AM.shift, aPick, fin_v, fin_sl, beq_true, okSz, List.length_cons, List.length_nil, Nat.zero_add, Nat.add_zero, Nat.reduceAdd, decide_true, decide_false, Bool.and_true, Bool.true_and, Bool.and_self, Bool.not_true, Bool.not_false, List.getElem?_cons_zero, List.getElem?_cons_succ, List.nil_append, List.cons_append, hpp_app, hpp_stk, hpp_tk, hpp_lp, hpp_hp, app_lpadd, hload, hload0, hloadh, hstore, hstore0, hleave, hleave0, hfin_v, hfin_sl, hback, hloop, hsetlp, max_int, min_int, hstore_v, hstore_v0, hstore_s, hstore_d, modify_concat, part1, hbackt, hbackl, hback0, List.take_succ_cons, List.take_left, List.take_zero, List.take_nil, w1]
      cases hxy : x.same y with
      | true =>
        rw [hxy] at hstep
        obtain ⟨j, hj⟩ := seqf_loop s xs0 ys0 hb hl xs ys (p ++ [x]) (q ++ [y]) (by simp [hx]) (by simp [hy]) (by simp [hp]) fun z hz => hf z (List.mem_cons_of_mem _ hz)
        refine ⟨j, ?_⟩
        rw [it_step hstep, hj]
        simp [ssames, hxy]
      | false =>
        rw [hxy] at hstep
        refine ⟨p.length, ?_⟩
        rw [it_ret hstep]
        simp [ssames, hxy]

theorem seqf_ev (xs ys : List S) (hb : xs.length ≤ 1000000) (hf : ∀ x ∈ xs, ∀ (y : S) (st : St), E L (.func 18) [.agg x.enc, .agg y.enc] st = some (.v (.bool (x.same y)), st)) (st : St) :
    E L (.func 10) [.sl (sencs xs) .dead, .sl (sencs ys) .dead] st = some (.v (.bool (ssames xs ys)), st) := by
  have hk : ∀ st : St, E L (.func 27) [.sl (sencs xs) .dead, .sl (sencs ys) .dead, .clo (.func 18) []] st = some (.v (.bool (ssames xs ys)), st) := fun st => by
    obtain ⟨s, rfl⟩ : ∃ s : St, st = s.app [] [] [] := ⟨st, (app_nil st).symm⟩
    rw [S27_eq]
    by_cases hl : xs.length = ys.length
    · obtain ⟨j, hj⟩ := seqf_loop s xs ys hb hl xs ys [] [] rfl rfl rfl hf
      simp [S27, canon_v, canon_sl, canon_clo, canon_ptr, need_refl, elems_sl, sf_v, sf_sl, sf_ptr, sf_ptrh, sf_clo, sf_dead, sf_nil, sf_full, sf_fr, need_true, ibeq, beq_ba, nbeq, nble, nblt, AM.nth, List.getD_cons_succ, List.getD_cons_zero, Option.bind_some, Option.bind_none, Option.map_some, onBool, AM.onG, onFn, seqK, retK, Ex.outOf, cond_true, cond_false, bin_lss, bin_leq, bin_gtr, bin_geq, bin_eql, bin_neq, bin_add, bin_sub, bin_mul, un_not, str_eql, str_neq, app_push, app_stk, app_tk, app_lp, load_app, load_app0, load_fp, store_app, store_app0, leave_app, leave_app0, AM.ownPut, AM.cellsOf, AM.shift, aPick, fin_v, fin_sl, beq_true, okSz, List.length_cons, List.length_nil, Nat.zero_add, Nat.add_zero, Nat.reduceAdd, decide_true, decide_false, Bool.and_true, Bool.true_and, Bool.and_self, Bool.not_true, Bool.not_false, List.getElem?_cons_zero, List.getElem?_cons_succ, List.nil_append, List.cons_append, hpp_app, hpp_stk, hpp_tk, hpp_lp, hpp_hp, app_lpadd, hload, hload0, hloadh, hstore, hstore0, hleave, hleave0, hfin_v, hfin_sl, hback, hloop, hsetlp, max_int, min_int, hstore_v, hstore_v0, hstore_s, hstore_d, modify_concat, part1, hbackt, hbackl, hback0, List.take_succ_cons, List.take_left, List.take_zero, List.take_nil, len_31, sencs_length, hl] at hj ⊢
      rw [hj]
      cases ssames xs ys <;> simp [canon_v, canon_sl, canon_clo, canon_ptr, need_refl, elems_sl, sf_v, sf_sl, sf_ptr, sf_ptrh, sf_clo, sf_dead, sf_nil, sf_full, sf_fr, need_true, ibeq, beq_ba, nbeq, nble, nblt, AM.nth, List.getD_cons_succ, List.getD_cons_zero, Option.bind_some, Option.bind_none, Option.map_some, onBool, AM.onG, onFn, seqK, retK, Ex.outOf, cond_true, cond_false, bin_lss, bin_leq, bin_gtr, bin_geq, bin_eql, bin_neq, bin_add, bin_sub, bin_mul, un_not, str_eql, str_neq, app_push, app_stk, app_tk, app_lp, load_app, load_app0, load_fp, store_app, store_app0, leave_app, leave_app0, AM.ownPut, AM.cellsOf, AM.shift, aPick, fin_v, fin_sl, beq_true, okSz, List.length_cons, List.length_nil, Nat.zero_add, Nat.add_zero, Nat.reduceAdd, decide_true, decide_false, Bool.and_true, Bool.true_and, Bool.and_self, Bool.not_true, Bool.not_false, List.getElem?_cons_zero, List.getElem?_cons_succ, List.nil_append, List.cons_append, hpp_app, hpp_stk, hpp_tk, hpp_lp, hpp_hp, app_lpadd, hload, hload0, hloadh, hstore, hstore0, hleave, hleave0, hfin_v, hfin_sl, hback, hloop, hsetlp, max_int, min_int, hstore_v, hstore_v0, hstore_s, hstore_d, modify_concat, part1, hbackt, hbackl, hback0, List.take_succ_cons, List.take_left, List.take_zero, List.take_nil]
    · have : ¬ (xs.length : Int) = ys.length := by omega
      simp [S27, canon_v, canon_sl, canon_clo, canon_ptr, need_refl, elems_sl, sf_v, sf_sl, sf_ptr, sf_ptrh, sf_clo, sf_dead, sf_nil, sf_full, sf_fr, need_true, ibeq, beq_ba, nbeq, nble, nblt, AM.nth, List.getD_cons_succ, List.getD_cons_zero, Option.bind_some, Option.bind_none, Option.map_some, onBool, AM.onG, onFn, seqK, retK, Ex.outOf, cond_true, cond_false, bin_lss, bin_leq, bin_gtr, bin_geq, bin_eql, bin_neq, bin_add, bin_sub, bin_mul, un_not, str_eql, str_neq, app_push, app_stk, app_tk, app_lp, load_app, load_app0, load_fp, store_app, store_app0, leave_app, leave_app0, AM.ownPut, AM.cellsOf, AM.shift, aPick, fin_v, fin_sl, beq_true, okSz, List.length_cons, List.length_nil, Nat.zero_add, Nat.add_zero, Nat.reduceAdd, decide_true, decide_false, Bool.and_true, Bool.true_and, Bool.and_self, Bool.not_true, Bool.not_false, List.getElem?_cons_zero, List.getElem?_cons_succ, List.nil_append, List.cons_append, hpp_app, hpp_stk, hpp_tk, hpp_lp, hpp_hp, app_lpadd, hload, hload0, hloadh, hstore, hstore0, hleave, hleave0, hfin_v, hfin_sl, hback, hloop, hsetlp, max_int, min_int, hstore_v, hstore_v0, hstore_s, hstore_d, modify_concat, part1, hbackt, hbackl, hback0, List.take_succ_cons, List.take_left, List.take_zero, List.take_nil, len_31, sencs_length, this, ssames_len xs ys hl]
  obtain ⟨s, rfl⟩ : ∃ s : St, st = s.app [] [] [] := ⟨st, (app_nil st).symm⟩
  rw [S10_eq]
  simp [S10, canon_v, canon_sl, canon_clo, canon_ptr, need_refl, elems_sl, sf_v, sf_sl, sf_ptr, sf_ptrh, sf_clo, sf_dead, sf_nil, sf_full, sf_fr, need_true, ibeq, beq_ba, nbeq, nble, nblt, AM.nth, List.getD_cons_succ, List.getD_cons_zero, Option.bind_some, Option.bind_none, Option.map_some, onBool, AM.onG, onFn, seqK, retK, Ex.outOf, cond_true, cond_false, bin_lss, bin_leq, bin_gtr, bin_geq, bin_eql, bin_neq, bin_add, bin_sub, bin_mul, un_not, str_eql, str_neq, app_push, app_stk, app_tk, app_lp, load_app, load_app0, load_fp, store_app, store_app0, leave_app, leave_app0, AM.ownPut, AM.cellsOf, AM.shift, aPick, fin_v, fin_sl, beq_true, okSz, List.length_cons, List.length_nil, Nat.zero_add, Nat.add_zero, Nat.reduceAdd, decide_true, decide_false, Bool.and_true, Bool.true_and, Bool.and_self, Bool.not_true, Bool.not_false, List.getElem?_cons_zero, List.getElem?_cons_succ, List.nil_append, List.cons_append, hpp_app, hpp_stk, hpp_tk, hpp_lp, hpp_hp, app_lpadd, hload, hload0, hloadh, hstore, hstore0, hleave, hleave0, hfin_v, hfin_sl, hback, hloop, hsetlp, max_int, min_int, hstore_v, hstore_v0, hstore_s, hstore_d, modify_concat, part1, hbackt, hbackl, hback0, List.take_succ_cons, List.take_left, List.take_zero, List.take_nil, hk]

set_option maxHeartbeats 4000000 in
theorem ssame_ev : ∀ (n : Nat) (x : S), x.sz ≤ n → n ≤ 1000000 → ∀ (y : S) (st : St), E L (.func 18) [.agg x.enc, .agg y.enc] st = some (.v (.bool (x.same y)), st)
  | 0, x, h, _ => by rw [S.sz_eq] at h; omega
  | n + 1, x, h, hn => fun y st => by
    rw [S.sz_eq] at h
    have hb := seqf_ev x.body y.body (by have := sszs_len x.body; omega) fun z hz y st => ssame_ev n z (by have := sszs_mem hz; omega) (by omega) y st
    have hc := seqf_ev x.els y.els (by have := sszs_len x.els; omega) fun z hz y st => ssame_ev n z (by have := sszs_mem hz; omega) (by omega) y st
    have ha := exprs_ev x.args y.args (by omega)
    have he := same_ev x.e.sz x.e (Nat.le_refl _) (by omega) y.e
    have hp := pl_ev x.place y.place (by omega)
    have hr := rt_ev x.right y.right (by omega) (by omega)
    clear h hn
    obtain ⟨s, rfl⟩ : ∃ s : St, st = s.app [] [] [] := ⟨st, (app_nil st).symm⟩
    rw [S18_eq, S.same_eq]
    by_cases h0 : x.op = y.op
    case neg => simp [S18, canon_v, canon_sl, canon_clo, canon_ptr, need_refl, elems_sl, sf_v, sf_sl, sf_ptr, sf_ptrh, sf_clo, sf_dead, sf_nil, sf_full, sf_fr, need_true, ibeq, beq_ba, nbeq, nble, nblt, AM.nth, List.getD_cons_succ, List.getD_cons_zero, Option.bind_some, Option.bind_none, Option.map_some, onBool, AM.onG, onFn, seqK, retK, Ex.outOf, cond_true, cond_false, bin_lss, bin_leq, bin_gtr, bin_geq, bin_eql, bin_neq, bin_add, bin_sub, bin_mul, un_not, str_eql, str_neq, app_push, app_stk, app_tk, app_lp, load_app, load_app0, load_fp, store_app, store_app0, leave_app, leave_app0, AM.ownPut, AM.cellsOf, AM.shift, aPick, fin_v, fin_sl, beq_true, okSz, List.length_cons, List.length_nil, Nat.zero_add, Nat.add_zero, Nat.reduceAdd, decide_true, decide_false, Bool.and_true, Bool.true_and, Bool.and_self, Bool.not_true, Bool.not_false, List.getElem?_cons_zero, List.getElem?_cons_succ, List.nil_append, List.cons_append, hpp_app, hpp_stk, hpp_tk, hpp_lp, hpp_hp, app_lpadd, hload, hload0, hloadh, hstore, hstore0, hleave, hleave0, hfin_v, hfin_sl, hback, hloop, hsetlp, max_int, min_int, hstore_v, hstore_v0, hstore_s, hstore_d, modify_concat, part1, hbackt, hbackl, hback0, List.take_succ_cons, List.take_left, List.take_zero, List.take_nil, S.p0_1, S.p1_1, S.p2_27a, S.p29_14a, S.p43_9a, S.p52_1, S.p53_1, S.p54_1, S.p55_1, X.can, Pl.can, Rt.can, ha, hb, hc, he, hp, hr, h0]
    by_cases h1 : x.name = y.name
    case neg => simp [S18, canon_v, canon_sl, canon_clo, canon_ptr, need_refl, elems_sl, sf_v, sf_sl, sf_ptr, sf_ptrh, sf_clo, sf_dead, sf_nil, sf_full, sf_fr, need_true, ibeq, beq_ba, nbeq, nble, nblt, AM.nth, List.getD_cons_succ, List.getD_cons_zero, Option.bind_some, Option.bind_none, Option.map_some, onBool, AM.onG, onFn, seqK, retK, Ex.outOf, cond_true, cond_false, bin_lss, bin_leq, bin_gtr, bin_geq, bin_eql, bin_neq, bin_add, bin_sub, bin_mul, un_not, str_eql, str_neq, app_push, app_stk, app_tk, app_lp, load_app, load_app0, load_fp, store_app, store_app0, leave_app, leave_app0, AM.ownPut, AM.cellsOf, AM.shift, aPick, fin_v, fin_sl, beq_true, okSz, List.length_cons, List.length_nil, Nat.zero_add, Nat.add_zero, Nat.reduceAdd, decide_true, decide_false, Bool.and_true, Bool.true_and, Bool.and_self, Bool.not_true, Bool.not_false, List.getElem?_cons_zero, List.getElem?_cons_succ, List.nil_append, List.cons_append, hpp_app, hpp_stk, hpp_tk, hpp_lp, hpp_hp, app_lpadd, hload, hload0, hloadh, hstore, hstore0, hleave, hleave0, hfin_v, hfin_sl, hback, hloop, hsetlp, max_int, min_int, hstore_v, hstore_v0, hstore_s, hstore_d, modify_concat, part1, hbackt, hbackl, hback0, List.take_succ_cons, List.take_left, List.take_zero, List.take_nil, S.p0_1, S.p1_1, S.p2_27a, S.p29_14a, S.p43_9a, S.p52_1, S.p53_1, S.p54_1, S.p55_1, X.can, Pl.can, Rt.can, ha, hb, hc, he, hp, hr, h0, h1]
    by_cases h2 : x.n = y.n
    case neg => simp [S18, canon_v, canon_sl, canon_clo, canon_ptr, need_refl, elems_sl, sf_v, sf_sl, sf_ptr, sf_ptrh, sf_clo, sf_dead, sf_nil, sf_full, sf_fr, need_true, ibeq, beq_ba, nbeq, nble, nblt, AM.nth, List.getD_cons_succ, List.getD_cons_zero, Option.bind_some, Option.bind_none, Option.map_some, onBool, AM.onG, onFn, seqK, retK, Ex.outOf, cond_true, cond_false, bin_lss, bin_leq, bin_gtr, bin_geq, bin_eql, bin_neq, bin_add, bin_sub, bin_mul, un_not, str_eql, str_neq, app_push, app_stk, app_tk, app_lp, load_app, load_app0, load_fp, store_app, store_app0, leave_app, leave_app0, AM.ownPut, AM.cellsOf, AM.shift, aPick, fin_v, fin_sl, beq_true, okSz, List.length_cons, List.length_nil, Nat.zero_add, Nat.add_zero, Nat.reduceAdd, decide_true, decide_false, Bool.and_true, Bool.true_and, Bool.and_self, Bool.not_true, Bool.not_false, List.getElem?_cons_zero, List.getElem?_cons_succ, List.nil_append, List.cons_append, hpp_app, hpp_stk, hpp_tk, hpp_lp, hpp_hp, app_lpadd, hload, hload0, hloadh, hstore, hstore0, hleave, hleave0, hfin_v, hfin_sl, hback, hloop, hsetlp, max_int, min_int, hstore_v, hstore_v0, hstore_s, hstore_d, modify_concat, part1, hbackt, hbackl, hback0, List.take_succ_cons, List.take_left, List.take_zero, List.take_nil, S.p0_1, S.p1_1, S.p2_27a, S.p29_14a, S.p43_9a, S.p52_1, S.p53_1, S.p54_1, S.p55_1, X.can, Pl.can, Rt.can, ha, hb, hc, he, hp, hr, h0, h1, h2]
    by_cases h3 : x.right.same y.right = true
    case neg => simp [S18, canon_v, canon_sl, canon_clo, canon_ptr, need_refl, elems_sl, sf_v, sf_sl, sf_ptr, sf_ptrh, sf_clo, sf_dead, sf_nil, sf_full, sf_fr, need_true, ibeq, beq_ba, nbeq, nble, nblt, AM.nth, List.getD_cons_succ, List.getD_cons_zero, Option.bind_some, Option.bind_none, Option.map_some, onBool, AM.onG, onFn, seqK, retK, Ex.outOf, cond_true, cond_false, bin_lss, bin_leq, bin_gtr, bin_geq, bin_eql, bin_neq, bin_add, bin_sub, bin_mul, un_not, str_eql, str_neq, app_push, app_stk, app_tk, app_lp, load_app, load_app0, load_fp, store_app, store_app0, leave_app, leave_app0, AM.ownPut, AM.cellsOf, AM.shift, aPick, fin_v, fin_sl, beq_true, okSz, List.length_cons, List.length_nil, Nat.zero_add, Nat.add_zero, Nat.reduceAdd, decide_true, decide_false, Bool.and_true, Bool.true_and, Bool.and_self, Bool.not_true, Bool.not_false, List.getElem?_cons_zero, List.getElem?_cons_succ, List.nil_append, List.cons_append, hpp_app, hpp_stk, hpp_tk, hpp_lp, hpp_hp, app_lpadd, hload, hload0, hloadh, hstore, hstore0, hleave, hleave0, hfin_v, hfin_sl, hback, hloop, hsetlp, max_int, min_int, hstore_v, hstore_v0, hstore_s, hstore_d, modify_concat, part1, hbackt, hbackl, hback0, List.take_succ_cons, List.take_left, List.take_zero, List.take_nil, S.p0_1, S.p1_1, S.p2_27a, S.p29_14a, S.p43_9a, S.p52_1, S.p53_1, S.p54_1, S.p55_1, X.can, Pl.can, Rt.can, ha, hb, hc, he, hp, hr, h0, h1, h2, h3]
    by_cases h4 : x.place.same y.place = true
    case neg => simp [S18, canon_v, canon_sl, canon_clo, canon_ptr, need_refl, elems_sl, sf_v, sf_sl, sf_ptr, sf_ptrh, sf_clo, sf_dead, sf_nil, sf_full, sf_fr, need_true, ibeq, beq_ba, nbeq, nble, nblt, AM.nth, List.getD_cons_succ, List.getD_cons_zero, Option.bind_some, Option.bind_none, Option.map_some, onBool, AM.onG, onFn, seqK, retK, Ex.outOf, cond_true, cond_false, bin_lss, bin_leq, bin_gtr, bin_geq, bin_eql, bin_neq, bin_add, bin_sub, bin_mul, un_not, str_eql, str_neq, app_push, app_stk, app_tk, app_lp, load_app, load_app0, load_fp, store_app, store_app0, leave_app, leave_app0, AM.ownPut, AM.cellsOf, AM.shift, aPick, fin_v, fin_sl, beq_true, okSz, List.length_cons, List.length_nil, Nat.zero_add, Nat.add_zero, Nat.reduceAdd, decide_true, decide_false, Bool.and_true, Bool.true_and, Bool.and_self, Bool.not_true, Bool.not_false, List.getElem?_cons_zero, List.getElem?_cons_succ, List.nil_append, List.cons_append, hpp_app, hpp_stk, hpp_tk, hpp_lp, hpp_hp, app_lpadd, hload, hload0, hloadh, hstore, hstore0, hleave, hleave0, hfin_v, hfin_sl, hback, hloop, hsetlp, max_int, min_int, hstore_v, hstore_v0, hstore_s, hstore_d, modify_concat, part1, hbackt, hbackl, hback0, List.take_succ_cons, List.take_left, List.take_zero, List.take_nil, S.p0_1, S.p1_1, S.p2_27a, S.p29_14a, S.p43_9a, S.p52_1, S.p53_1, S.p54_1, S.p55_1, X.can, Pl.can, Rt.can, ha, hb, hc, he, hp, hr, h0, h1, h2, h3, h4]
    by_cases h5 : x.e.same y.e = true
    case neg => simp [S18, canon_v, canon_sl, canon_clo, canon_ptr, need_refl, elems_sl, sf_v, sf_sl, sf_ptr, sf_ptrh, sf_clo, sf_dead, sf_nil, sf_full, sf_fr, need_true, ibeq, beq_ba, nbeq, nble, nblt, AM.nth, List.getD_cons_succ, List.getD_cons_zero, Option.bind_some, Option.bind_none, Option.map_some, onBool, AM.onG, onFn, seqK, retK, Ex.outOf, cond_true, cond_false, bin_lss, bin_leq, bin_gtr, bin_geq, bin_eql, bin_neq, bin_add, bin_sub, bin_mul, un_not, str_eql, str_neq, app_push, app_stk, app_tk, app_lp, load_app, load_app0, load_fp, store_app, store_app0, leave_app, leave_app0, AM.ownPut, AM.cellsOf, AM.shift, aPick, fin_v, fin_sl, beq_true, okSz, List.length_cons, List.length_nil, Nat.zero_add, Nat.add_zero, Nat.reduceAdd, decide_true, decide_false, Bool.and_true, Bool.true_and, Bool.and_self, Bool.not_true, Bool.not_false, List.getElem?_cons_zero, List.getElem?_cons_succ, List.nil_append, List.cons_append, hpp_app, hpp_stk, hpp_tk, hpp_lp, hpp_hp, app_lpadd, hload, hload0, hloadh, hstore, hstore0, hleave, hleave0, hfin_v, hfin_sl, hback, hloop, hsetlp, max_int, min_int, hstore_v, hstore_v0, hstore_s, hstore_d, modify_concat, part1, hbackt, hbackl, hback0, List.take_succ_cons, List.take_left, List.take_zero, List.take_nil, S.p0_1, S.p1_1, S.p2_27a, S.p29_14a, S.p43_9a, S.p52_1, S.p53_1, S.p54_1, S.p55_1, X.can, Pl.can, Rt.can, ha, hb, hc, he, hp, hr, h0, h1, h2, h3, h4, h5]
    by_cases h6 : sames x.args y.args = true
    case neg => simp [S18, canon_v, canon_sl, canon_clo, canon_ptr, need_refl, elems_sl, sf_v, sf_sl, sf_ptr, sf_ptrh, sf_clo, sf_dead, sf_nil, sf_full, sf_fr, need_true, ibeq, beq_ba, nbeq, nble, nblt, AM.nth, List.getD_cons_succ, List.getD_cons_zero, Option.bind_some, Option.bind_none, Option.map_some, onBool, AM.onG, onFn, seqK, retK, Ex.outOf, cond_true, cond_false, bin_lss, bin_leq, bin_gtr, bin_geq, bin_eql, bin_neq, bin_add, bin_sub, bin_mul, un_not, str_eql, str_neq, app_push, app_stk, app_tk, app_lp, load_app, load_app0, load_fp, store_app, store_app0, leave_app, leave_app0, AM.ownPut, AM.cellsOf, AM.shift, aPick, fin_v, fin_sl, beq_true, okSz, List.length_cons, List.length_nil, Nat.zero_add, Nat.add_zero, Nat.reduceAdd, decide_true, decide_false, Bool.and_true, Bool.true_and, Bool.and_self, Bool.not_true, Bool.not_false, List.getElem?_cons_zero, List.getElem?_cons_succ, List.nil_append, List.cons_append, hpp_app, hpp_stk, hpp_tk, hpp_lp, hpp_hp, app_lpadd, hload, hload0, hloadh, hstore, hstore0, hleave, hleave0, hfin_v, hfin_sl, hback, hloop, hsetlp, max_int, min_int, hstore_v, hstore_v0, hstore_s, hstore_d, modify_concat, part1, hbackt, hbackl, hback0, List.take_succ_cons, List.take_left, List.take_zero, List.take_nil, S.p0_1, S.p1_1, S.p2_27a, S.p29_14a, S.p43_9a, S.p52_1, S.p53_1, S.p54_1, S.p55_1, X.can, Pl.can, Rt.can, ha, hb, hc, he, hp, hr, h0, h1, h2, h3, h4, h5, h6]
    by_cases h7 : ssames x.body y.body = true
    case neg => simp [S18, canon_v, canon_sl, canon_clo, canon_ptr, need_refl, elems_sl, sf_v, sf_sl, sf_ptr, sf_ptrh, sf_clo, sf_dead, sf_nil, sf_full, sf_fr, need_true, ibeq, beq_ba, nbeq, nble, nblt, AM.nth, List.getD_cons_succ, List.getD_cons_zero, Option.bind_some, Option.bind_none, Option.map_some, onBool, AM.onG, onFn, seqK, retK, Ex.outOf, cond_true, cond_false, bin_lss, bin_leq, bin_gtr, bin_geq, bin_eql, bin_neq, bin_add, bin_sub, bin_mul, un_not, str_eql, str_neq, app_push, app_stk, app_tk, app_lp, load_app, load_app0, load_fp, store_app, store_app0, leave_app, leave_app0, AM.ownPut, AM.cellsOf, AM.shift, aPick, fin_v, fin_sl, beq_true, okSz, List.length_cons, List.length_nil, Nat.zero_add, Nat.add_zero, Nat.reduceAdd, decide_true, decide_false, Bool.and_true, Bool.true_and, Bool.and_self, Bool.not_true, Bool.not_false, List.getElem?_cons_zero, List.getElem?_cons_succ, List.nil_append, List.cons_append, hpp_app, hpp_stk, hpp_tk, hpp_lp, hpp_hp, app_lpadd, hload, hload0, hloadh, hstore, hstore0, hleave, hleave0, hfin_v, hfin_sl, hback, hloop, hsetlp, max_int, min_int, hstore_v, hstore_v0, hstore_s, hstore_d, modify_concat, part1, hbackt, hbackl, hback0, List.take_succ_cons, List.take_left, List.take_zero, List.take_nil, S.p0_1, S.p1_1, S.p2_27a, S.p29_14a, S.p43_9a, S.p52_1, S.p53_1, S.p54_1, S.p55_1, X.can, Pl.can, Rt.can, ha, hb, hc, he, hp, hr, h0, h1, h2, h3, h4, h5, h6, h7]
    simp [S18, canon_v, canon_sl, canon_clo, canon_ptr, need_refl, elems_sl, sf_v, sf_sl, sf_ptr, sf_ptrh, sf_clo, sf_dead, sf_nil, sf_full, sf_fr, need_true, ibeq, beq_ba, nbeq, nble, nblt, AM.nth, List.getD_cons_succ, List.getD_cons_zero, Option.bind_some, Option.bind_none, Option.map_some, onBool, AM.onG, onFn, seqK, retK, Ex.outOf, cond_true, cond_false, bin_lss, bin_leq, bin_gtr, bin_geq, bin_eql, bin_neq, bin_add, bin_sub, bin_mul, un_not, str_eql, str_neq, app_push, app_stk, app_tk, app_lp, load_app, load_app0, load_fp, store_app, store_app0, leave_app, leave_app0, AM.ownPut, AM.cellsOf, AM.shift, aPick, fin_v, fin_sl, beq_true, okSz, List.length_cons, List.length_nil, Nat.zero_add, Nat.add_zero, Nat.reduceAdd, decide_true, decide_false, Bool.and_true, Bool.true_and, Bool.and_self, Bool.not_true, Bool.not_false, List.getElem?_cons_zero, List.getElem?_cons_succ, List.nil_append, List.cons_append, hpp_app, hpp_stk, hpp_tk, hpp_lp, hpp_hp, app_lpadd, hload, hload0, hloadh, hstore, hstore0, hleave, hleave0, hfin_v, hfin_sl, hback, hloop, hsetlp, max_int, min_int, hstore_v, hstore_v0, hstore_s, hstore_d, modify_concat, part1, hbackt, hbackl, hback0, List.take_succ_cons, List.take_left, List.take_zero, List.take_nil, S.p0_1, S.p1_1, S.p2_27a, S.p29_14a, S.p43_9a, S.p52_1, S.p53_1, S.p54_1, S.p55_1, X.can, Pl.can, Rt.can, ha, hb, hc, he, hp, hr, h0, h1, h2, h3, h4, h5, h6, h7]
theorem stmts_ev (xs ys : List S) (h : sszs xs ≤ 1000000) (st : St) : E L (.func 10) [.sl (sencs xs) .dead, .sl (sencs ys) .dead] st = some (.v (.bool (ssames xs ys)), st) :=
  seqf_ev xs ys (by have := sszs_len xs; omega) (fun z hz y st => ssame_ev z.sz z (Nat.le_refl _) (by have := sszs_mem hz; omega) y st) st
end Go.Proofs.Ytkbhejcfejembaa.S

/- Trees: the reference's texts. No condition. -/
namespace Go.Proofs.Ytkbhejcfejembaa.S
open Go Go.AM Go.Proofs
set_option linter.unusedVariables false
set_option linter.unusedSimpArgs false

theorem shr_u64 (P : Program) (c : Bool) (t : TypeId) (a b : Int) (h : 0 ≤ b) (h2 : b ≤ 64) : aBin P c .shr t (.v (.int .u64 a)) (.v (.int .u64 b)) = some (.v (.int .u64 (a.fdiv (2 ^ b.toNat)))) := by
  show flatRes (pureIn P (Op.shift .shr .u64 a .u64 b)) = _
  have : ¬ b < 0 := by omega
  have h3 : min b.toNat IntKind.u64.bits = b.toNat := by simp [IntKind.bits]; omega
  simp only [Op.shift, this, if_false, h3]
  exact flat_pure P _ rfl
def by8 (n : Int) (i : Nat) : UInt8 := UInt8.ofNat (IntKind.u8.wrap ((IntKind.u64.wrap n).fdiv (2 ^ i))).toNat
def numT (n : Int) : ByteArray := ⟨#[UInt8.ofNat (IntKind.u8.wrap (IntKind.u64.wrap n)).toNat, by8 n 8, by8 n 16, by8 n 24, by8 n 32, by8 n 40, by8 n 48, by8 n 56]⟩
theorem text_ev (n : Int) (st : St) : E L (.func 37) [int n] st = some (str (numT n), st) := by
  obtain ⟨s, rfl⟩ : ∃ s : St, st = s.app [] [] [] := ⟨st, (app_nil st).symm⟩
  rw [S37_eq]
  simp [canon_v, canon_sl, canon_clo, canon_ptr, need_refl, elems_sl, sf_v, sf_sl, sf_ptr, sf_ptrh, sf_clo, sf_dead, sf_nil, sf_full, sf_fr, need_true, ibeq, beq_ba, nbeq, nble, nblt, AM.nth, List.getD_cons_succ, List.getD_cons_zero, Option.bind_some, Option.bind_none, Option.map_some, onBool, AM.onG, onFn, seqK, retK, Ex.outOf, cond_true, cond_false, bin_lss, bin_leq, bin_gtr, bin_geq, bin_eql, bin_neq, bin_add, bin_sub, bin_mul, un_not, str_eql, str_neq, app_push, app_stk, app_tk, app_lp, load_app, load_app0, load_fp, store_app, store_app0, leave_app, leave_app0, AM.ownPut, AM.cellsOf, AM.shift, aPick, fin_v, fin_sl, beq_true, okSz, List.length_cons, List.length_nil, Nat.zero_add, Nat.add_zero, Nat.reduceAdd, decide_true, decide_false, Bool.and_true, Bool.true_and, Bool.and_self, Bool.not_true, Bool.not_false, List.getElem?_cons_zero, List.getElem?_cons_succ, List.nil_append, List.cons_append, hpp_app, hpp_stk, hpp_tk, hpp_lp, hpp_hp, app_lpadd, hload, hload0, hloadh, hstore, hstore0, hleave, hleave0, hfin_v, hfin_sl, hback, hloop, hsetlp, max_int, min_int, hstore_v, hstore_v0, hstore_s, hstore_d, modify_concat, part1, hbackt, hbackl, hback0, List.take_succ_cons, List.take_left, List.take_zero, List.take_nil, S37, conv_3_38, conv_38_5, shr_u64, rBuildSlice, rLit, fillP, reps, cellsOf, laid, plainCs, plainC, chunks, conv_103_9, bytesOf, AM.byteOfCell]
  rfl

def strs (l : List ByteArray) : List (List PV) := l.map fun b => [str b]
theorem strs_len (l : List ByteArray) : (strs l).length = l.length := List.length_map ..
theorem strs_ok (l : List ByteArray) : okSz 1 (strs l) = true := okSz_map (fun b => [str b]) (fun _ => rfl) l
theorem strs_app (l m : List ByteArray) : strs l ++ strs m = strs (l ++ m) := (List.map_append ..).symm
def w64 (n : Int) : Int := IntKind.i64.wrap n
mutual
def X.text : X → List ByteArray
  | ⟨op, bin, n, kd, rc, name, ks, _, _⟩ => [⟨#[101, 120, 112, 114]⟩, numT op, numT bin, numT (w64 n), numT kd, rc, name, numT ks.length] ++ xtexts ks
def xtexts : List X → List ByteArray
  | [] => []
  | x :: xs => x.text ++ xtexts xs
end
theorem X.text_eq (x : X) : x.text = [⟨#[101, 120, 112, 114]⟩, numT x.op, numT x.bin, numT (w64 x.n), numT x.kd, x.rc, x.name, numT x.kids.length] ++ xtexts x.kids := by
  cases x; simp only [X.text]; rfl
mutual
theorem X.text_len : ∀ x : X, x.text.length = 8 * x.sz
  | ⟨op, bin, n, kd, rc, name, ks, _, _⟩ => by
    have := xtexts_len ks
    simp [X.text, X.sz, this]; omega
theorem xtexts_len : ∀ xs : List X, (xtexts xs).length = 8 * szs xs
  | [] => by simp [xtexts, szs]
  | x :: xs => by
    have := xtexts_len xs
    have := X.text_len x
    simp [xtexts, szs, *]; omega
end

theorem szs_app : ∀ xs ys : List X, szs (xs ++ ys) = szs xs + szs ys
  | [], ys => by simp [szs]
  | x :: xs, ys => by simp [szs, szs_app xs ys]; omega
theorem expr_loop (s : St) (b : Blk) (xs0 : List X) (hb : szs xs0 ≤ 1000000) (hbk : b.cs.all (sf true (s.stk.length + 1) 4) = true) : ∀ (xs p : List X) (acc : List ByteArray) (c : Cap) (tk : List (Nat × Nat)), xs0 = p ++ xs → acc.length = 8 + 8 * szs p → Own s tk c (strs acc).length 1 →
    (∀ x ∈ xs, ∀ (st : St), E L (.func 17) [.agg x.enc] st = some (.sl (strs x.text) .dead, st)) →
    ∃ vs c' tk', itE (S17.b0 (E L) itE s.stk.length s.lp.length) [.sl (strs acc) c, .sl (encs xs0) .dead, int xs0.length, int p.length] (s.app [b] tk []) =
      some (.exit 0, .sl (strs (acc ++ xtexts xs)) c' :: vs, s.app [b] tk' [])
  | [], p, acc, c, tk, hx, ha, ho, hf => by
    have e : xs0.length = p.length := by rw [hx]; simp
    refine ⟨[.sl (encs xs0) .dead, int xs0.length, int p.length], c, tk, ?_⟩
    rw [itE_eq]
    simp [S17.b0, canon_v, canon_sl, canon_clo, canon_ptr, need_refl, elems_sl, sf_v, sf_sl, sf_ptr, sf_ptrh, sf_clo, sf_dead, sf_nil, sf_full, sf_fr, need_true, ibeq, beq_ba, nbeq, nble, nblt, AM.nth, List.getD_cons_succ, List.getD_cons_zero, Option.bind_some, Option.bind_none, Option.map_some, onBool, AM.onG, onFn, seqK, retK, Ex.outOf, cond_true, cond_false, bin_lss, bin_leq, bin_gtr, bin_geq, bin_eql, bin_neq, bin_add, bin_sub, bin_mul, un_not, str_eql, str_neq, app_push, app_stk, app_tk, app_lp, load_app, load_app0, load_fp, store_app, store_app0, leave_app, leave_app0, AM.ownPut, AM.cellsOf, AM.shift, aPick, fin_v, fin_sl, beq_true, okSz, List.length_cons, List.length_nil, Nat.zero_add, Nat.add_zero, Nat.reduceAdd, decide_true, decide_false, Bool.and_true, Bool.true_and, Bool.and_self, Bool.not_true, Bool.not_false, List.getElem?_cons_zero, List.getElem?_cons_succ, List.nil_append, List.cons_append, hpp_app, hpp_stk, hpp_tk, hpp_lp, hpp_hp, app_lpadd, hload, hload0, hloadh, hstore, hstore0, hleave, hleave0, hfin_v, hfin_sl, hback, hloop, hsetlp, max_int, min_int, hstore_v, hstore_v0, hstore_s, hstore_d, modify_concat, part1, hbackt, hbackl, hback0, List.take_succ_cons, List.take_left, List.take_zero, List.take_nil, e, xtexts, ho.sfc, hbk]
  | x :: xs, p, acc, c, tk, hx, ha, ho, hf => by
    have hlt : (p.length : Int) < (xs0.length : Int) := by rw [hx]; simp; omega
    have g1 : (encs xs0)[p.length]? = some x.enc := by rw [hx]; exact encs_get p x xs
    have r1 : inRange (p.length : Int) (encs xs0).length = true := by rw [encs_length, hx]; exact inR p x xs
    have hl0 := szs_len xs0
    have hs0 : szs xs0 = szs p + (x.sz + szs xs) := by rw [hx, szs_app]; rfl
    have hpl : p.length < xs0.length := by rw [hx]; simp
    have w1 : IntKind.i64.wrap ((p.length : Int) + 1) = (p.length : Int) + 1 := IntWalk.i64_in _ (by omega)
    have hc := hf x List.mem_cons_self
    have hxl := X.text_len x
    obtain ⟨c1, tk1, e1, o1⟩ := app_own (ys := strs x.text) (bytes := 16) ho (by simp only [strs_len, maxLenB]; omega) (strs_ok _) (strs_ok _) (by decide) (by decide)
    rw [strs_app] at e1 o1
    obtain ⟨vs, c2, tk2, h2⟩ := expr_loop s b xs0 hb hbk xs (p ++ [x]) (acc ++ x.text) c1 tk1 (by simp [hx]) (by rw [szs_app, List.length_append]; simp [szs]; omega) o1 fun z hz => hf z (List.mem_cons_of_mem _ hz)
    refine ⟨vs, c2, tk2, ?_⟩
    rw [show xtexts (x :: xs) = x.text ++ xtexts xs from rfl, ← List.append_assoc, ← h2]
    refine it_step ?_
    simp [S17.b0, canon_v, canon_sl, canon_clo, canon_ptr, need_refl, elems_sl, sf_v, sf_sl, sf_ptr, sf_ptrh, sf_clo, sf_dead, sf_nil, sf_full, sf_fr, need_true, ibeq, beq_ba, nbeq, nble, nblt, AM.nth, List.getD_cons_succ, List.getD_cons_zero, Option.bind_some, Option.bind_none, Option.map_some, onBool, AM.onG, onFn, seqK, retK, Ex.outOf, cond_true, cond_false, bin_lss, bin_leq, bin_gtr, bin_geq, bin_eql, bin_neq, bin_add, bin_sub, bin_mul, un_not, str_eql, str_neq, app_push, app_stk, app_tk, app_lp, load_app, load_app0, load_fp, store_app, store_app0, leave_app, leave_app0, AM.ownPut, AM.cellsOf, AM.shift, aPick, fin_v, fin_sl, beq_true, okSz, List.length_cons, List.length_nil, Nat.zero_add, Nat.add_zero, Nat.reduceAdd, decide_true, decide_false, Bool.and_true, Bool.true_and, Bool.and_self, Bool.not_true, Bool.not_false, List.getElem?_cons_zero, List.getElem?_cons_succ, List.nil_append, List.cons_append, hpp_app, hpp_stk, hpp_tk, hpp_lp, hpp_hp, app_lpadd, hload, hload0, hloadh, hstore, hstore0, hleave, hleave0, hfin_v, hfin_sl, hback, hloop, hsetlp, max_int, min_int, hstore_v, hstore_v0, hstore_s, hstore_d, modify_concat, part1, hbackt, hbackl, hback0, List.take_succ_cons, List.take_left, List.take_zero, List.take_nil, hlt, ia_41, r1, g1, X.len, X.whole, X.okc, X.can, laid0, hc, e1, w1, o1.sfc, hbk]

theorem expr_ev : ∀ (n : Nat) (x : X), x.sz ≤ n → n ≤ 1000000 → ∀ st : St, E L (.func 17) [.agg x.enc] st = some (.sl (strs x.text) .dead, st)
  | 0, x, h, _ => by rw [X.sz_eq] at h; omega
  | n + 1, x, h, hn => fun st => by
    rw [X.sz_eq] at h
    obtain ⟨s, rfl⟩ : ∃ s : St, st = s.app [] [] [] := ⟨st, (app_nil st).symm⟩
    obtain ⟨vs, c', tk', hl⟩ := expr_loop s ⟨x.enc, []⟩ x.kids (by omega) (X.sf4 ..) x.kids [] [⟨#[101, 120, 112, 114]⟩, numT x.op, numT x.bin, numT (w64 x.n), numT x.kd, x.rc, x.name, numT x.kids.length] .full [] rfl rfl (Own.full ..)
      fun z hz st => expr_ev n z (by have := szs_mem hz; omega) (by omega) st
    rw [S17_eq]
    simp [S17, canon_v, canon_sl, canon_clo, canon_ptr, need_refl, elems_sl, sf_v, sf_sl, sf_ptr, sf_ptrh, sf_clo, sf_dead, sf_nil, sf_full, sf_fr, need_true, ibeq, beq_ba, nbeq, nble, nblt, AM.nth, List.getD_cons_succ, List.getD_cons_zero, Option.bind_some, Option.bind_none, Option.map_some, onBool, AM.onG, onFn, seqK, retK, Ex.outOf, cond_true, cond_false, bin_lss, bin_leq, bin_gtr, bin_geq, bin_eql, bin_neq, bin_add, bin_sub, bin_mul, un_not, str_eql, str_neq, app_push, app_stk, app_tk, app_lp, load_app, load_app0, load_fp, store_app, store_app0, leave_app, leave_app0, AM.ownPut, AM.cellsOf, AM.shift, aPick, fin_v, fin_sl, beq_true, okSz, List.length_cons, List.length_nil, Nat.zero_add, Nat.add_zero, Nat.reduceAdd, decide_true, decide_false, Bool.and_true, Bool.true_and, Bool.and_self, Bool.not_true, Bool.not_false, List.getElem?_cons_zero, List.getElem?_cons_succ, List.nil_append, List.cons_append, hpp_app, hpp_stk, hpp_tk, hpp_lp, hpp_hp, app_lpadd, hload, hload0, hloadh, hstore, hstore0, hleave, hleave0, hfin_v, hfin_sl, hback, hloop, hsetlp, max_int, min_int, hstore_v, hstore_v0, hstore_s, hstore_d, modify_concat, part1, hbackt, hbackl, hback0, List.take_succ_cons, List.take_left, List.take_zero, List.take_nil, X.p0_1, X.p1_1, X.p2_1, X.p3_1, X.p4_1, X.p5_1, X.p6_1, text_ev, conv_38_3, len_41, encs_length, rBuildSlice, rLit, fillP, reps, laid, plainCs, plainC, chunks]
    simp [strs, w64] at hl
    rw [hl]
    simp [canon_v, canon_sl, canon_clo, canon_ptr, need_refl, elems_sl, sf_v, sf_sl, sf_ptr, sf_ptrh, sf_clo, sf_dead, sf_nil, sf_full, sf_fr, need_true, ibeq, beq_ba, nbeq, nble, nblt, AM.nth, List.getD_cons_succ, List.getD_cons_zero, Option.bind_some, Option.bind_none, Option.map_some, onBool, AM.onG, onFn, seqK, retK, Ex.outOf, cond_true, cond_false, bin_lss, bin_leq, bin_gtr, bin_geq, bin_eql, bin_neq, bin_add, bin_sub, bin_mul, un_not, str_eql, str_neq, app_push, app_stk, app_tk, app_lp, load_app, load_app0, load_fp, store_app, store_app0, leave_app, leave_app0, AM.ownPut, AM.cellsOf, AM.shift, aPick, fin_v, fin_sl, beq_true, okSz, List.length_cons, List.length_nil, Nat.zero_add, Nat.add_zero, Nat.reduceAdd, decide_true, decide_false, Bool.and_true, Bool.true_and, Bool.and_self, Bool.not_true, Bool.not_false, List.getElem?_cons_zero, List.getElem?_cons_succ, List.nil_append, List.cons_append, hpp_app, hpp_stk, hpp_tk, hpp_lp, hpp_hp, app_lpadd, hload, hload0, hloadh, hstore, hstore0, hleave, hleave0, hfin_v, hfin_sl, hback, hloop, hsetlp, max_int, min_int, hstore_v, hstore_v0, hstore_s, hstore_d, modify_concat, part1, hbackt, hbackl, hback0, List.take_succ_cons, List.take_left, List.take_zero, List.take_nil, X.text_eq, strs, w64]
end Go.Proofs.Ytkbhejcfejembaa.S
