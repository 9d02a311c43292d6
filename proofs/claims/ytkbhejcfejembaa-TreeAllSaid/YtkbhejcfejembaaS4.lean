/- The seat's functions, each as a Lean function over plain values, and that the evaluator comes to it: written by my program mkS.py. No condition. -/
import Derived.Test.YtkbhejcfejembaaS0
import Derived.KernelRfl
set_option linter.all false
namespace Go.Proofs.Ytkbhejcfejembaa.S
open Go Go.AM Go.Proofs
set_option linter.unusedVariables false
noncomputable def S4.b1 (call : CallF) (it : LoopF) (base lb : Nat) (vs72 : List PV) (st73 : St) : Option (Ex × List PV × St) :=
(aBin Try.prog false .lss 3 (nth vs72 9) (nth vs72 8)).bind fun p74 =>
onBool p74 fun b75 => (bif b75 then
some (Ex.normal, [(nth vs72 0), (nth vs72 1), (nth vs72 2), (nth vs72 3), (nth vs72 4), (nth vs72 5), (nth vs72 6), (nth vs72 7), (nth vs72 8), (nth vs72 9)], st73)
else
some ((Ex.exit 2), [(nth vs72 0), (nth vs72 1), (nth vs72 2), (nth vs72 3), (nth vs72 4), (nth vs72 5), (nth vs72 6), (nth vs72 7), (nth vs72 8), (nth vs72 9)], st73)).bind fun r76 =>
seqK r76.1 ((aIndexAddr Try.prog 27 (nth r76.2.1 7) (nth r76.2.1 9)).bind fun p78 =>
(aLoad true 3 p78 r76.2.2).bind fun p79 =>
let q81 : PV := .ptr false r76.2.2.stk.length 0
let st80 := r76.2.2.push [.sl [] .nil, .v (.int .i64 0), .v (.int .i64 0)]
(aStore base 3 q81 p79 st80).bind fun st82 =>
(shift (nth r76.2.1 3) 0).bind fun p83 =>
(aLoad false 1 p83 st82).bind fun p84 =>
need (st82 = st82) <|
(shift q81 0).bind fun p85 =>
(aLoad false 1 p85 st82).bind fun p86 =>
need (st82 = st82) <|
(call (.func 10) [canon p84, canon p86] st82).bind fun r87 =>
need (r87.2 = st82) <|
(shift (nth r76.2.1 3) 0).bind fun p88 =>
(aLoad false 1 p88 st82).bind fun p89 =>
need (st82 = st82) <|
(call (.func 15) [canon p89] st82).bind fun r90 =>
need (r90.2 = st82) <|
(shift q81 0).bind fun p91 =>
(aLoad false 1 p91 st82).bind fun p92 =>
need (st82 = st82) <|
(call (.func 15) [canon p92] st82).bind fun r93 =>
need (r93.2 = st82) <|
(call (.func 13) [canon r90.1, canon r93.1] st82).bind fun r94 =>
need (r94.2 = st82) <|
(aBin Try.prog false .neq 4 r87.1 r94.1).bind fun p95 =>
onBool p95 fun b96 => (bif b96 then
some (Ex.ret, [(PV.v (.bool false)), (nth r76.2.1 1), (nth r76.2.1 2), (nth r76.2.1 3), (nth r76.2.1 9), q81, (nth r76.2.1 4), (nth r76.2.1 5), (nth r76.2.1 6), (nth r76.2.1 7), (nth r76.2.1 8), (nth r76.2.1 9)], st82)
else
some (Ex.normal, [(nth r76.2.1 0), (nth r76.2.1 1), (nth r76.2.1 2), (nth r76.2.1 3), (nth r76.2.1 9), q81, (nth r76.2.1 4), (nth r76.2.1 5), (nth r76.2.1 6), (nth r76.2.1 7), (nth r76.2.1 8), (nth r76.2.1 9)], st82)).bind fun r97 =>
seqK r97.1 ((shift (nth r97.2.1 3) 0).bind fun p99 =>
(aLoad false 1 p99 r97.2.2).bind fun p100 =>
need (r97.2.2 = r97.2.2) <|
(aLen Try.prog 31 p100).bind fun p101 =>
(aBin Try.prog true .gtr 3 p101 (PV.v (.int .i64 0))).bind fun p102 =>
(onG p102 true (
(shift (nth r97.2.1 5) 0).bind fun p105 =>
some (p105, r97.2.2)) r97.2.2).bind fun r104 =>
(onG p102 true (
(aLoad false 1 r104.1 r97.2.2).bind fun p108 =>
some (p108, r97.2.2)) r97.2.2).bind fun r107 =>
need (r107.2 = r97.2.2) <|
(onG p102 true (
(aLen Try.prog 31 r107.1).bind fun p111 =>
some (p111, r97.2.2)) r97.2.2).bind fun r110 =>
(onG p102 true (
(aBin Try.prog true .gtr 3 r110.1 (PV.v (.int .i64 0))).bind fun p114 =>
some (p114, r97.2.2)) r97.2.2).bind fun r113 =>
(aPick p102 r113.1 (PV.v (.bool false))).bind fun p115 =>
(onG p115 true (
(shift (nth r97.2.1 3) 0).bind fun p118 =>
some (p118, r97.2.2)) r97.2.2).bind fun r117 =>
(onG p115 true (
(aLoad false 1 r117.1 r97.2.2).bind fun p121 =>
some (p121, r97.2.2)) r97.2.2).bind fun r120 =>
need (r120.2 = r97.2.2) <|
(onG p115 true (
(aIndexAddr Try.prog 31 r120.1 (PV.v (.int .i64 0))).bind fun p124 =>
some (p124, r97.2.2)) r97.2.2).bind fun r123 =>
(onG p115 true (
(shift r123.1 43).bind fun p127 =>
some (p127, r97.2.2)) r97.2.2).bind fun r126 =>
(onG p115 true (
(aLoad true 9 r126.1 r97.2.2).bind fun p130 =>
some (p130, r97.2.2)) r97.2.2).bind fun r129 =>
need (r129.2 = r97.2.2) <|
(onG p115 true (
(shift (nth r97.2.1 5) 0).bind fun p133 =>
some (p133, r97.2.2)) r97.2.2).bind fun r132 =>
(onG p115 true (
(aLoad false 1 r132.1 r97.2.2).bind fun p136 =>
some (p136, r97.2.2)) r97.2.2).bind fun r135 =>
need (r135.2 = r97.2.2) <|
(onG p115 true (
(aIndexAddr Try.prog 31 r135.1 (PV.v (.int .i64 0))).bind fun p139 =>
some (p139, r97.2.2)) r97.2.2).bind fun r138 =>
(onG p115 true (
(shift r138.1 43).bind fun p142 =>
some (p142, r97.2.2)) r97.2.2).bind fun r141 =>
(onG p115 true (
(aLoad true 9 r141.1 r97.2.2).bind fun p145 =>
some (p145, r97.2.2)) r97.2.2).bind fun r144 =>
need (r144.2 = r97.2.2) <|
(onG p115 true (
(call (.func 16) [canon r129.1, canon r144.1] r97.2.2).bind fun r148 =>
some (r148.1, r148.2)) r97.2.2).bind fun r147 =>
need (r147.2 = r97.2.2) <|
(onG p115 true (
(shift (nth r97.2.1 3) 0).bind fun p151 =>
some (p151, r97.2.2)) r97.2.2).bind fun r150 =>
(onG p115 true (
(aLoad false 1 r150.1 r97.2.2).bind fun p154 =>
some (p154, r97.2.2)) r97.2.2).bind fun r153 =>
need (r153.2 = r97.2.2) <|
(onG p115 true (
(aIndexAddr Try.prog 31 r153.1 (PV.v (.int .i64 0))).bind fun p157 =>
some (p157, r97.2.2)) r97.2.2).bind fun r156 =>
(onG p115 true (
(shift r156.1 43).bind fun p160 =>
some (p160, r97.2.2)) r97.2.2).bind fun r159 =>
(onG p115 true (
(aLoad true 9 r159.1 r97.2.2).bind fun p163 =>
some (p163, r97.2.2)) r97.2.2).bind fun r162 =>
need (r162.2 = r97.2.2) <|
(onG p115 true (
(call (.func 17) [canon r162.1] r97.2.2).bind fun r166 =>
some (r166.1, r166.2)) r97.2.2).bind fun r165 =>
need (r165.2 = r97.2.2) <|
(onG p115 true (
(shift (nth r97.2.1 5) 0).bind fun p169 =>
some (p169, r97.2.2)) r97.2.2).bind fun r168 =>
(onG p115 true (
(aLoad false 1 r168.1 r97.2.2).bind fun p172 =>
some (p172, r97.2.2)) r97.2.2).bind fun r171 =>
need (r171.2 = r97.2.2) <|
(onG p115 true (
(aIndexAddr Try.prog 31 r171.1 (PV.v (.int .i64 0))).bind fun p175 =>
some (p175, r97.2.2)) r97.2.2).bind fun r174 =>
(onG p115 true (
(shift r174.1 43).bind fun p178 =>
some (p178, r97.2.2)) r97.2.2).bind fun r177 =>
(onG p115 true (
(aLoad true 9 r177.1 r97.2.2).bind fun p181 =>
some (p181, r97.2.2)) r97.2.2).bind fun r180 =>
need (r180.2 = r97.2.2) <|
(onG p115 true (
(call (.func 17) [canon r180.1] r97.2.2).bind fun r184 =>
some (r184.1, r184.2)) r97.2.2).bind fun r183 =>
need (r183.2 = r97.2.2) <|
(onG p115 true (
(call (.func 13) [canon r165.1, canon r183.1] r97.2.2).bind fun r187 =>
some (r187.1, r187.2)) r97.2.2).bind fun r186 =>
need (r186.2 = r97.2.2) <|
(onG p115 true (
(aBin Try.prog false .neq 4 r147.1 r186.1).bind fun p190 =>
some (p190, r97.2.2)) r97.2.2).bind fun r189 =>
(aPick p115 r189.1 (PV.v (.bool false))).bind fun p191 =>
onBool p191 fun b192 => (bif b192 then
some (Ex.ret, [(PV.v (.bool false)), (nth r97.2.1 1), (nth r97.2.1 2), (nth r97.2.1 3), (nth r97.2.1 4), (nth r97.2.1 5), (nth r97.2.1 6), (nth r97.2.1 7), (nth r97.2.1 8), (nth r97.2.1 9), (nth r97.2.1 10), (nth r97.2.1 11)], r97.2.2)
else
some (Ex.normal, [(nth r97.2.1 0), (nth r97.2.1 1), (nth r97.2.1 2), (nth r97.2.1 3), (nth r97.2.1 4), (nth r97.2.1 5), (nth r97.2.1 6), (nth r97.2.1 7), (nth r97.2.1 8), (nth r97.2.1 9), (nth r97.2.1 10), (nth r97.2.1 11)], r97.2.2)).bind fun r193 =>
seqK r193.1 ((aBin Try.prog false .eql 3 (nth r193.2.1 2) (nth r193.2.1 4)).bind fun p195 =>
(onG p195 true (
(shift (nth r193.2.1 3) 0).bind fun p198 =>
some (p198, r193.2.2)) r193.2.2).bind fun r197 =>
(onG p195 true (
(aLoad false 1 r197.1 r193.2.2).bind fun p201 =>
some (p201, r193.2.2)) r193.2.2).bind fun r200 =>
need (r200.2 = r193.2.2) <|
(onG p195 true (
(aLen Try.prog 31 r200.1).bind fun p204 =>
some (p204, r193.2.2)) r193.2.2).bind fun r203 =>
(onG p195 true (
(aBin Try.prog true .gtr 3 r203.1 (PV.v (.int .i64 0))).bind fun p207 =>
some (p207, r193.2.2)) r193.2.2).bind fun r206 =>
(aPick p195 r206.1 (PV.v (.bool false))).bind fun p208 =>
(onG p208 true (
(shift (nth r193.2.1 5) 0).bind fun p211 =>
some (p211, r193.2.2)) r193.2.2).bind fun r210 =>
(onG p208 true (
(aLoad false 1 r210.1 r193.2.2).bind fun p214 =>
some (p214, r193.2.2)) r193.2.2).bind fun r213 =>
need (r213.2 = r193.2.2) <|
(onG p208 true (
(aLen Try.prog 31 r213.1).bind fun p217 =>
some (p217, r193.2.2)) r193.2.2).bind fun r216 =>
(onG p208 true (
(aBin Try.prog true .gtr 3 r216.1 (PV.v (.int .i64 0))).bind fun p220 =>
some (p220, r193.2.2)) r193.2.2).bind fun r219 =>
(aPick p208 r219.1 (PV.v (.bool false))).bind fun p221 =>
(onG p221 true (
(shift (nth r193.2.1 3) 0).bind fun p224 =>
some (p224, r193.2.2)) r193.2.2).bind fun r223 =>
(onG p221 true (
(aLoad false 1 r223.1 r193.2.2).bind fun p227 =>
some (p227, r193.2.2)) r193.2.2).bind fun r226 =>
need (r226.2 = r193.2.2) <|
(onG p221 true (
(aIndexAddr Try.prog 31 r226.1 (PV.v (.int .i64 0))).bind fun p230 =>
some (p230, r193.2.2)) r193.2.2).bind fun r229 =>
(onG p221 true (
(aLoad true 58 r229.1 r193.2.2).bind fun p233 =>
some (p233, r193.2.2)) r193.2.2).bind fun r232 =>
need (r232.2 = r193.2.2) <|
(onG p221 true (
(shift (nth r193.2.1 5) 0).bind fun p236 =>
some (p236, r193.2.2)) r193.2.2).bind fun r235 =>
(onG p221 true (
(aLoad false 1 r235.1 r193.2.2).bind fun p239 =>
some (p239, r193.2.2)) r193.2.2).bind fun r238 =>
need (r238.2 = r193.2.2) <|
(onG p221 true (
(aIndexAddr Try.prog 31 r238.1 (PV.v (.int .i64 0))).bind fun p242 =>
some (p242, r193.2.2)) r193.2.2).bind fun r241 =>
(onG p221 true (
(aLoad true 58 r241.1 r193.2.2).bind fun p245 =>
some (p245, r193.2.2)) r193.2.2).bind fun r244 =>
need (r244.2 = r193.2.2) <|
(onG p221 true (
(call (.func 18) [canon r232.1, canon r244.1] r193.2.2).bind fun r248 =>
some (r248.1, r248.2)) r193.2.2).bind fun r247 =>
need (r247.2 = r193.2.2) <|
(onG p221 true (
(shift (nth r193.2.1 3) 0).bind fun p251 =>
some (p251, r193.2.2)) r193.2.2).bind fun r250 =>
(onG p221 true (
(aLoad false 1 r250.1 r193.2.2).bind fun p254 =>
some (p254, r193.2.2)) r193.2.2).bind fun r253 =>
need (r253.2 = r193.2.2) <|
(onG p221 true (
(aSlice Try.prog 31 r253.1 none (some (PV.v (.int .i64 1))) none).bind fun p257 =>
some (p257, r193.2.2)) r193.2.2).bind fun r256 =>
(onG p221 true (
(shift (nth r193.2.1 5) 0).bind fun p260 =>
some (p260, r193.2.2)) r193.2.2).bind fun r259 =>
(onG p221 true (
(aLoad false 1 r259.1 r193.2.2).bind fun p263 =>
some (p263, r193.2.2)) r193.2.2).bind fun r262 =>
need (r262.2 = r193.2.2) <|
(onG p221 true (
(aSlice Try.prog 31 r262.1 none (some (PV.v (.int .i64 1))) none).bind fun p266 =>
some (p266, r193.2.2)) r193.2.2).bind fun r265 =>
(onG p221 true (
(call (.func 10) [canon r256.1, canon r265.1] r193.2.2).bind fun r269 =>
some (r269.1, r269.2)) r193.2.2).bind fun r268 =>
need (r268.2 = r193.2.2) <|
(onG p221 true (
(aBin Try.prog false .neq 4 r247.1 r268.1).bind fun p272 =>
some (p272, r193.2.2)) r193.2.2).bind fun r271 =>
(aPick p221 r271.1 (PV.v (.bool false))).bind fun p273 =>
onBool p273 fun b274 => (bif b274 then
some (Ex.ret, [(PV.v (.bool false)), (nth r193.2.1 1), (nth r193.2.1 2), (nth r193.2.1 3), (nth r193.2.1 6), (nth r193.2.1 7), (nth r193.2.1 8), (nth r193.2.1 9), (nth r193.2.1 10), (nth r193.2.1 11)], r193.2.2)
else
some (Ex.normal, [(nth r193.2.1 0), (nth r193.2.1 1), (nth r193.2.1 2), (nth r193.2.1 3), (nth r193.2.1 6), (nth r193.2.1 7), (nth r193.2.1 8), (nth r193.2.1 9), (nth r193.2.1 10), (nth r193.2.1 11)], r193.2.2)).bind fun r275 =>
seqK (Ex.outOf 3 r275.1) ((aBin Try.prog true .add 3 (nth r275.2.1 9) (PV.v (.int .i64 1))).bind fun p277 =>
leaveV base lb st73.stk.length Ex.normal [(nth r275.2.1 0), (nth r275.2.1 1), (nth r275.2.1 2), (nth r275.2.1 3), (nth r275.2.1 4), (nth r275.2.1 5), (nth r275.2.1 6), (nth r275.2.1 7), (nth r275.2.1 8), p277] r275.2.2) fun x276 =>
leaveV base lb st73.stk.length x276 [(nth r275.2.1 0), (nth r275.2.1 1), (nth r275.2.1 2), (nth r275.2.1 3), (nth r275.2.1 4), (nth r275.2.1 5), (nth r275.2.1 6), (nth r275.2.1 7), (nth r275.2.1 8), (nth r275.2.1 9)] r275.2.2) fun x194 =>
seqK (Ex.outOf 3 x194) ((aBin Try.prog true .add 3 (nth r193.2.1 11) (PV.v (.int .i64 1))).bind fun p279 =>
leaveV base lb st73.stk.length Ex.normal [(nth r193.2.1 0), (nth r193.2.1 1), (nth r193.2.1 2), (nth r193.2.1 3), (nth r193.2.1 6), (nth r193.2.1 7), (nth r193.2.1 8), (nth r193.2.1 9), (nth r193.2.1 10), p279] r193.2.2) fun x278 =>
leaveV base lb st73.stk.length x278 [(nth r193.2.1 0), (nth r193.2.1 1), (nth r193.2.1 2), (nth r193.2.1 3), (nth r193.2.1 6), (nth r193.2.1 7), (nth r193.2.1 8), (nth r193.2.1 9), (nth r193.2.1 10), (nth r193.2.1 11)] r193.2.2) fun x98 =>
seqK (Ex.outOf 3 x98) ((aBin Try.prog true .add 3 (nth r97.2.1 11) (PV.v (.int .i64 1))).bind fun p281 =>
leaveV base lb st73.stk.length Ex.normal [(nth r97.2.1 0), (nth r97.2.1 1), (nth r97.2.1 2), (nth r97.2.1 3), (nth r97.2.1 6), (nth r97.2.1 7), (nth r97.2.1 8), (nth r97.2.1 9), (nth r97.2.1 10), p281] r97.2.2) fun x280 =>
leaveV base lb st73.stk.length x280 [(nth r97.2.1 0), (nth r97.2.1 1), (nth r97.2.1 2), (nth r97.2.1 3), (nth r97.2.1 6), (nth r97.2.1 7), (nth r97.2.1 8), (nth r97.2.1 9), (nth r97.2.1 10), (nth r97.2.1 11)] r97.2.2) fun x77 =>
leaveV base lb st73.stk.length x77 [(nth r76.2.1 0), (nth r76.2.1 1), (nth r76.2.1 2), (nth r76.2.1 3), (nth r76.2.1 4), (nth r76.2.1 5), (nth r76.2.1 6), (nth r76.2.1 7), (nth r76.2.1 8), (nth r76.2.1 9)] r76.2.2
noncomputable def S4.b0 (call : CallF) (it : LoopF) (base lb : Nat) (vs57 : List PV) (st58 : St) : Option (Ex × List PV × St) :=
(aBin Try.prog false .lss 3 (nth vs57 4) (nth vs57 3)).bind fun p59 =>
onBool p59 fun b60 => (bif b60 then
some (Ex.normal, [(nth vs57 0), (nth vs57 1), (nth vs57 2), (nth vs57 3), (nth vs57 4)], st58)
else
some ((Ex.exit 0), [(nth vs57 0), (nth vs57 1), (nth vs57 2), (nth vs57 3), (nth vs57 4)], st58)).bind fun r61 =>
seqK r61.1 ((aIndexAddr Try.prog 27 (nth r61.2.1 2) (nth r61.2.1 4)).bind fun p63 =>
(aLoad true 3 p63 r61.2.2).bind fun p64 =>
let q66 : PV := .ptr false r61.2.2.stk.length 0
let st65 := r61.2.2.push [.sl [] .nil, .v (.int .i64 0), .v (.int .i64 0)]
(aStore base 3 q66 p64 st65).bind fun st67 =>
(shift (nth r61.2.1 1) 3).bind fun p68 =>
(aLoad false 1 p68 st67).bind fun p69 =>
(aLen Try.prog 27 p69).bind fun p70 =>
(it (S4.b1 call it base lb) [(nth r61.2.1 0), (nth r61.2.1 1), (nth r61.2.1 4), q66, (nth r61.2.1 2), (nth r61.2.1 3), (nth r61.2.1 4), p69, p70, (PV.v (.int .i64 0))] st67).bind fun r71 =>
seqK (Ex.outOf 1 (Ex.outOf 2 r71.1)) ((aBin Try.prog true .add 3 (nth r71.2.1 6) (PV.v (.int .i64 1))).bind fun p283 =>
leaveV base lb st58.stk.length Ex.normal [(nth r71.2.1 0), (nth r71.2.1 1), (nth r71.2.1 4), (nth r71.2.1 5), p283] r71.2.2) fun x282 =>
leaveV base lb st58.stk.length x282 [(nth r71.2.1 0), (nth r71.2.1 1), (nth r71.2.1 4), (nth r71.2.1 5), (nth r71.2.1 6)] r71.2.2) fun x62 =>
leaveV base lb st58.stk.length x62 [(nth r61.2.1 0), (nth r61.2.1 1), (nth r61.2.1 2), (nth r61.2.1 3), (nth r61.2.1 4)] r61.2.2
/-- padlock/padlocklaw04.TreeSame -/
noncomputable def S4 (call : CallF) (it : LoopF) (a0 a1 : PV) (st : St) : Option (PV × St) :=
(call (.func 7) [] st).bind fun r1 =>
(aUn Try.prog .not r1.1).bind fun p2 =>
onBool p2 fun b3 => (bif b3 then
some (Ex.ret, [a0, a1, (PV.v (.bool false))], r1.2)
else
some (Ex.normal, [a0, a1, (PV.v (.bool false))], r1.2)).bind fun r4 =>
seqK r4.1 ((aLen Try.prog 22 (nth r4.2.1 0)).bind fun p6 =>
(aBin Try.prog true .gtr 3 p6 (PV.v (.int .i64 400))).bind fun p7 =>
(onG p7 false (
some ((nth r4.2.1 1), r4.2.2)) r4.2.2).bind fun r9 =>
(onG p7 false (
(aLen Try.prog 22 r9.1).bind fun p12 =>
some (p12, r9.2)) r9.2).bind fun r11 =>
(onG p7 false (
(aBin Try.prog true .gtr 3 r11.1 (PV.v (.int .i64 400))).bind fun p15 =>
some (p15, r11.2)) r11.2).bind fun r14 =>
(aPick p7 (PV.v (.bool true)) r14.1).bind fun p16 =>
onBool p16 fun b17 => (bif b17 then
some (Ex.ret, [(nth r4.2.1 0), (nth r4.2.1 1), (PV.v (.bool true))], r14.2)
else
some (Ex.normal, [(nth r4.2.1 0), (nth r4.2.1 1), (nth r4.2.1 2)], r14.2)).bind fun r18 =>
seqK r18.1 ((call (.func 8) [canon (nth r18.2.1 0)] r18.2.2).bind fun r20 =>
(call (.func 8) [canon (nth r18.2.1 1)] r20.2).bind fun r21 =>
let q23 : PV := .ptr false r21.2.stk.length 0
let st22 := r21.2.push [.sl [] .nil, .sl [] .nil, .sl [] .nil, .sl [] .nil]
let q25 : PV := .ptr false st22.stk.length 0
let st24 := st22.push [.sl [] .nil, .sl [] .nil, .sl [] .nil, .sl [] .nil]
(aStore st.stk.length 4 q23 r20.1 st24).bind fun st26 =>
(aStore st.stk.length 4 q25 r21.1 st26).bind fun st27 =>
(aLoad true 4 q23 st27).bind fun p28 =>
need (st27 = st27) <|
(aLoad true 4 q25 st27).bind fun p29 =>
need (st27 = st27) <|
(call (.func 12) [canon p28, canon p29] st27).bind fun r30 =>
need (r30.2 = st27) <|
(aLoad true 4 q23 st27).bind fun p31 =>
need (st27 = st27) <|
(call (.func 14) [canon p31] st27).bind fun r32 =>
need (r32.2 = st27) <|
(aLoad true 4 q25 st27).bind fun p33 =>
need (st27 = st27) <|
(call (.func 14) [canon p33] st27).bind fun r34 =>
need (r34.2 = st27) <|
(call (.func 13) [canon r32.1, canon r34.1] st27).bind fun r35 =>
need (r35.2 = st27) <|
(aBin Try.prog false .neq 4 r30.1 r35.1).bind fun p36 =>
(onG p36 false (
(aLoad true 4 q23 st27).bind fun p39 =>
some (p39, st27)) st27).bind fun r38 =>
need (r38.2 = st27) <|
(onG p36 false (
(aLoad true 4 q23 st27).bind fun p42 =>
some (p42, st27)) st27).bind fun r41 =>
need (r41.2 = st27) <|
(onG p36 false (
(call (.func 12) [canon r38.1, canon r41.1] st27).bind fun r45 =>
some (r45.1, r45.2)) st27).bind fun r44 =>
need (r44.2 = st27) <|
(onG p36 false (
(aUn Try.prog .not r44.1).bind fun p48 =>
some (p48, st27)) st27).bind fun r47 =>
(aPick p36 (PV.v (.bool true)) r47.1).bind fun p49 =>
onBool p49 fun b50 => (bif b50 then
some (Ex.ret, [(PV.v (.bool false)), q23, q25], st27)
else
some (Ex.normal, [(nth r18.2.1 2), q23, q25], st27)).bind fun r51 =>
seqK r51.1 ((shift (nth r51.2.1 1) 3).bind fun p53 =>
(aLoad false 1 p53 r51.2.2).bind fun p54 =>
(aLen Try.prog 27 p54).bind fun p55 =>
(it (S4.b0 call it st.stk.length st.lp.length) [(nth r51.2.1 0), (nth r51.2.1 2), p54, p55, (PV.v (.int .i64 0))] r51.2.2).bind fun r56 =>
seqK (Ex.outOf 0 r56.1) (fin st.stk.length st.tk.length st.lp.length [(PV.v (.bool true))] r56.2.2) fun x284 =>
retK x284 (fin st.stk.length st.tk.length st.lp.length [(nth r56.2.1 0)] r56.2.2)) fun x52 =>
retK x52 (fin st.stk.length st.tk.length st.lp.length [(nth r51.2.1 0)] r51.2.2)) fun x19 =>
retK x19 (fin st.stk.length st.tk.length st.lp.length [(nth r18.2.1 2)] r18.2.2)) fun x5 =>
retK x5 (fin st.stk.length st.tk.length st.lp.length [(nth r4.2.1 2)] r4.2.2)
theorem S4_eq (a0 a1 : PV) (st : St) : E L (.func 4) [a0, a1] st = S4 (E L) itE a0 a1 st := (E_func' (by rfl) Try.func4 _ _).trans (by kernel_rfl)
/-- padlock/padlocklaw04.TreeTurned -/
noncomputable def S5 (call : CallF) (it : LoopF) (a0 a1 a2 : PV) (st : St) : Option (PV × St) :=
(call (.func 7) [] st).bind fun r1 =>
(aUn Try.prog .not r1.1).bind fun p2 =>
onBool p2 fun b3 => (bif b3 then
some (Ex.ret, [a0, a1, a2, (PV.v (.bool false))], r1.2)
else
some (Ex.normal, [a0, a1, a2, (PV.v (.bool false))], r1.2)).bind fun r4 =>
seqK r4.1 ((aLen Try.prog 22 (nth r4.2.1 0)).bind fun p6 =>
(aBin Try.prog true .gtr 3 p6 (PV.v (.int .i64 400))).bind fun p7 =>
onBool p7 fun b8 => (bif b8 then
some (Ex.ret, [(nth r4.2.1 0), (nth r4.2.1 1), (nth r4.2.1 2), (PV.v (.bool true))], r4.2.2)
else
some (Ex.normal, [(nth r4.2.1 0), (nth r4.2.1 1), (nth r4.2.1 2), (nth r4.2.1 3)], r4.2.2)).bind fun r9 =>
seqK r9.1 ((call (.func 8) [canon (nth r9.2.1 0)] r9.2.2).bind fun r11 =>
(call (.func 8) [canon (nth r9.2.1 0)] r11.2).bind fun r12 =>
let q14 : PV := .ptr false r12.2.stk.length 0
let st13 := r12.2.push [.sl [] .nil, .sl [] .nil, .sl [] .nil, .sl [] .nil]
let q16 : PV := .ptr false st13.stk.length 0
let st15 := st13.push [.sl [] .nil, .sl [] .nil, .sl [] .nil, .sl [] .nil]
(aStore st.stk.length 4 q14 r11.1 st15).bind fun st17 =>
(aStore st.stk.length 4 q16 r12.1 st17).bind fun st18 =>
(shift q16 3).bind fun p19 =>
(aLoad false 1 p19 st18).bind fun p20 =>
(aLen Try.prog 27 p20).bind fun p21 =>
(aBin Try.prog true .eql 3 p21 (PV.v (.int .i64 0))).bind fun p22 =>
(onG p22 false (
(shift q16 3).bind fun p25 =>
some (p25, st18)) st18).bind fun r24 =>
(onG p22 false (
(aLoad false 1 r24.1 r24.2).bind fun p28 =>
some (p28, r24.2)) r24.2).bind fun r27 =>
(onG p22 false (
(aIndexAddr Try.prog 27 r27.1 (PV.v (.int .i64 0))).bind fun p31 =>
some (p31, r27.2)) r27.2).bind fun r30 =>
(onG p22 false (
(shift r30.1 0).bind fun p34 =>
some (p34, r30.2)) r30.2).bind fun r33 =>
(onG p22 false (
(aLoad false 1 r33.1 r33.2).bind fun p37 =>
some (p37, r33.2)) r33.2).bind fun r36 =>
(onG p22 false (
(aLen Try.prog 31 r36.1).bind fun p40 =>
some (p40, r36.2)) r36.2).bind fun r39 =>
(onG p22 false (
(aBin Try.prog true .eql 3 r39.1 (PV.v (.int .i64 0))).bind fun p43 =>
some (p43, r39.2)) r39.2).bind fun r42 =>
(aPick p22 (PV.v (.bool true)) r42.1).bind fun p44 =>
onBool p44 fun b45 => (bif b45 then
some (Ex.ret, [(nth r9.2.1 1), (nth r9.2.1 2), (PV.v (.bool true)), q14, q16], r42.2)
else
some (Ex.normal, [(nth r9.2.1 1), (nth r9.2.1 2), (nth r9.2.1 3), q14, q16], r42.2)).bind fun r46 =>
seqK r46.1 ((shift (nth r46.2.1 4) 3).bind fun p48 =>
(aLoad false 1 p48 r46.2.2).bind fun p49 =>
(aIndexAddr Try.prog 27 p49 (PV.v (.int .i64 0))).bind fun p50 =>
(shift p50 0).bind fun p51 =>
(aLoad false 1 p51 r46.2.2).bind fun p52 =>
(aConv Try.prog 3 59 (nth r46.2.1 0)).bind fun p53 =>
(aLen Try.prog 31 p52).bind fun p54 =>
(aConv Try.prog 3 59 p54).bind fun p55 =>
(aBin Try.prog false .rem 59 p53 p55).bind fun p56 =>
(aConv Try.prog 59 3 p56).bind fun p57 =>
(aConv Try.prog 3 59 (nth r46.2.1 1)).bind fun p58 =>
(aBin Try.prog true .rem 59 p58 (PV.v (.int .u64 8))).bind fun p59 =>
(aConv Try.prog 59 3 p59).bind fun p60 =>
(aBin Try.prog true .eql 3 p60 (PV.v (.int .i64 0))).bind fun p61 =>
onBool p61 fun b62 => (bif b62 then
(aIndexAddr Try.prog 31 p52 p57).bind fun p64 =>
(shift p64 0).bind fun p65 =>
(aLoad false 1 p65 r46.2.2).bind fun p66 =>
(aBin Try.prog true .add 3 p66 (PV.v (.int .i64 1))).bind fun p67 =>
(aIndexAddr Try.prog 31 p52 p57).bind fun p68 =>
(shift p68 0).bind fun p69 =>
(aStore st.stk.length 1 p69 p67 r46.2.2).bind fun st70 =>
some (Ex.normal, [(nth r46.2.1 3), (nth r46.2.1 4), (PV.v (.bool false))], st70)
else
(aBin Try.prog true .eql 3 p60 (PV.v (.int .i64 1))).bind fun p71 =>
onBool p71 fun b72 => (bif b72 then
(aIndexAddr Try.prog 31 p52 p57).bind fun p74 =>
(shift p74 1).bind fun p75 =>
(aLoad false 1 p75 r46.2.2).bind fun p76 =>
(aBin Try.prog true .add 9 p76 (PV.v (.string ⟨#[122]⟩))).bind fun p77 =>
(aIndexAddr Try.prog 31 p52 p57).bind fun p78 =>
(shift p78 1).bind fun p79 =>
(aStore st.stk.length 1 p79 p77 r46.2.2).bind fun st80 =>
some (Ex.normal, [(nth r46.2.1 3), (nth r46.2.1 4), (PV.v (.bool false))], st80)
else
(aBin Try.prog true .eql 3 p60 (PV.v (.int .i64 2))).bind fun p81 =>
onBool p81 fun b82 => (bif b82 then
(aIndexAddr Try.prog 31 p52 p57).bind fun p84 =>
(shift p84 43).bind fun p85 =>
(shift p85 2).bind fun p86 =>
(aLoad false 1 p86 r46.2.2).bind fun p87 =>
(aBin Try.prog true .add 38 p87 (PV.v (.int .u64 1))).bind fun p88 =>
(aIndexAddr Try.prog 31 p52 p57).bind fun p89 =>
(shift p89 43).bind fun p90 =>
(shift p90 2).bind fun p91 =>
(aStore st.stk.length 1 p91 p88 r46.2.2).bind fun st92 =>
some (Ex.normal, [(nth r46.2.1 3), (nth r46.2.1 4), (PV.v (.bool false))], st92)
else
(aBin Try.prog true .eql 3 p60 (PV.v (.int .i64 3))).bind fun p93 =>
onBool p93 fun b94 => (bif b94 then
(aIndexAddr Try.prog 31 p52 p57).bind fun p96 =>
(shift p96 2).bind fun p97 =>
(shift p97 10).bind fun p98 =>
(shift p98 3).bind fun p99 =>
(shift p99 1).bind fun p100 =>
(aLoad false 1 p100 r46.2.2).bind fun p101 =>
(aBin Try.prog true .add 3 p101 (PV.v (.int .i64 1))).bind fun p102 =>
(aIndexAddr Try.prog 31 p52 p57).bind fun p103 =>
(shift p103 2).bind fun p104 =>
(shift p104 10).bind fun p105 =>
(shift p105 3).bind fun p106 =>
(shift p106 1).bind fun p107 =>
(aStore st.stk.length 1 p107 p102 r46.2.2).bind fun st108 =>
some (Ex.normal, [(nth r46.2.1 3), (nth r46.2.1 4), (PV.v (.bool false))], st108)
else
(aBin Try.prog true .eql 3 p60 (PV.v (.int .i64 4))).bind fun p109 =>
onBool p109 fun b110 => (bif b110 then
(rBuildSlice 58 [.v (.int .i64 0), .v (.string ⟨#[]⟩), .v (.int .i64 0), .v (.int .i64 0), .v (.int .i64 0), .v (.int .u64 0), .v (.int .i64 0), .v (.string ⟨#[]⟩), .v (.string ⟨#[]⟩), .sl [] .nil, .v (.int .i64 0), .v (.int .i64 0), .v (.int .i64 0), .v (.string ⟨#[]⟩), .v (.string ⟨#[]⟩), .v (.int .i64 0), .v (.int .i64 0), .v (.int .u64 0), .v (.int .i64 0), .v (.string ⟨#[]⟩), .v (.string ⟨#[]⟩), .sl [] .nil, .v (.int .i64 0), .v (.int .i64 0), .v (.int .i64 0), .v (.int .i64 0), .v (.string ⟨#[]⟩), .v (.int .i64 0), .v (.int .i64 0), .v (.int .i64 0), .v (.string ⟨#[]⟩), .v (.string ⟨#[]⟩), .v (.int .i64 0), .v (.int .i64 0), .v (.int .u64 0), .v (.int .i64 0), .v (.string ⟨#[]⟩), .v (.string ⟨#[]⟩), .sl [] .nil, .v (.int .i64 0), .v (.int .i64 0), .v (.int .i64 0), .v (.int .i64 0), .v (.int .i64 0), .v (.int .i64 0), .v (.int .u64 0), .v (.int .i64 0), .v (.string ⟨#[]⟩), .v (.string ⟨#[]⟩), .sl [] .nil, .v (.int .i64 0), .v (.int .i64 0), .v (.int .i64 0), .sl [] .nil, .sl [] .nil, .sl [] .nil, .v (.int .i64 0), .v (.int .i64 0)] 0 []).bind fun p112 =>
(aIndexAddr Try.prog 31 p52 p57).bind fun p113 =>
(shift p113 54).bind fun p114 =>
(aLoad false 1 p114 r46.2.2).bind fun p115 =>
(elemsOf r46.2.2 p115).bind fun ys116 =>
(rAppend st.stk.length [.v (.int .i64 0), .v (.string ⟨#[]⟩), .v (.int .i64 0), .v (.int .i64 0), .v (.int .i64 0), .v (.int .u64 0), .v (.int .i64 0), .v (.string ⟨#[]⟩), .v (.string ⟨#[]⟩), .sl [] .nil, .v (.int .i64 0), .v (.int .i64 0), .v (.int .i64 0), .v (.string ⟨#[]⟩), .v (.string ⟨#[]⟩), .v (.int .i64 0), .v (.int .i64 0), .v (.int .u64 0), .v (.int .i64 0), .v (.string ⟨#[]⟩), .v (.string ⟨#[]⟩), .sl [] .nil, .v (.int .i64 0), .v (.int .i64 0), .v (.int .i64 0), .v (.int .i64 0), .v (.string ⟨#[]⟩), .v (.int .i64 0), .v (.int .i64 0), .v (.int .i64 0), .v (.string ⟨#[]⟩), .v (.string ⟨#[]⟩), .v (.int .i64 0), .v (.int .i64 0), .v (.int .u64 0), .v (.int .i64 0), .v (.string ⟨#[]⟩), .v (.string ⟨#[]⟩), .sl [] .nil, .v (.int .i64 0), .v (.int .i64 0), .v (.int .i64 0), .v (.int .i64 0), .v (.int .i64 0), .v (.int .i64 0), .v (.int .u64 0), .v (.int .i64 0), .v (.string ⟨#[]⟩), .v (.string ⟨#[]⟩), .sl [] .nil, .v (.int .i64 0), .v (.int .i64 0), .v (.int .i64 0), .sl [] .nil, .sl [] .nil, .sl [] .nil, .v (.int .i64 0), .v (.int .i64 0)] 58 688 p112 ys116 r46.2.2).bind fun r117 =>
(rBuild [(0, 1), (1, 1), (2, 27), (29, 14), (43, 9), (52, 1), (53, 1), (54, 1), (55, 1), (56, 1), (57, 1)] [.v (.int .i64 0), .v (.string ⟨#[]⟩), .v (.int .i64 0), .v (.int .i64 0), .v (.int .i64 0), .v (.int .u64 0), .v (.int .i64 0), .v (.string ⟨#[]⟩), .v (.string ⟨#[]⟩), .sl [] .nil, .v (.int .i64 0), .v (.int .i64 0), .v (.int .i64 0), .v (.string ⟨#[]⟩), .v (.string ⟨#[]⟩), .v (.int .i64 0), .v (.int .i64 0), .v (.int .u64 0), .v (.int .i64 0), .v (.string ⟨#[]⟩), .v (.string ⟨#[]⟩), .sl [] .nil, .v (.int .i64 0), .v (.int .i64 0), .v (.int .i64 0), .v (.int .i64 0), .v (.string ⟨#[]⟩), .v (.int .i64 0), .v (.int .i64 0), .v (.int .i64 0), .v (.string ⟨#[]⟩), .v (.string ⟨#[]⟩), .v (.int .i64 0), .v (.int .i64 0), .v (.int .u64 0), .v (.int .i64 0), .v (.string ⟨#[]⟩), .v (.string ⟨#[]⟩), .sl [] .nil, .v (.int .i64 0), .v (.int .i64 0), .v (.int .i64 0), .v (.int .i64 0), .v (.int .i64 0), .v (.int .i64 0), .v (.int .u64 0), .v (.int .i64 0), .v (.string ⟨#[]⟩), .v (.string ⟨#[]⟩), .sl [] .nil, .v (.int .i64 0), .v (.int .i64 0), .v (.int .i64 0), .sl [] .nil, .sl [] .nil, .sl [] .nil, .v (.int .i64 0), .v (.int .i64 0)] []).bind fun p118 =>
(rBuildSlice 58 [.v (.int .i64 0), .v (.string ⟨#[]⟩), .v (.int .i64 0), .v (.int .i64 0), .v (.int .i64 0), .v (.int .u64 0), .v (.int .i64 0), .v (.string ⟨#[]⟩), .v (.string ⟨#[]⟩), .sl [] .nil, .v (.int .i64 0), .v (.int .i64 0), .v (.int .i64 0), .v (.string ⟨#[]⟩), .v (.string ⟨#[]⟩), .v (.int .i64 0), .v (.int .i64 0), .v (.int .u64 0), .v (.int .i64 0), .v (.string ⟨#[]⟩), .v (.string ⟨#[]⟩), .sl [] .nil, .v (.int .i64 0), .v (.int .i64 0), .v (.int .i64 0), .v (.int .i64 0), .v (.string ⟨#[]⟩), .v (.int .i64 0), .v (.int .i64 0), .v (.int .i64 0), .v (.string ⟨#[]⟩), .v (.string ⟨#[]⟩), .v (.int .i64 0), .v (.int .i64 0), .v (.int .u64 0), .v (.int .i64 0), .v (.string ⟨#[]⟩), .v (.string ⟨#[]⟩), .sl [] .nil, .v (.int .i64 0), .v (.int .i64 0), .v (.int .i64 0), .v (.int .i64 0), .v (.int .i64 0), .v (.int .i64 0), .v (.int .u64 0), .v (.int .i64 0), .v (.string ⟨#[]⟩), .v (.string ⟨#[]⟩), .sl [] .nil, .v (.int .i64 0), .v (.int .i64 0), .v (.int .i64 0), .sl [] .nil, .sl [] .nil, .sl [] .nil, .v (.int .i64 0), .v (.int .i64 0)] 1 [(0, p118)]).bind fun p119 =>
(elemsOf r117.2 p119).bind fun ys120 =>
(rAppend st.stk.length [.v (.int .i64 0), .v (.string ⟨#[]⟩), .v (.int .i64 0), .v (.int .i64 0), .v (.int .i64 0), .v (.int .u64 0), .v (.int .i64 0), .v (.string ⟨#[]⟩), .v (.string ⟨#[]⟩), .sl [] .nil, .v (.int .i64 0), .v (.int .i64 0), .v (.int .i64 0), .v (.string ⟨#[]⟩), .v (.string ⟨#[]⟩), .v (.int .i64 0), .v (.int .i64 0), .v (.int .u64 0), .v (.int .i64 0), .v (.string ⟨#[]⟩), .v (.string ⟨#[]⟩), .sl [] .nil, .v (.int .i64 0), .v (.int .i64 0), .v (.int .i64 0), .v (.int .i64 0), .v (.string ⟨#[]⟩), .v (.int .i64 0), .v (.int .i64 0), .v (.int .i64 0), .v (.string ⟨#[]⟩), .v (.string ⟨#[]⟩), .v (.int .i64 0), .v (.int .i64 0), .v (.int .u64 0), .v (.int .i64 0), .v (.string ⟨#[]⟩), .v (.string ⟨#[]⟩), .sl [] .nil, .v (.int .i64 0), .v (.int .i64 0), .v (.int .i64 0), .v (.int .i64 0), .v (.int .i64 0), .v (.int .i64 0), .v (.int .u64 0), .v (.int .i64 0), .v (.string ⟨#[]⟩), .v (.string ⟨#[]⟩), .sl [] .nil, .v (.int .i64 0), .v (.int .i64 0), .v (.int .i64 0), .sl [] .nil, .sl [] .nil, .sl [] .nil, .v (.int .i64 0), .v (.int .i64 0)] 58 688 r117.1 ys120 r117.2).bind fun r121 =>
(aIndexAddr Try.prog 31 p52 p57).bind fun p122 =>
(shift p122 54).bind fun p123 =>
(aStore st.stk.length 1 p123 r121.1 r121.2).bind fun st124 =>
some (Ex.normal, [(nth r46.2.1 3), (nth r46.2.1 4), (PV.v (.bool false))], st124)
else
(aBin Try.prog true .eql 3 p60 (PV.v (.int .i64 5))).bind fun p125 =>
onBool p125 fun b126 => (bif b126 then
(aIndexAddr Try.prog 31 p52 p57).bind fun p128 =>
(shift p128 29).bind fun p129 =>
(shift p129 2).bind fun p130 =>
(aLoad false 1 p130 r46.2.2).bind fun p131 =>
(aBin Try.prog true .add 9 p131 (PV.v (.string ⟨#[122]⟩))).bind fun p132 =>
(aIndexAddr Try.prog 31 p52 p57).bind fun p133 =>
(shift p133 29).bind fun p134 =>
(shift p134 2).bind fun p135 =>
(aStore st.stk.length 1 p135 p132 r46.2.2).bind fun st136 =>
some (Ex.normal, [(nth r46.2.1 3), (nth r46.2.1 4), (PV.v (.bool false))], st136)
else
(aBin Try.prog true .eql 3 p60 (PV.v (.int .i64 6))).bind fun p137 =>
onBool p137 fun b138 => (bif b138 then
(aIndexAddr Try.prog 31 p52 p57).bind fun p140 =>
(shift p140 2).bind fun p141 =>
(shift p141 1).bind fun p142 =>
(shift p142 3).bind fun p143 =>
(shift p143 1).bind fun p144 =>
(aStore st.stk.length 1 p144 (PV.v (.string ⟨#[122]⟩)) r46.2.2).bind fun st145 =>
some (Ex.normal, [(nth r46.2.1 3), (nth r46.2.1 4), (PV.v (.bool false))], st145)
else
(aBin Try.prog true .eql 3 p60 (PV.v (.int .i64 7))).bind fun p146 =>
onBool p146 fun b147 => (bif b147 then
(aIndexAddr Try.prog 31 p52 p57).bind fun p149 =>
(shift p149 56).bind fun p150 =>
(aStore st.stk.length 1 p150 (PV.v (.int .i64 5)) r46.2.2).bind fun st151 =>
(aIndexAddr Try.prog 31 p52 p57).bind fun p152 =>
(shift p152 57).bind fun p153 =>
(aStore st.stk.length 1 p153 (PV.v (.int .i64 6)) st151).bind fun st154 =>
(aIndexAddr Try.prog 31 p52 p57).bind fun p155 =>
(shift p155 43).bind fun p156 =>
(shift p156 7).bind fun p157 =>
(aStore st.stk.length 1 p157 (PV.v (.int .i64 7)) st154).bind fun st158 =>
(aIndexAddr Try.prog 31 p52 p57).bind fun p159 =>
(shift p159 2).bind fun p160 =>
(shift p160 10).bind fun p161 =>
(shift p161 13).bind fun p162 =>
(aStore st.stk.length 1 p162 (PV.v (.int .i64 8)) st158).bind fun st163 =>
some (Ex.normal, [(nth r46.2.1 3), (nth r46.2.1 4), (PV.v (.bool true))], st163)
else
some (Ex.normal, [(nth r46.2.1 3), (nth r46.2.1 4), (PV.v (.bool false))], r46.2.2)).bind fun r148 =>
some (r148.1, [(nth r148.2.1 0), (nth r148.2.1 1), (nth r148.2.1 2)], r148.2.2)).bind fun r139 =>
some (r139.1, [(nth r139.2.1 0), (nth r139.2.1 1), (nth r139.2.1 2)], r139.2.2)).bind fun r127 =>
some (r127.1, [(nth r127.2.1 0), (nth r127.2.1 1), (nth r127.2.1 2)], r127.2.2)).bind fun r111 =>
some (r111.1, [(nth r111.2.1 0), (nth r111.2.1 1), (nth r111.2.1 2)], r111.2.2)).bind fun r95 =>
some (r95.1, [(nth r95.2.1 0), (nth r95.2.1 1), (nth r95.2.1 2)], r95.2.2)).bind fun r83 =>
some (r83.1, [(nth r83.2.1 0), (nth r83.2.1 1), (nth r83.2.1 2)], r83.2.2)).bind fun r73 =>
some (r73.1, [(nth r73.2.1 0), (nth r73.2.1 1), (nth r73.2.1 2)], r73.2.2)).bind fun r63 =>
seqK (Ex.outOf 0 r63.1) ((aLoad true 4 (nth r63.2.1 0) r63.2.2).bind fun p165 =>
(aLoad true 4 (nth r63.2.1 1) r63.2.2).bind fun p166 =>
(call (.func 12) [canon p165, canon p166] r63.2.2).bind fun r167 =>
(aBin Try.prog false .eql 4 r167.1 (nth r63.2.1 2)).bind fun p168 =>
(onG p168 true (
(aLoad true 4 (nth r63.2.1 1) r167.2).bind fun p171 =>
some (p171, r167.2)) r167.2).bind fun r170 =>
(onG p168 true (
(aLoad true 4 (nth r63.2.1 0) r170.2).bind fun p174 =>
some (p174, r170.2)) r170.2).bind fun r173 =>
(onG p168 true (
(call (.func 12) [canon r170.1, canon r173.1] r173.2).bind fun r177 =>
some (r177.1, r177.2)) r173.2).bind fun r176 =>
(onG p168 true (
some ((nth r63.2.1 2), r176.2)) r176.2).bind fun r179 =>
(onG p168 true (
(aBin Try.prog false .eql 4 r176.1 r179.1).bind fun p182 =>
some (p182, r179.2)) r179.2).bind fun r181 =>
(aPick p168 r181.1 (PV.v (.bool false))).bind fun p183 =>
fin st.stk.length st.tk.length st.lp.length [p183] r181.2) fun x164 =>
retK x164 (fin st.stk.length st.tk.length st.lp.length [PV.u] r63.2.2)) fun x47 =>
retK x47 (fin st.stk.length st.tk.length st.lp.length [(nth r46.2.1 2)] r46.2.2)) fun x10 =>
retK x10 (fin st.stk.length st.tk.length st.lp.length [(nth r9.2.1 3)] r9.2.2)) fun x5 =>
retK x5 (fin st.stk.length st.tk.length st.lp.length [(nth r4.2.1 3)] r4.2.2)
theorem S5_eq (a0 a1 a2 : PV) (st : St) : E L (.func 5) [a0, a1, a2] st = S5 (E L) itE a0 a1 a2 st := (E_func' (by rfl) Try.func5 _ _).trans (by kernel_rfl)
noncomputable def S20.lp0 (vs : List PV) : Lp := ⟨[3], vs, 19, ⟨[], []⟩, [8, 9], (Try.f20.body.getD .skip).r.r.l.r.l.l, (Try.f20.body.getD .skip).r.r.l.r.l.r, (.seq .nil (.blk (.seq .nil (.cnd [] .nil .nil)))), 0, .normal⟩
noncomputable def S20.r0 (call : CallF) (it : LoopF) (i : Nat) (vs : List PV) (p0_ p1_ : PV) (st : St) : Option (PV × St) :=
let q10 : PV := .ptr false st.stk.length 0
let st9 := st.push [.v (.int .i64 0), .v (.string ⟨#[]⟩), .v (.int .i64 0), .v (.int .i64 0), .v (.int .i64 0), .v (.int .u64 0), .v (.int .i64 0), .v (.string ⟨#[]⟩), .v (.string ⟨#[]⟩), .sl [] .nil, .v (.int .i64 0), .v (.int .i64 0), .v (.int .i64 0), .v (.string ⟨#[]⟩), .v (.string ⟨#[]⟩), .v (.int .i64 0), .v (.int .i64 0), .v (.int .u64 0), .v (.int .i64 0), .v (.string ⟨#[]⟩), .v (.string ⟨#[]⟩), .sl [] .nil, .v (.int .i64 0), .v (.int .i64 0), .v (.int .i64 0), .v (.int .i64 0), .v (.string ⟨#[]⟩), .v (.int .i64 0), .v (.int .i64 0), .v (.int .i64 0), .v (.string ⟨#[]⟩), .v (.string ⟨#[]⟩), .v (.int .i64 0), .v (.int .i64 0), .v (.int .u64 0), .v (.int .i64 0), .v (.string ⟨#[]⟩), .v (.string ⟨#[]⟩), .sl [] .nil, .v (.int .i64 0), .v (.int .i64 0), .v (.int .i64 0), .v (.int .i64 0), .v (.int .i64 0), .v (.int .i64 0), .v (.int .u64 0), .v (.int .i64 0), .v (.string ⟨#[]⟩), .v (.string ⟨#[]⟩), .sl [] .nil, .v (.int .i64 0), .v (.int .i64 0), .v (.int .i64 0), .sl [] .nil, .sl [] .nil, .sl [] .nil, .v (.int .i64 0), .v (.int .i64 0)]
(aStore st.stk.length 58 q10 p1_ st9).bind fun st11 =>
beginR i st11 fun st12 =>
(shift q10 0).bind fun p13 =>
(aLoad false 1 p13 st12).bind fun p14 =>
(aBin Try.prog true .eql 3 p14 (PV.v (.int .i64 11))).bind fun p15 =>
onBool p15 fun b16 => (bif b16 then
(aLoad false 1 (nth vs 0) st12).bind fun p18 =>
(shift q10 1).bind fun p19 =>
(aLoad false 1 p19 st12).bind fun p20 =>
(rBuildSlice 1 [.v (.string ⟨#[]⟩)] 1 [(0, p20)]).bind fun p21 =>
(elemsOf st12 p21).bind fun ys22 =>
(rAppend st.stk.length [.v (.string ⟨#[]⟩)] 1 16 p18 ys22 st12).bind fun r23 =>
(aStore st.stk.length 1 (nth vs 0) r23.1 r23.2).bind fun st24 =>
some (Ex.normal, ([] : List PV), st24)
else
some (Ex.normal, ([] : List PV), st12)).bind fun r17 =>
finR st.stk.length st.tk.length st.lp.length i (Ex.outOf 1 r17.1) r17.2.2
/-- padlock/tree.Calls -/
noncomputable def S20 (call : CallF) (it : LoopF) (a0 : PV) (st : St) : Option (PV × St) :=
let q2 : PV := .ptr false st.stk.length 0
let st1 := st.push [.sl [] .nil]
(call (.func 26) [canon a0] st1).bind fun r3 =>
onFn r3.1 fun g4 caps5 => bif true && plainFn g4 then
(call g4 (.clo (.yield r3.2.lp.length) [] :: caps5) { r3.2 with lp := r3.2.lp ++ [.loop (S20.lp0 [q2])] }).bind fun r6 =>
endLp r6.2 r3.2.stk.length r3.2.tk.length r3.2.lp.length fun x7 st8 =>
seqK (Ex.outOf 0 x7) ((aLoad false 1 q2 st8).bind fun p26 =>
fin st.stk.length st.tk.length st.lp.length [p26] st8) fun x25 =>
retK x25 (fin st.stk.length st.tk.length st.lp.length [(PV.sl [] .nil)] st8)
else none
theorem S20_eq (a0 : PV) (st : St) : E L (.func 20) [a0] st = S20 (E L) itE a0 st := (E_func' (by rfl) Try.func20 _ _).trans (by kernel_rfl)
theorem S20.r0_eq {i : Nat} {vs : List PV} {st : St} (h : st.loop i = some (S20.lp0 vs)) (p0_ p1_ : PV) : E L (.yield i) [p0_, p1_] st = S20.r0 (E L) itE i vs p0_ p1_ st := (E_yield h _).trans (by kernel_rfl)
noncomputable def S6.b0 (call : CallF) (it : LoopF) (base lb : Nat) (vs19 : List PV) (st20 : St) : Option (Ex × List PV × St) :=
(aBin Try.prog false .lss 3 (nth vs19 8) (nth vs19 7)).bind fun p21 =>
onBool p21 fun b22 => (bif b22 then
some (Ex.normal, [(nth vs19 0), (nth vs19 1), (nth vs19 2), (nth vs19 3), (nth vs19 4), (nth vs19 5), (nth vs19 6), (nth vs19 7), (nth vs19 8)], st20)
else
some ((Ex.exit 0), [(nth vs19 0), (nth vs19 1), (nth vs19 2), (nth vs19 3), (nth vs19 4), (nth vs19 5), (nth vs19 6), (nth vs19 7), (nth vs19 8)], st20)).bind fun r23 =>
seqK r23.1 ((aIndexAddr Try.prog 26 (nth r23.2.1 6) (nth r23.2.1 8)).bind fun p25 =>
(aLoad true 5 p25 r23.2.2).bind fun p26 =>
let q28 : PV := .ptr false r23.2.2.stk.length 0
let st27 := r23.2.2.push [.v (.string ⟨#[]⟩), .sl [] .nil, .sl [] .nil, .v (.int .i64 0), .v (.int .i64 0)]
(aStore base 5 q28 p26 st27).bind fun st29 =>
(shift q28 2).bind fun p30 =>
(aLoad false 1 p30 st29).bind fun p31 =>
(rBuildSlice 1 [.sl [] .nil] 1 [(0, p31)]).bind fun p32 =>
(elemsOf st29 p32).bind fun ys33 =>
(rAppend base [.sl [] .nil] 1 24 (nth r23.2.1 5) ys33 st29).bind fun r34 =>
(aBin Try.prog true .add 3 (nth r23.2.1 8) (PV.v (.int .i64 1))).bind fun p35 =>
leaveV base lb st20.stk.length Ex.normal [(nth r23.2.1 0), (nth r23.2.1 1), (nth r23.2.1 2), (nth r23.2.1 3), (nth r23.2.1 4), r34.1, (nth r23.2.1 6), (nth r23.2.1 7), p35] r34.2) fun x24 =>
leaveV base lb st20.stk.length x24 [(nth r23.2.1 0), (nth r23.2.1 1), (nth r23.2.1 2), (nth r23.2.1 3), (nth r23.2.1 4), (nth r23.2.1 5), (nth r23.2.1 6), (nth r23.2.1 7), (nth r23.2.1 8)] r23.2.2
noncomputable def S6.b1 (call : CallF) (it : LoopF) (base lb : Nat) (vs41 : List PV) (st42 : St) : Option (Ex × List PV × St) :=
(aBin Try.prog false .lss 3 (nth vs41 8) (nth vs41 7)).bind fun p43 =>
onBool p43 fun b44 => (bif b44 then
some (Ex.normal, [(nth vs41 0), (nth vs41 1), (nth vs41 2), (nth vs41 3), (nth vs41 4), (nth vs41 5), (nth vs41 6), (nth vs41 7), (nth vs41 8)], st42)
else
some ((Ex.exit 2), [(nth vs41 0), (nth vs41 1), (nth vs41 2), (nth vs41 3), (nth vs41 4), (nth vs41 5), (nth vs41 6), (nth vs41 7), (nth vs41 8)], st42)).bind fun r45 =>
seqK r45.1 ((aIndexAddr Try.prog 27 (nth r45.2.1 6) (nth r45.2.1 8)).bind fun p47 =>
(aLoad true 3 p47 r45.2.2).bind fun p48 =>
let q50 : PV := .ptr false r45.2.2.stk.length 0
let st49 := r45.2.2.push [.sl [] .nil, .v (.int .i64 0), .v (.int .i64 0)]
(aStore base 3 q50 p48 st49).bind fun st51 =>
(shift q50 0).bind fun p52 =>
(aLoad false 1 p52 st51).bind fun p53 =>
(rBuildSlice 1 [.sl [] .nil] 1 [(0, p53)]).bind fun p54 =>
(elemsOf st51 p54).bind fun ys55 =>
(rAppend base [.sl [] .nil] 1 24 (nth r45.2.1 5) ys55 st51).bind fun r56 =>
(aBin Try.prog true .add 3 (nth r45.2.1 8) (PV.v (.int .i64 1))).bind fun p57 =>
leaveV base lb st42.stk.length Ex.normal [(nth r45.2.1 0), (nth r45.2.1 1), (nth r45.2.1 2), (nth r45.2.1 3), (nth r45.2.1 4), r56.1, (nth r45.2.1 6), (nth r45.2.1 7), p57] r56.2) fun x46 =>
leaveV base lb st42.stk.length x46 [(nth r45.2.1 0), (nth r45.2.1 1), (nth r45.2.1 2), (nth r45.2.1 3), (nth r45.2.1 4), (nth r45.2.1 5), (nth r45.2.1 6), (nth r45.2.1 7), (nth r45.2.1 8)] r45.2.2
noncomputable def S6.b3 (call : CallF) (it : LoopF) (base lb : Nat) (vs90 : List PV) (st91 : St) : Option (Ex × List PV × St) :=
(aBin Try.prog false .lss 3 (nth vs90 13) (nth vs90 12)).bind fun p92 =>
onBool p92 fun b93 => (bif b93 then
some (Ex.normal, [(nth vs90 0), (nth vs90 1), (nth vs90 2), (nth vs90 3), (nth vs90 4), (nth vs90 5), (nth vs90 6), (nth vs90 7), (nth vs90 8), (nth vs90 9), (nth vs90 10), (nth vs90 11), (nth vs90 12), (nth vs90 13)], st91)
else
some ((Ex.exit 6), [(nth vs90 0), (nth vs90 1), (nth vs90 2), (nth vs90 3), (nth vs90 4), (nth vs90 5), (nth vs90 6), (nth vs90 7), (nth vs90 8), (nth vs90 9), (nth vs90 10), (nth vs90 11), (nth vs90 12), (nth vs90 13)], st91)).bind fun r94 =>
seqK r94.1 ((aIndexAddr Try.prog 31 (nth r94.2.1 11) (nth r94.2.1 13)).bind fun p96 =>
(aLoad true 58 p96 r94.2.2).bind fun p97 =>
let q99 : PV := .ptr false r94.2.2.stk.length 0
let st98 := r94.2.2.push [.v (.int .i64 0), .v (.string ⟨#[]⟩), .v (.int .i64 0), .v (.int .i64 0), .v (.int .i64 0), .v (.int .u64 0), .v (.int .i64 0), .v (.string ⟨#[]⟩), .v (.string ⟨#[]⟩), .sl [] .nil, .v (.int .i64 0), .v (.int .i64 0), .v (.int .i64 0), .v (.string ⟨#[]⟩), .v (.string ⟨#[]⟩), .v (.int .i64 0), .v (.int .i64 0), .v (.int .u64 0), .v (.int .i64 0), .v (.string ⟨#[]⟩), .v (.string ⟨#[]⟩), .sl [] .nil, .v (.int .i64 0), .v (.int .i64 0), .v (.int .i64 0), .v (.int .i64 0), .v (.string ⟨#[]⟩), .v (.int .i64 0), .v (.int .i64 0), .v (.int .i64 0), .v (.string ⟨#[]⟩), .v (.string ⟨#[]⟩), .v (.int .i64 0), .v (.int .i64 0), .v (.int .u64 0), .v (.int .i64 0), .v (.string ⟨#[]⟩), .v (.string ⟨#[]⟩), .sl [] .nil, .v (.int .i64 0), .v (.int .i64 0), .v (.int .i64 0), .v (.int .i64 0), .v (.int .i64 0), .v (.int .i64 0), .v (.int .u64 0), .v (.int .i64 0), .v (.string ⟨#[]⟩), .v (.string ⟨#[]⟩), .sl [] .nil, .v (.int .i64 0), .v (.int .i64 0), .v (.int .i64 0), .sl [] .nil, .sl [] .nil, .sl [] .nil, .v (.int .i64 0), .v (.int .i64 0)]
(aStore base 58 q99 p97 st98).bind fun st100 =>
(aIndexAddr Try.prog 22 (nth r94.2.1 6) (nth r94.2.1 13)).bind fun p101 =>
(aLoad false 1 p101 st100).bind fun p102 =>
(aMax2 Try.prog (nth r94.2.1 4) p102).bind fun p103 =>
(shift q99 0).bind fun p104 =>
(aLoad false 1 p104 st100).bind fun p105 =>
(aBin Try.prog true .eql 3 p105 (PV.v (.int .i64 11))).bind fun p106 =>
onBool p106 fun b107 => (bif b107 then
(shift q99 1).bind fun p109 =>
(aLoad false 1 p109 st100).bind fun p110 =>
(rBuildSlice 1 [.v (.string ⟨#[]⟩)] 1 [(0, p110)]).bind fun p111 =>
(elemsOf st100 p111).bind fun ys112 =>
(rAppend base [.v (.string ⟨#[]⟩)] 1 16 (nth r94.2.1 7) ys112 st100).bind fun r113 =>
some (Ex.normal, [(nth r94.2.1 0), (nth r94.2.1 1), (nth r94.2.1 2), (nth r94.2.1 3), p103, (nth r94.2.1 5), (nth r94.2.1 6), r113.1, (nth r94.2.1 8), (nth r94.2.1 9), (nth r94.2.1 10), (nth r94.2.1 11), (nth r94.2.1 12), (nth r94.2.1 13)], r113.2)
else
some (Ex.normal, [(nth r94.2.1 0), (nth r94.2.1 1), (nth r94.2.1 2), (nth r94.2.1 3), p103, (nth r94.2.1 5), (nth r94.2.1 6), (nth r94.2.1 7), (nth r94.2.1 8), (nth r94.2.1 9), (nth r94.2.1 10), (nth r94.2.1 11), (nth r94.2.1 12), (nth r94.2.1 13)], st100)).bind fun r108 =>
seqK (Ex.outOf 7 r108.1) ((aBin Try.prog true .add 3 (nth r108.2.1 13) (PV.v (.int .i64 1))).bind fun p115 =>
leaveV base lb st91.stk.length Ex.normal [(nth r108.2.1 0), (nth r108.2.1 1), (nth r108.2.1 2), (nth r108.2.1 3), (nth r108.2.1 4), (nth r108.2.1 5), (nth r108.2.1 6), (nth r108.2.1 7), (nth r108.2.1 8), (nth r108.2.1 9), (nth r108.2.1 10), (nth r108.2.1 11), (nth r108.2.1 12), p115] r108.2.2) fun x114 =>
leaveV base lb st91.stk.length x114 [(nth r108.2.1 0), (nth r108.2.1 1), (nth r108.2.1 2), (nth r108.2.1 3), (nth r108.2.1 4), (nth r108.2.1 5), (nth r108.2.1 6), (nth r108.2.1 7), (nth r108.2.1 8), (nth r108.2.1 9), (nth r108.2.1 10), (nth r108.2.1 11), (nth r108.2.1 12), (nth r108.2.1 13)] r108.2.2) fun x95 =>
leaveV base lb st91.stk.length x95 [(nth r94.2.1 0), (nth r94.2.1 1), (nth r94.2.1 2), (nth r94.2.1 3), (nth r94.2.1 4), (nth r94.2.1 5), (nth r94.2.1 6), (nth r94.2.1 7), (nth r94.2.1 8), (nth r94.2.1 9), (nth r94.2.1 10), (nth r94.2.1 11), (nth r94.2.1 12), (nth r94.2.1 13)] r94.2.2
noncomputable def S6.b2 (call : CallF) (it : LoopF) (base lb : Nat) (vs61 : List PV) (st62 : St) : Option (Ex × List PV × St) :=
(aBin Try.prog false .lss 3 (nth vs61 7) (nth vs61 6)).bind fun p63 =>
onBool p63 fun b64 => (bif b64 then
some (Ex.normal, [(nth vs61 0), (nth vs61 1), (nth vs61 2), (nth vs61 3), (nth vs61 4), (nth vs61 5), (nth vs61 6), (nth vs61 7)], st62)
else
some ((Ex.exit 4), [(nth vs61 0), (nth vs61 1), (nth vs61 2), (nth vs61 3), (nth vs61 4), (nth vs61 5), (nth vs61 6), (nth vs61 7)], st62)).bind fun r65 =>
seqK r65.1 ((aIndexAddr Try.prog 61 (nth r65.2.1 5) (nth r65.2.1 7)).bind fun p67 =>
(aLoad false 1 p67 r65.2.2).bind fun p68 =>
(call (.func 9) [canon p68, canon (nth r65.2.1 0)] r65.2.2).bind fun r69 =>
(aExtract r69.1 0).bind fun p70 =>
(aExtract r69.1 1).bind fun p71 =>
(aUn Try.prog .not p71).bind fun p72 =>
onBool p72 fun b73 => (bif b73 then
some (Ex.ret, [(nth r65.2.1 0), (PV.v (.bool false)), (nth r65.2.1 2), (nth r65.2.1 3), (nth r65.2.1 4), p68, (nth r65.2.1 5), (nth r65.2.1 6), (nth r65.2.1 7)], r69.2)
else
some (Ex.normal, [(nth r65.2.1 0), (nth r65.2.1 1), (nth r65.2.1 2), (nth r65.2.1 3), (nth r65.2.1 4), p68, (nth r65.2.1 5), (nth r65.2.1 6), (nth r65.2.1 7)], r69.2)).bind fun r74 =>
seqK r74.1 ((call (.func 9) [canon (nth r74.2.1 5), canon (PV.v (.int .i64 1000))] r74.2.2).bind fun r76 =>
(aExtract r76.1 0).bind fun p77 =>
(aExtract r76.1 1).bind fun p78 =>
(aUn Try.prog .not p78).bind fun p79 =>
onBool p79 fun b80 => (bif b80 then
some (Ex.ret, [(nth r74.2.1 0), (PV.v (.bool false)), (nth r74.2.1 2), (nth r74.2.1 3), (nth r74.2.1 4), (nth r74.2.1 5), (nth r74.2.1 6), (nth r74.2.1 7), (nth r74.2.1 8)], r76.2)
else
some (Ex.normal, [(nth r74.2.1 0), (nth r74.2.1 1), (nth r74.2.1 2), (nth r74.2.1 3), (nth r74.2.1 4), (nth r74.2.1 5), (nth r74.2.1 6), (nth r74.2.1 7), (nth r74.2.1 8)], r76.2)).bind fun r81 =>
seqK r81.1 ((call (.func 19) [canon (nth r81.2.1 5), canon (PV.v (.int .i64 0))] r81.2.2).bind fun r83 =>
(aExtract r83.1 0).bind fun p84 =>
(aExtract r83.1 1).bind fun p85 =>
(aLen Try.prog 31 p84).bind fun p86 =>
(aBin Try.prog false .add 3 (nth r81.2.1 3) p86).bind fun p87 =>
(aLen Try.prog 31 p84).bind fun p88 =>
(it (S6.b3 call it base lb) [(nth r81.2.1 0), (nth r81.2.1 1), (nth r81.2.1 2), p87, (nth r81.2.1 4), (nth r81.2.1 5), p85, (PV.sl [] .nil), (nth r81.2.1 6), (nth r81.2.1 7), (nth r81.2.1 8), p84, p88, (PV.v (.int .i64 0))] r83.2).bind fun r89 =>
seqK (Ex.outOf 6 r89.1) ((call (.func 20) [canon (nth r89.2.1 5)] r89.2.2).bind fun r117 =>
(call (.func 13) [canon r117.1, canon (nth r89.2.1 7)] r117.2).bind fun r118 =>
(aUn Try.prog .not r118.1).bind fun p119 =>
onBool p119 fun b120 => (bif b120 then
some (Ex.ret, [(nth r89.2.1 0), (PV.v (.bool false)), (nth r89.2.1 2), (nth r89.2.1 3), (nth r89.2.1 4), (nth r89.2.1 8), (nth r89.2.1 9), (nth r89.2.1 10)], r118.2)
else
some (Ex.normal, [(nth r89.2.1 0), (nth r89.2.1 1), (nth r89.2.1 2), (nth r89.2.1 3), (nth r89.2.1 4), (nth r89.2.1 8), (nth r89.2.1 9), (nth r89.2.1 10)], r118.2)).bind fun r121 =>
seqK (Ex.outOf 5 r121.1) ((aBin Try.prog true .add 3 (nth r121.2.1 7) (PV.v (.int .i64 1))).bind fun p123 =>
leaveV base lb st62.stk.length Ex.normal [(nth r121.2.1 0), (nth r121.2.1 1), (nth r121.2.1 2), (nth r121.2.1 3), (nth r121.2.1 4), (nth r121.2.1 5), (nth r121.2.1 6), p123] r121.2.2) fun x122 =>
leaveV base lb st62.stk.length x122 [(nth r121.2.1 0), (nth r121.2.1 1), (nth r121.2.1 2), (nth r121.2.1 3), (nth r121.2.1 4), (nth r121.2.1 5), (nth r121.2.1 6), (nth r121.2.1 7)] r121.2.2) fun x116 =>
seqK (Ex.outOf 5 x116) ((aBin Try.prog true .add 3 (nth r89.2.1 10) (PV.v (.int .i64 1))).bind fun p125 =>
leaveV base lb st62.stk.length Ex.normal [(nth r89.2.1 0), (nth r89.2.1 1), (nth r89.2.1 2), (nth r89.2.1 3), (nth r89.2.1 4), (nth r89.2.1 8), (nth r89.2.1 9), p125] r89.2.2) fun x124 =>
leaveV base lb st62.stk.length x124 [(nth r89.2.1 0), (nth r89.2.1 1), (nth r89.2.1 2), (nth r89.2.1 3), (nth r89.2.1 4), (nth r89.2.1 8), (nth r89.2.1 9), (nth r89.2.1 10)] r89.2.2) fun x82 =>
seqK (Ex.outOf 5 x82) ((aBin Try.prog true .add 3 (nth r81.2.1 8) (PV.v (.int .i64 1))).bind fun p127 =>
leaveV base lb st62.stk.length Ex.normal [(nth r81.2.1 0), (nth r81.2.1 1), (nth r81.2.1 2), (nth r81.2.1 3), (nth r81.2.1 4), (nth r81.2.1 6), (nth r81.2.1 7), p127] r81.2.2) fun x126 =>
leaveV base lb st62.stk.length x126 [(nth r81.2.1 0), (nth r81.2.1 1), (nth r81.2.1 2), (nth r81.2.1 3), (nth r81.2.1 4), (nth r81.2.1 6), (nth r81.2.1 7), (nth r81.2.1 8)] r81.2.2) fun x75 =>
seqK (Ex.outOf 5 x75) ((aBin Try.prog true .add 3 (nth r74.2.1 8) (PV.v (.int .i64 1))).bind fun p129 =>
leaveV base lb st62.stk.length Ex.normal [(nth r74.2.1 0), (nth r74.2.1 1), (nth r74.2.1 2), (nth r74.2.1 3), (nth r74.2.1 4), (nth r74.2.1 6), (nth r74.2.1 7), p129] r74.2.2) fun x128 =>
leaveV base lb st62.stk.length x128 [(nth r74.2.1 0), (nth r74.2.1 1), (nth r74.2.1 2), (nth r74.2.1 3), (nth r74.2.1 4), (nth r74.2.1 6), (nth r74.2.1 7), (nth r74.2.1 8)] r74.2.2) fun x66 =>
leaveV base lb st62.stk.length x66 [(nth r65.2.1 0), (nth r65.2.1 1), (nth r65.2.1 2), (nth r65.2.1 3), (nth r65.2.1 4), (nth r65.2.1 5), (nth r65.2.1 6), (nth r65.2.1 7)] r65.2.2
/-- padlock/padlocklaw04.TreeAll -/
noncomputable def S6 (call : CallF) (it : LoopF) (a0 a1 : PV) (st : St) : Option (PV × St) :=
(call (.func 7) [] st).bind fun r1 =>
(aUn Try.prog .not r1.1).bind fun p2 =>
onBool p2 fun b3 => (bif b3 then
some (Ex.ret, [a0, a1, (PV.v (.bool false))], r1.2)
else
some (Ex.normal, [a0, a1, (PV.v (.bool false))], r1.2)).bind fun r4 =>
seqK r4.1 ((aLen Try.prog 22 (nth r4.2.1 0)).bind fun p6 =>
(aBin Try.prog true .gtr 3 p6 (PV.v (.int .i64 400))).bind fun p7 =>
onBool p7 fun b8 => (bif b8 then
some (Ex.ret, [(nth r4.2.1 0), (nth r4.2.1 1), (PV.v (.bool true))], r4.2.2)
else
some (Ex.normal, [(nth r4.2.1 0), (nth r4.2.1 1), (nth r4.2.1 2)], r4.2.2)).bind fun r9 =>
seqK r9.1 ((call (.func 8) [canon (nth r9.2.1 0)] r9.2.2).bind fun r11 =>
let q13 : PV := .ptr false r11.2.stk.length 0
let st12 := r11.2.push [.sl [] .nil, .sl [] .nil, .sl [] .nil, .sl [] .nil]
(aStore st.stk.length 4 q13 r11.1 st12).bind fun st14 =>
(shift q13 2).bind fun p15 =>
(aLoad false 1 p15 st14).bind fun p16 =>
(aLen Try.prog 26 p16).bind fun p17 =>
(it (S6.b0 call it st.stk.length st.lp.length) [(nth r9.2.1 1), (nth r9.2.1 2), q13, (PV.v (.int .i64 0)), (PV.v (.int .i64 (-1))), (PV.sl [] .nil), p16, p17, (PV.v (.int .i64 0))] st14).bind fun r18 =>
seqK (Ex.outOf 0 r18.1) ((shift (nth r18.2.1 2) 3).bind fun p37 =>
(aLoad false 1 p37 r18.2.2).bind fun p38 =>
(aLen Try.prog 27 p38).bind fun p39 =>
(it (S6.b1 call it st.stk.length st.lp.length) [(nth r18.2.1 0), (nth r18.2.1 1), (nth r18.2.1 2), (nth r18.2.1 3), (nth r18.2.1 4), (nth r18.2.1 5), p38, p39, (PV.v (.int .i64 0))] r18.2.2).bind fun r40 =>
seqK (Ex.outOf 2 r40.1) ((aLen Try.prog 61 (nth r40.2.1 5)).bind fun p59 =>
(it (S6.b2 call it st.stk.length st.lp.length) [(nth r40.2.1 0), (nth r40.2.1 1), (nth r40.2.1 2), (nth r40.2.1 3), (nth r40.2.1 4), (nth r40.2.1 5), p59, (PV.v (.int .i64 0))] r40.2.2).bind fun r60 =>
seqK (Ex.outOf 4 r60.1) ((aLoad true 4 (nth r60.2.1 2) r60.2.2).bind fun p131 =>
(call (.func 21) [canon p131] r60.2.2).bind fun r132 =>
(aExtract r132.1 0).bind fun p133 =>
(aExtract r132.1 1).bind fun p134 =>
(aBin Try.prog false .eql 3 p133 (nth r60.2.1 3)).bind fun p135 =>
(onG p135 true (
some (p134, r132.2)) r132.2).bind fun r137 =>
(onG p135 true (
some ((nth r60.2.1 4), r137.2)) r137.2).bind fun r139 =>
(onG p135 true (
(aBin Try.prog false .eql 3 r137.1 r139.1).bind fun p142 =>
some (p142, r139.2)) r139.2).bind fun r141 =>
(aPick p135 r141.1 (PV.v (.bool false))).bind fun p143 =>
fin st.stk.length st.tk.length st.lp.length [p143] r141.2) fun x130 =>
retK x130 (fin st.stk.length st.tk.length st.lp.length [(nth r60.2.1 1)] r60.2.2)) fun x58 =>
retK x58 (fin st.stk.length st.tk.length st.lp.length [(nth r40.2.1 1)] r40.2.2)) fun x36 =>
retK x36 (fin st.stk.length st.tk.length st.lp.length [(nth r18.2.1 1)] r18.2.2)) fun x10 =>
retK x10 (fin st.stk.length st.tk.length st.lp.length [(nth r9.2.1 2)] r9.2.2)) fun x5 =>
retK x5 (fin st.stk.length st.tk.length st.lp.length [(nth r4.2.1 2)] r4.2.2)
theorem S6_eq (a0 a1 : PV) (st : St) : E L (.func 6) [a0, a1] st = S6 (E L) itE a0 a1 st := (E_func' (by rfl) Try.func6 _ _).trans (by kernel_rfl)
/-- padlock/tree.Same$1 -/
noncomputable def S30 (call : CallF) (it : LoopF) (a0 a1 : PV) (st : St) : Option (PV × St) :=
(cellsOf a0).bind fun b1 =>
let q3 : PV := .ptr false st.stk.length 0
let st2 := st.push b1
(cellsOf a1).bind fun b4 =>
let q6 : PV := .ptr false st2.stk.length 0
let st5 := st2.push b4
(shift q3 0).bind fun p7 =>
(aLoad false 1 p7 st5).bind fun p8 =>
(shift q6 0).bind fun p9 =>
(aLoad false 1 p9 st5).bind fun p10 =>
(aBin Try.prog false .eql 9 p8 p10).bind fun p11 =>
(onG p11 true (
(shift q3 1).bind fun p14 =>
some (p14, st5)) st5).bind fun r13 =>
(onG p11 true (
(aLoad false 1 r13.1 r13.2).bind fun p17 =>
some (p17, r13.2)) r13.2).bind fun r16 =>
(onG p11 true (
(shift q6 1).bind fun p20 =>
some (p20, r16.2)) r16.2).bind fun r19 =>
(onG p11 true (
(aLoad false 1 r19.1 r19.2).bind fun p23 =>
some (p23, r19.2)) r19.2).bind fun r22 =>
(onG p11 true (
(call (.func 31) [canon r16.1, canon r22.1, canon (PV.clo (.func 32) [])] r22.2).bind fun r26 =>
some (r26.1, r26.2)) r22.2).bind fun r25 =>
(aPick p11 r25.1 (PV.v (.bool false))).bind fun p27 =>
fin st.stk.length st.tk.length st.lp.length [p27] r25.2
theorem S30_eq (a0 a1 : PV) (st : St) : E L (.func 30) [a0, a1] st = S30 (E L) itE a0 a1 st := (E_func' (by rfl) Try.func30 _ _).trans (by kernel_rfl)
/-- padlock/tree.Same$2 -/
noncomputable def S34 (call : CallF) (it : LoopF) (a0 a1 : PV) (st : St) : Option (PV × St) :=
(cellsOf a0).bind fun b1 =>
let q3 : PV := .ptr false st.stk.length 0
let st2 := st.push b1
(cellsOf a1).bind fun b4 =>
let q6 : PV := .ptr false st2.stk.length 0
let st5 := st2.push b4
(shift q3 0).bind fun p7 =>
(aLoad false 1 p7 st5).bind fun p8 =>
(shift q6 0).bind fun p9 =>
(aLoad false 1 p9 st5).bind fun p10 =>
(aBin Try.prog false .eql 9 p8 p10).bind fun p11 =>
(onG p11 true (
(shift q3 1).bind fun p14 =>
some (p14, st5)) st5).bind fun r13 =>
(onG p11 true (
(aLoad false 1 r13.1 r13.2).bind fun p17 =>
some (p17, r13.2)) r13.2).bind fun r16 =>
(onG p11 true (
(shift q6 1).bind fun p20 =>
some (p20, r16.2)) r16.2).bind fun r19 =>
(onG p11 true (
(aLoad false 1 r19.1 r19.2).bind fun p23 =>
some (p23, r19.2)) r19.2).bind fun r22 =>
(onG p11 true (
(call (.func 31) [canon r16.1, canon r22.1, canon (PV.clo (.func 32) [])] r22.2).bind fun r26 =>
some (r26.1, r26.2)) r22.2).bind fun r25 =>
(aPick p11 r25.1 (PV.v (.bool false))).bind fun p27 =>
(onG p27 true (
(shift q3 2).bind fun p30 =>
some (p30, r25.2)) r25.2).bind fun r29 =>
(onG p27 true (
(aLoad false 1 r29.1 r29.2).bind fun p33 =>
some (p33, r29.2)) r29.2).bind fun r32 =>
(onG p27 true (
(shift q6 2).bind fun p36 =>
some (p36, r32.2)) r32.2).bind fun r35 =>
(onG p27 true (
(aLoad false 1 r35.1 r35.2).bind fun p39 =>
some (p39, r35.2)) r35.2).bind fun r38 =>
(onG p27 true (
(call (.func 10) [canon r32.1, canon r38.1] r38.2).bind fun r42 =>
some (r42.1, r42.2)) r38.2).bind fun r41 =>
(aPick p27 r41.1 (PV.v (.bool false))).bind fun p43 =>
fin st.stk.length st.tk.length st.lp.length [p43] r41.2
theorem S34_eq (a0 a1 : PV) (st : St) : E L (.func 34) [a0, a1] st = S34 (E L) itE a0 a1 st := (E_func' (by rfl) Try.func34 _ _).trans (by kernel_rfl)
/-- padlock/tree.Same$3 -/
noncomputable def S36 (call : CallF) (it : LoopF) (a0 a1 : PV) (st : St) : Option (PV × St) :=
(cellsOf a0).bind fun b1 =>
let q3 : PV := .ptr false st.stk.length 0
let st2 := st.push b1
(cellsOf a1).bind fun b4 =>
let q6 : PV := .ptr false st2.stk.length 0
let st5 := st2.push b4
(shift q3 0).bind fun p7 =>
(aLoad false 1 p7 st5).bind fun p8 =>
(shift q6 0).bind fun p9 =>
(aLoad false 1 p9 st5).bind fun p10 =>
(call (.func 10) [canon p8, canon p10] st5).bind fun r11 =>
fin st.stk.length st.tk.length st.lp.length [r11.1] r11.2
theorem S36_eq (a0 a1 : PV) (st : St) : E L (.func 36) [a0, a1] st = S36 (E L) itE a0 a1 st := (E_func' (by rfl) Try.func36 _ _).trans (by kernel_rfl)
/-- padlock/tree.All$1 -/
noncomputable def S45 (call : CallF) (it : LoopF) (a0 a1 : PV) (st : St) : Option (PV × St) :=
(aLoad false 1 a1 st).bind fun p1 =>
(call (.func 46) [canon p1, canon (PV.v (.int .i64 0)), canon a0] st).bind fun r2 =>
fin st.stk.length st.tk.length st.lp.length [] r2.2
theorem S45_eq (a0 a1 : PV) (st : St) : E L (.func 45) [a0, a1] st = S45 (E L) itE a0 a1 st := (E_func' (by rfl) Try.func45 _ _).trans (by kernel_rfl)
end Go.Proofs.Ytkbhejcfejembaa.S
