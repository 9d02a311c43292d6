/- What the abstract machine's words say at this program's types: written by my program mkF.py. No condition. -/
import Derived.Test.YtkbhejcfejembaaM28
import Derived.Test.YtkbhejcfejembaaProg
import Derived.KernelRfl
set_option linter.all false
namespace Go.Proofs.Ytkbhejcfejembaa.S
open Go Go.AM Go.Proofs
set_option linter.unusedVariables false
theorem beq_4 (c x y : Bool) : aBin Try.prog c .eql 4 (.v (.bool x)) (.v (.bool y)) = some (.v (.bool (x == y))) := by kernel_rfl
theorem bne_4 (c x y : Bool) : aBin Try.prog c .neq 4 (.v (.bool x)) (.v (.bool y)) = some (.v (.bool (!(x == y)))) := by kernel_rfl
theorem under_40 : Try.prog.underlying 40 = some (.struct (Try.prog.fieldsOf 40)) := by kernel_rfl
theorem steq_40 (c : Bool) (x0 y0 : Int) (x1 y1 : ByteArray) : aBin Try.prog c .eql 40 (.agg [(.v (.int .i64 x0)), (.v (.string x1))]) (.agg [(.v (.int .i64 y0)), (.v (.string y1))]) = some (.v (.bool (((x0 == y0) && ((x1 == y1) && true))))) := by kernel_rfl
theorem stne_40 (c : Bool) (x0 y0 : Int) (x1 y1 : ByteArray) : aBin Try.prog c .neq 40 (.agg [(.v (.int .i64 x0)), (.v (.string x1))]) (.agg [(.v (.int .i64 y0)), (.v (.string y1))]) = some (.v (.bool (!(((x0 == y0) && ((x1 == y1) && true)))))) := by kernel_rfl
theorem conv_103_9 (es : List (List PV)) (c : Cap) : aConv Try.prog 103 9 (.sl es c) = (bytesOf es).bind fun bs => some (.v (.string ⟨bs.toArray⟩)) := by kernel_rfl
theorem conv_3_38 (n : Int) : aConv Try.prog 3 38 (.v (.int .i64 n)) = some (.v (.int .u64 (IntKind.u64.wrap n))) := by kernel_rfl
theorem conv_3_59 (n : Int) : aConv Try.prog 3 59 (.v (.int .i64 n)) = some (.v (.int .u64 (IntKind.u64.wrap n))) := by kernel_rfl
theorem conv_38_3 (n : Int) : aConv Try.prog 38 3 (.v (.int .u64 n)) = some (.v (.int .i64 (IntKind.i64.wrap n))) := by kernel_rfl
theorem conv_38_5 (n : Int) : aConv Try.prog 38 5 (.v (.int .u64 n)) = some (.v (.int .u8 (IntKind.u8.wrap n))) := by kernel_rfl
theorem conv_59_3 (n : Int) : aConv Try.prog 59 3 (.v (.int .u64 n)) = some (.v (.int .i64 (IntKind.i64.wrap n))) := by kernel_rfl
theorem ia_107 (es : List (List PV)) (c : Cap) (k : IntKind) (n : Int) : aIndexAddr Try.prog 107 (.sl es c) (.v (.int k n)) = bif inRange n es.length then (es[n.toNat]?).bind fun e => bif Nat.beq e.length 1 && true then some (.fp e 0) else none else none := by kernel_rfl
theorem iar_107 (h : Bool) (b off len sz : Nat) (k : IntKind) (n : Int) : aIndexAddr Try.prog 107 (.rs h b off len sz) (.v (.int k n)) = bif inRange n len && Nat.beq 1 sz && !Nat.beq sz 0 then some (.ptr h b (off + n.toNat * sz)) else none := by kernel_rfl
theorem ia_22 (es : List (List PV)) (c : Cap) (k : IntKind) (n : Int) : aIndexAddr Try.prog 22 (.sl es c) (.v (.int k n)) = bif inRange n es.length then (es[n.toNat]?).bind fun e => bif Nat.beq e.length 1 && true then some (.fp e 0) else none else none := by kernel_rfl
theorem iar_22 (h : Bool) (b off len sz : Nat) (k : IntKind) (n : Int) : aIndexAddr Try.prog 22 (.rs h b off len sz) (.v (.int k n)) = bif inRange n len && Nat.beq 1 sz && !Nat.beq sz 0 then some (.ptr h b (off + n.toNat * sz)) else none := by kernel_rfl
theorem ia_24 (es : List (List PV)) (c : Cap) (k : IntKind) (n : Int) : aIndexAddr Try.prog 24 (.sl es c) (.v (.int k n)) = bif inRange n es.length then (es[n.toNat]?).bind fun e => bif Nat.beq e.length 4 && true then some (.fp e 0) else none else none := by kernel_rfl
theorem iar_24 (h : Bool) (b off len sz : Nat) (k : IntKind) (n : Int) : aIndexAddr Try.prog 24 (.rs h b off len sz) (.v (.int k n)) = bif inRange n len && Nat.beq 4 sz && !Nat.beq sz 0 then some (.ptr h b (off + n.toNat * sz)) else none := by kernel_rfl
theorem ia_25 (es : List (List PV)) (c : Cap) (k : IntKind) (n : Int) : aIndexAddr Try.prog 25 (.sl es c) (.v (.int k n)) = bif inRange n es.length then (es[n.toNat]?).bind fun e => bif Nat.beq e.length 5 && true then some (.fp e 0) else none else none := by kernel_rfl
theorem iar_25 (h : Bool) (b off len sz : Nat) (k : IntKind) (n : Int) : aIndexAddr Try.prog 25 (.rs h b off len sz) (.v (.int k n)) = bif inRange n len && Nat.beq 5 sz && !Nat.beq sz 0 then some (.ptr h b (off + n.toNat * sz)) else none := by kernel_rfl
theorem ia_26 (es : List (List PV)) (c : Cap) (k : IntKind) (n : Int) : aIndexAddr Try.prog 26 (.sl es c) (.v (.int k n)) = bif inRange n es.length then (es[n.toNat]?).bind fun e => bif Nat.beq e.length 5 && true then some (.fp e 0) else none else none := by kernel_rfl
theorem iar_26 (h : Bool) (b off len sz : Nat) (k : IntKind) (n : Int) : aIndexAddr Try.prog 26 (.rs h b off len sz) (.v (.int k n)) = bif inRange n len && Nat.beq 5 sz && !Nat.beq sz 0 then some (.ptr h b (off + n.toNat * sz)) else none := by kernel_rfl
theorem ia_27 (es : List (List PV)) (c : Cap) (k : IntKind) (n : Int) : aIndexAddr Try.prog 27 (.sl es c) (.v (.int k n)) = bif inRange n es.length then (es[n.toNat]?).bind fun e => bif Nat.beq e.length 3 && true then some (.fp e 0) else none else none := by kernel_rfl
theorem iar_27 (h : Bool) (b off len sz : Nat) (k : IntKind) (n : Int) : aIndexAddr Try.prog 27 (.rs h b off len sz) (.v (.int k n)) = bif inRange n len && Nat.beq 3 sz && !Nat.beq sz 0 then some (.ptr h b (off + n.toNat * sz)) else none := by kernel_rfl
theorem ia_31 (es : List (List PV)) (c : Cap) (k : IntKind) (n : Int) : aIndexAddr Try.prog 31 (.sl es c) (.v (.int k n)) = bif inRange n es.length then (es[n.toNat]?).bind fun e => bif Nat.beq e.length 58 && true then some (.fp e 0) else none else none := by kernel_rfl
theorem iar_31 (h : Bool) (b off len sz : Nat) (k : IntKind) (n : Int) : aIndexAddr Try.prog 31 (.rs h b off len sz) (.v (.int k n)) = bif inRange n len && Nat.beq 58 sz && !Nat.beq sz 0 then some (.ptr h b (off + n.toNat * sz)) else none := by kernel_rfl
theorem ia_41 (es : List (List PV)) (c : Cap) (k : IntKind) (n : Int) : aIndexAddr Try.prog 41 (.sl es c) (.v (.int k n)) = bif inRange n es.length then (es[n.toNat]?).bind fun e => bif Nat.beq e.length 9 && true then some (.fp e 0) else none else none := by kernel_rfl
theorem iar_41 (h : Bool) (b off len sz : Nat) (k : IntKind) (n : Int) : aIndexAddr Try.prog 41 (.rs h b off len sz) (.v (.int k n)) = bif inRange n len && Nat.beq 9 sz && !Nat.beq sz 0 then some (.ptr h b (off + n.toNat * sz)) else none := by kernel_rfl
theorem ia_47 (es : List (List PV)) (c : Cap) (k : IntKind) (n : Int) : aIndexAddr Try.prog 47 (.sl es c) (.v (.int k n)) = bif inRange n es.length then (es[n.toNat]?).bind fun e => bif Nat.beq e.length 1 && true then some (.fp e 0) else none else none := by kernel_rfl
theorem iar_47 (h : Bool) (b off len sz : Nat) (k : IntKind) (n : Int) : aIndexAddr Try.prog 47 (.rs h b off len sz) (.v (.int k n)) = bif inRange n len && Nat.beq 1 sz && !Nat.beq sz 0 then some (.ptr h b (off + n.toNat * sz)) else none := by kernel_rfl
theorem ia_61 (es : List (List PV)) (c : Cap) (k : IntKind) (n : Int) : aIndexAddr Try.prog 61 (.sl es c) (.v (.int k n)) = bif inRange n es.length then (es[n.toNat]?).bind fun e => bif Nat.beq e.length 1 && true then some (.fp e 0) else none else none := by kernel_rfl
theorem iar_61 (h : Bool) (b off len sz : Nat) (k : IntKind) (n : Int) : aIndexAddr Try.prog 61 (.rs h b off len sz) (.v (.int k n)) = bif inRange n len && Nat.beq 1 sz && !Nat.beq sz 0 then some (.ptr h b (off + n.toNat * sz)) else none := by kernel_rfl
theorem len_22 (es : List (List PV)) (c : Cap) : aLen Try.prog 22 (.sl es c) = some (.v (.int .i64 es.length)) := by kernel_rfl
theorem lenr_22 (h : Bool) (b off n sz : Nat) : aLen Try.prog 22 (.rs h b off n sz) = some (.v (.int .i64 n)) := by kernel_rfl
theorem len_24 (es : List (List PV)) (c : Cap) : aLen Try.prog 24 (.sl es c) = some (.v (.int .i64 es.length)) := by kernel_rfl
theorem lenr_24 (h : Bool) (b off n sz : Nat) : aLen Try.prog 24 (.rs h b off n sz) = some (.v (.int .i64 n)) := by kernel_rfl
theorem len_25 (es : List (List PV)) (c : Cap) : aLen Try.prog 25 (.sl es c) = some (.v (.int .i64 es.length)) := by kernel_rfl
theorem lenr_25 (h : Bool) (b off n sz : Nat) : aLen Try.prog 25 (.rs h b off n sz) = some (.v (.int .i64 n)) := by kernel_rfl
theorem len_26 (es : List (List PV)) (c : Cap) : aLen Try.prog 26 (.sl es c) = some (.v (.int .i64 es.length)) := by kernel_rfl
theorem lenr_26 (h : Bool) (b off n sz : Nat) : aLen Try.prog 26 (.rs h b off n sz) = some (.v (.int .i64 n)) := by kernel_rfl
theorem len_27 (es : List (List PV)) (c : Cap) : aLen Try.prog 27 (.sl es c) = some (.v (.int .i64 es.length)) := by kernel_rfl
theorem lenr_27 (h : Bool) (b off n sz : Nat) : aLen Try.prog 27 (.rs h b off n sz) = some (.v (.int .i64 n)) := by kernel_rfl
theorem len_31 (es : List (List PV)) (c : Cap) : aLen Try.prog 31 (.sl es c) = some (.v (.int .i64 es.length)) := by kernel_rfl
theorem lenr_31 (h : Bool) (b off n sz : Nat) : aLen Try.prog 31 (.rs h b off n sz) = some (.v (.int .i64 n)) := by kernel_rfl
theorem len_41 (es : List (List PV)) (c : Cap) : aLen Try.prog 41 (.sl es c) = some (.v (.int .i64 es.length)) := by kernel_rfl
theorem lenr_41 (h : Bool) (b off n sz : Nat) : aLen Try.prog 41 (.rs h b off n sz) = some (.v (.int .i64 n)) := by kernel_rfl
theorem len_47 (es : List (List PV)) (c : Cap) : aLen Try.prog 47 (.sl es c) = some (.v (.int .i64 es.length)) := by kernel_rfl
theorem lenr_47 (h : Bool) (b off n sz : Nat) : aLen Try.prog 47 (.rs h b off n sz) = some (.v (.int .i64 n)) := by kernel_rfl
theorem len_61 (es : List (List PV)) (c : Cap) : aLen Try.prog 61 (.sl es c) = some (.v (.int .i64 es.length)) := by kernel_rfl
theorem lenr_61 (h : Bool) (b off n sz : Nat) : aLen Try.prog 61 (.rs h b off n sz) = some (.v (.int .i64 n)) := by kernel_rfl
theorem slc_31 (es : List (List PV)) (c : Cap) (lo hi : Option PV) : aSlice Try.prog 31 (.sl es c) lo hi none = (bnd hi es.length es.length).bind fun h => (bnd lo 0 h).bind fun l => bif !okSz 58 es then none else some (.sl ((es.take h).drop l) (sliceCap c h es.length false)) := by kernel_rfl
end Go.Proofs.Ytkbhejcfejembaa.S
