/- How the functions of this seat read, printed by program; each by one computation the same as the function's body. -/
import Derived.Test.YtmckcemeciojhaaShCode
import Derived.Test.YtmckcemeciojhaaProg
import Derived.KernelRfl
namespace Go.Proofs.Try
open Go Go.Sh Go.RowKit
def A3 : Ann := Ann.mk [(19, [(1, Ty.s), (6, Ty.pn), (7, Ty.pn), (8, Ty.i IntKind.i64), (9, Ty.i IntKind.i64), (14, Ty.s), (15, Ty.i IntKind.i64)]), (7, [(1, Ty.s), (6, Ty.pn), (7, Ty.pn), (8, Ty.i IntKind.i64)])] [] [(24, [0, 2, 3, 4, 5, 1, 6, 7, 8, 10, 9, 11, 12, 13])]
def G3 (a0 : Sl) (a1 : Sl) (h : Hp) (Q : Value → Hp → Prop) : Prop :=
  callK prog 11 [] h fun (v1 : Value) (h1 : Hp) =>
    ∃ (t1 : Bool),
      v1 = Value.bool t1 ∧
        callK prog 12 [vs a0] h1 fun (v2 : Value) (h2 : Hp) =>
          ∃ (o1 : Option Pt),
            v2 = vpn o1 ∧
              ifB (!t1) (Q (Value.bool t1) h2)
                (ifB o1.isNone (Q (Value.bool t1) h2)
                  (ifB (decide (60 < (↑a1.len : Int))) (Q (Value.bool t1) h2)
                    (newK h2 (Obj.cells #[vs a0, Value.int IntKind.i64 0] 29) fun (b1 : Nat) (h3 : Hp) =>
                      ∃ (J1 : Sl → Option Pt → Option Pt → Int → Hp → Nat → Prop),
                        (∃ (k1 : Nat), J1 a1 o1 (some { b := b1, o := 0 }) 0 h3 k1) ∧
                          ∀ (s1 : Sl) (o2 o3 : Option Pt) (n1 : Int) (h4 : Hp) (k2 : Nat),
                            J1 s1 o2 o3 n1 h4 k2 →
                              ifB (decide (n1 < (↑s1.len : Int)))
                                (∃ (q1 : Pt),
                                  s1.q = some q1 ∧
                                    0 ≤ n1 ∧
                                      n1 + 1 ≤ (↑s1.len : Int) ∧
                                        ∃ (n2 : Int),
                                          hcell h4 q1.b (q1.o + n1.toNat * 1) = some (Value.int IntKind.i64 n2) ∧
                                            ifB (decide (min n2 50 < 1))
                                              (callK prog 13 [vpn o2] h4 fun (v3 : Value) (h5 : Hp) =>
                                                ∃ (x1 : UInt64),
                                                  ∃ (n3 : Int),
                                                    v3 = Value.tuple #[vu x1, Value.int IntKind.i64 n3] ∧
                                                      callK prog 14 [vpn o3] h5 fun (v4 : Value) (h6 : Hp) =>
                                                        ∃ (x2 : UInt64),
                                                          ∃ (n4 : Int),
                                                            v4 = Value.tuple #[vu x2, Value.int IntKind.i64 n4] ∧
                                                              ifB (!decide (x1 = x2)) (Q (Value.bool false) h6)
                                                                (ifB (!decide (n3 = n4)) (Q (Value.bool false) h6)
                                                                  (callK prog 15 [vpn o2, Value.int IntKind.i64 (min n2 50)] h6 fun (v5 : Value) (h7 : Hp) =>
                                                                    ∃ (s2 : Sl),
                                                                      v5 = vs s2 ∧
                                                                        ifB (!decide ((↑s2.len : Int) = 0)) (Q (Value.bool false) h7)
                                                                          (∃ (q2 : Pt),
                                                                            o3 = some q2 ∧
                                                                              ∃ (n5 : Int),
                                                                                hcell h7 q2.b (q2.o + 1) = some (Value.int IntKind.i64 n5) ∧
                                                                                  callK prog 16 [vpn o2] h7 fun (v6 : Value) (h8 : Hp) =>
                                                                                    ∃ (n6 : Int),
                                                                                      v6 = Value.int IntKind.i64 n6 ∧
                                                                                        (hcell h8 q2.b (q2.o + 1) = some (Value.int IntKind.i64 n5) ∧ True) ∧
                                                                                          ifB (!decide (n6 = n5)) (Q (Value.bool false) h8)
                                                                                            (callK prog 17 [vpn o2] h8 fun (v7 : Value) (h9 : Hp) =>
                                                                                              ∃ (t2 : Bool),
                                                                                                v7 = Value.bool t2 ∧
                                                                                                  callK prog 18 [vpn o3] h9 fun (v8 : Value) (h10 : Hp) =>
                                                                                                    ∃ (t3 : Bool),
                                                                                                      v8 = Value.bool t3 ∧
                                                                                                        ifB (!t2 == t3) (Q (Value.bool false) h10) (∃ (k3 : Nat), k3 < k2 ∧ J1 s1 o2 o3 (wrap64 (n1 + 1)) h10 k3))))))
                                              (callK prog 15 [vpn o2, Value.int IntKind.i64 (min n2 50)] h4 fun (v9 : Value) (h11 : Hp) =>
                                                ∃ (s3 : Sl),
                                                  v9 = vs s3 ∧
                                                    ifB (!decide ((↑s3.len : Int) = min n2 50)) (Q (Value.bool false) h11)
                                                      (∃ (J2 : Sl → Option Pt → Option Pt → Int → Int → Sl → Int → Hp → Nat → Prop),
                                                        (∃ (k4 : Nat), J2 s1 o2 o3 n1 (min n2 50) s3 0 h11 k4) ∧
                                                          ∀ (s4 : Sl) (o4 o5 : Option Pt) (n7 n8 : Int) (s5 : Sl) (n9 : Int) (h12 : Hp) (k5 : Nat),
                                                            J2 s4 o4 o5 n7 n8 s5 n9 h12 k5 →
                                                              ifB (decide (n9 < n8))
                                                                (callK prog 14 [vpn o5] h12 fun (v10 : Value) (h13 : Hp) =>
                                                                  ∃ (x3 : UInt64),
                                                                    ∃ (n10 : Int),
                                                                      v10 = Value.tuple #[vu x3, Value.int IntKind.i64 n10] ∧
                                                                        ∃ (q3 : Pt),
                                                                          s5.q = some q3 ∧
                                                                            0 ≤ n9 ∧
                                                                              n9 + 1 ≤ (↑s5.len : Int) ∧
                                                                                ∃ (x4 : UInt64),
                                                                                  hcell h13 q3.b (q3.o + n9.toNat * 1) = some (vu x4) ∧
                                                                                    ifB (!decide (x4 = x3)) (Q (Value.bool false) h13) (∃ (k6 : Nat), k6 < k5 ∧ J2 s4 o4 o5 n7 n8 s5 (wrap64 (n9 + 1)) h13 k6))
                                                                (∃ (q4 : Pt),
                                                                  o5 = some q4 ∧
                                                                    ∃ (n11 : Int),
                                                                      hcell h12 q4.b (q4.o + 1) = some (Value.int IntKind.i64 n11) ∧
                                                                        callK prog 16 [vpn o4] h12 fun (v11 : Value) (h14 : Hp) =>
                                                                          ∃ (n12 : Int),
                                                                            v11 = Value.int IntKind.i64 n12 ∧
                                                                              (hcell h14 q4.b (q4.o + 1) = some (Value.int IntKind.i64 n11) ∧ True) ∧
                                                                                ifB (!decide (n12 = n11)) (Q (Value.bool false) h14)
                                                                                  (callK prog 17 [vpn o4] h14 fun (v12 : Value) (h15 : Hp) =>
                                                                                    ∃ (t4 : Bool),
                                                                                      v12 = Value.bool t4 ∧
                                                                                        callK prog 18 [vpn o5] h15 fun (v13 : Value) (h16 : Hp) =>
                                                                                          ∃ (t5 : Bool),
                                                                                            v13 = Value.bool t5 ∧
                                                                                              ifB (!t4 == t5) (Q (Value.bool false) h16) (∃ (k7 : Nat), k7 < k2 ∧ J1 s4 o4 o5 (wrap64 (n7 + 1)) h16 k7))))))
                                (Q (Value.bool true) h4))))
theorem c3 (a0 : Sl) (a1 : Sl) {h : Hp} {Q : Value → Hp → Prop} (hG : G3 a0 a1 h Q) : callK prog 3 (SV.vals [SV.s a0, SV.s a1]) h Q :=
  calls_of_bodyK A3 (by kernel_rfl) func3 (by kernel_rfl) [SV.s a0, SV.s a1] (of_decide_eq_true (by kernel_rfl)) (Eq.mp (by kernel_rfl : G3 a0 a1 h Q = bodyK prog f3 A3 Q [SV.s a0, SV.s a1] h) hG)

def A4 : Ann := Ann.mk [(19, [(0, Ty.s), (7, Ty.pn), (11, Ty.i IntKind.i64)]), (13, [(0, Ty.s), (1, Ty.i IntKind.i64), (7, Ty.pn), (8, Ty.s), (10, Ty.i IntKind.i64)]), (9, [(0, Ty.s), (1, Ty.i IntKind.i64), (6, Ty.s), (7, Ty.pn), (8, Ty.s), (9, Ty.i IntKind.i64)])] [] [(15, [0, 1, 2, 3, 4, 5, 6, 7, 8])]
def G4 (a0 : Sl) (a1 : Int) (h : Hp) (Q : Value → Hp → Prop) : Prop :=
  callK prog 11 [] h fun (v1 : Value) (h1 : Hp) =>
    ∃ (t1 : Bool),
      v1 = Value.bool t1 ∧
        newK h1 (Obj.cells #[] 30) fun (b1 : Nat) (h2 : Hp) =>
          appK prog 22 { p := some { b := b1, o := 0 }, len := 0, cap := 0 } (SV.s a0) h2 fun (s1 : Sl) (h3 : Hp) =>
            callK prog 12 [vs s1] h3 fun (v2 : Value) (h4 : Hp) =>
              ∃ (o1 : Option Pt),
                v2 = vpn o1 ∧
                  ifB (!t1) (Q (Value.bool false) h4)
                    (ifB o1.isNone (Q (Value.bool false) h4)
                      (callK prog 15 [vpn o1, Value.int IntKind.i64 (max 0 (min a1 (↑a0.len : Int)))] h4 fun (v3 : Value) (h5 : Hp) =>
                        ∃ (s2 : Sl),
                          v3 = vs s2 ∧
                            ∃ (J1 : Sl → Int → Sl → Option Pt → Sl → Int → Hp → Nat → Prop),
                              (∃ (k1 : Nat), J1 a0 (max 0 (min a1 (↑a0.len : Int))) s1 o1 s2 0 h5 k1) ∧
                                ∀ (s3 : Sl) (n1 : Int) (s4 : Sl) (o2 : Option Pt) (s5 : Sl) (n2 : Int) (h6 : Hp) (k2 : Nat),
                                  J1 s3 n1 s4 o2 s5 n2 h6 k2 →
                                    ifB (decide (n2 < (↑s4.len : Int)))
                                      (∃ (q1 : Pt),
                                        s4.q = some q1 ∧
                                          0 ≤ n2 ∧
                                            n2 + 1 ≤ (↑s4.len : Int) ∧
                                              ∃ (x1 : UInt64),
                                                hcell h6 q1.b (q1.o + n2.toNat * 1) = some (vu x1) ∧
                                                  ∃ (q2 : Pt),
                                                    s4.q = some q2 ∧
                                                      0 ≤ n2 ∧
                                                        n2 + 1 ≤ (↑s4.len : Int) ∧
                                                          storeK h6 { b := q2.b, o := q2.o + n2.toNat * 1 } [vu (x1 + 1)] fun (h7 : Hp) => ∃ (k3 : Nat), k3 < k2 ∧ J1 s3 n1 s4 o2 s5 (wrap64 (n2 + 1)) h7 k3)
                                      (∃ (J2 : Sl → Int → Option Pt → Sl → Int → Hp → Nat → Prop),
                                        (∃ (k4 : Nat), J2 s3 n1 o2 s5 0 h6 k4) ∧
                                          ∀ (s6 : Sl) (n3 : Int) (o3 : Option Pt) (s7 : Sl) (n4 : Int) (h8 : Hp) (k5 : Nat),
                                            J2 s6 n3 o3 s7 n4 h8 k5 →
                                              ifB (decide (n4 < (↑s7.len : Int)))
                                                (∃ (q3 : Pt),
                                                  s7.q = some q3 ∧
                                                    0 ≤ n4 ∧
                                                      n4 + 1 ≤ (↑s7.len : Int) ∧
                                                        ∃ (x2 : UInt64),
                                                          hcell h8 q3.b (q3.o + n4.toNat * 1) = some (vu x2) ∧
                                                            ∃ (q4 : Pt),
                                                              s6.q = some q4 ∧
                                                                0 ≤ n4 ∧
                                                                  n4 + 1 ≤ (↑s6.len : Int) ∧
                                                                    ∃ (x3 : UInt64),
                                                                      hcell h8 q4.b (q4.o + n4.toNat * 1) = some (vu x3) ∧
                                                                        ifB (!decide (x2 = x3)) (Q (Value.bool false) h8)
                                                                          (∃ (q5 : Pt),
                                                                            s7.q = some q5 ∧
                                                                              0 ≤ n4 ∧
                                                                                n4 + 1 ≤ (↑s7.len : Int) ∧
                                                                                  storeK h8 { b := q5.b, o := q5.o + n4.toNat * 1 } [vu 0] fun (h9 : Hp) => ∃ (k6 : Nat), k6 < k5 ∧ J2 s6 n3 o3 s7 (wrap64 (n4 + 1)) h9 k6))
                                                (∃ (J3 : Sl → Option Pt → Int → Hp → Nat → Prop),
                                                  (∃ (k7 : Nat), J3 s6 o3 n3 h8 k7) ∧
                                                    ∀ (s8 : Sl) (o4 : Option Pt) (n5 : Int) (h10 : Hp) (k8 : Nat),
                                                      J3 s8 o4 n5 h10 k8 →
                                                        ifB (decide (n5 < (↑s8.len : Int)))
                                                          (callK prog 13 [vpn o4] h10 fun (v4 : Value) (h11 : Hp) =>
                                                            ∃ (x4 : UInt64),
                                                              ∃ (n6 : Int),
                                                                v4 = Value.tuple #[vu x4, Value.int IntKind.i64 n6] ∧
                                                                  ∃ (q6 : Pt),
                                                                    s8.q = some q6 ∧
                                                                      0 ≤ n5 ∧
                                                                        n5 + 1 ≤ (↑s8.len : Int) ∧
                                                                          ∃ (x5 : UInt64),
                                                                            hcell h11 q6.b (q6.o + n5.toNat * 1) = some (vu x5) ∧
                                                                              ifB (!decide (x4 = x5)) (Q (Value.bool false) h11)
                                                                                (ifB (!decide (n6 = n5)) (Q (Value.bool false) h11)
                                                                                  (callK prog 17 [vpn o4] h11 fun (v5 : Value) (h12 : Hp) =>
                                                                                    ∃ (t2 : Bool), v5 = Value.bool t2 ∧ ifB t2 (Q (Value.bool false) h12) (∃ (k9 : Nat), k9 < k8 ∧ J3 s8 o4 (wrap64 (n5 + 1)) h12 k9))))
                                                          (callK prog 13 [vpn o4] h10 fun (v6 : Value) (h13 : Hp) =>
                                                            ∃ (x6 : UInt64),
                                                              ∃ (n7 : Int),
                                                                v6 = Value.tuple #[vu x6, Value.int IntKind.i64 n7] ∧
                                                                  ifB (decide (n7 = (↑s8.len : Int)))
                                                                    (callK prog 17 [vpn o4] h13 fun (v7 : Value) (h14 : Hp) =>
                                                                      ∃ (t3 : Bool),
                                                                        v7 = Value.bool t3 ∧
                                                                          ifB t3
                                                                            (callK prog 16 [vpn o4] h14 fun (v8 : Value) (h15 : Hp) =>
                                                                              ∃ (n8 : Int), v8 = Value.int IntKind.i64 n8 ∧ Q (Value.bool (decide (n8 = wrap64 ((↑s8.len : Int) + 1)))) h15)
                                                                            (Q (Value.bool false) h14))
                                                                    (Q (Value.bool false) h13))))))
theorem c4 (a0 : Sl) (a1 : Int) {h : Hp} {Q : Value → Hp → Prop} (hG : G4 a0 a1 h Q) : callK prog 4 (SV.vals [SV.s a0, SV.i IntKind.i64 a1]) h Q :=
  calls_of_bodyK A4 (by kernel_rfl) func4 (by kernel_rfl) [SV.s a0, SV.i IntKind.i64 a1] (of_decide_eq_true (by kernel_rfl)) (Eq.mp (by kernel_rfl : G4 a0 a1 h Q = bodyK prog f4 A4 Q [SV.s a0, SV.i IntKind.i64 a1] h) hG)

-- (diff) toU 0 ### 0
-- (diff) toU 0 ### 0
def A5 : Ann := Ann.mk [(10, [(0, Ty.s), (6, Ty.pn), (7, Ty.pn), (8, Ty.s), (9, Ty.i IntKind.i64)])] [] []
def G5 (a0 : Sl) (a1 : Int) (h : Hp) (Q : Value → Hp → Prop) : Prop :=
  callK prog 11 [] h fun (v1 : Value) (h1 : Hp) =>
    ∃ (t1 : Bool),
      v1 = Value.bool t1 ∧
        callK prog 12 [vs a0] h1 fun (v2 : Value) (h2 : Hp) =>
          ∃ (o1 : Option Pt),
            v2 = vpn o1 ∧
              callK prog 12 [vs a0] h2 fun (v3 : Value) (h3 : Hp) =>
                ∃ (o2 : Option Pt),
                  v3 = vpn o2 ∧
                    ifB (!t1) (ifB t1 (ifB (!o1.isNone) (Q (Value.bool !o2.isNone) h3) (Q (Value.bool false) h3)) (Q (Value.bool false) h3))
                      (ifB o1.isNone (ifB t1 (ifB (!o1.isNone) (Q (Value.bool !o2.isNone) h3) (Q (Value.bool false) h3)) (Q (Value.bool false) h3))
                        (ifB o2.isNone (ifB t1 (ifB (!o1.isNone) (Q (Value.bool !o2.isNone) h3) (Q (Value.bool false) h3)) (Q (Value.bool false) h3))
                          (ifB (decide (200 < a1)) (ifB t1 (ifB (!o1.isNone) (Q (Value.bool !o2.isNone) h3) (Q (Value.bool false) h3)) (Q (Value.bool false) h3))
                            (callK prog 15 [vpn o1, Value.int IntKind.i64 a1] h3 fun (v4 : Value) (h4 : Hp) =>
                              ∃ (s1 : Sl),
                                v4 = vs s1 ∧
                                  ifB (!decide ((↑s1.len : Int) = max a1 0)) (Q (Value.bool false) h4)
                                    (∃ (J1 : Sl → Option Pt → Option Pt → Sl → Int → Hp → Nat → Prop),
                                      (∃ (k1 : Nat), J1 a0 o1 o2 s1 0 h4 k1) ∧
                                        ∀ (s2 : Sl) (o3 o4 : Option Pt) (s3 : Sl) (n1 : Int) (h5 : Hp) (k2 : Nat),
                                          J1 s2 o3 o4 s3 n1 h5 k2 →
                                            ifB (decide (n1 < (↑s3.len : Int)))
                                              (callK prog 13 [vpn o4] h5 fun (v5 : Value) (h6 : Hp) =>
                                                ∃ (x1 : UInt64),
                                                  ∃ (n2 : Int),
                                                    v5 = Value.tuple #[vu x1, Value.int IntKind.i64 n2] ∧
                                                      ∃ (q1 : Pt),
                                                        s3.q = some q1 ∧
                                                          0 ≤ n1 ∧
                                                            n1 + 1 ≤ (↑s3.len : Int) ∧
                                                              ∃ (x2 : UInt64),
                                                                hcell h6 q1.b (q1.o + n1.toNat * 1) = some (vu x2) ∧
                                                                  ifB (!decide (x1 = x2)) (Q (Value.bool false) h6)
                                                                    (ifB (!decide (n2 = n1)) (Q (Value.bool false) h6)
                                                                      (ifB (decide (n1 < (↑s2.len : Int)))
                                                                        (∃ (q2 : Pt),
                                                                          s2.q = some q2 ∧
                                                                            0 ≤ n1 ∧
                                                                              n1 + 1 ≤ (↑s2.len : Int) ∧
                                                                                ∃ (x3 : UInt64),
                                                                                  hcell h6 q2.b (q2.o + n1.toNat * 1) = some (vu x3) ∧
                                                                                    ifB (!decide (x1 = x3)) (Q (Value.bool false) h6)
                                                                                      (ifB (decide ((↑s2.len : Int) ≤ n1))
                                                                                        (ifB (!decide (x1 = 0)) (Q (Value.bool false) h6) (∃ (k3 : Nat), k3 < k2 ∧ J1 s2 o3 o4 s3 (wrap64 (n1 + 1)) h6 k3))
                                                                                        (∃ (k4 : Nat), k4 < k2 ∧ J1 s2 o3 o4 s3 (wrap64 (n1 + 1)) h6 k4)))
                                                                        (ifB (decide ((↑s2.len : Int) ≤ n1))
                                                                          (ifB (!decide (x1 = 0)) (Q (Value.bool false) h6) (∃ (k5 : Nat), k5 < k2 ∧ J1 s2 o3 o4 s3 (wrap64 (n1 + 1)) h6 k5))
                                                                          (∃ (k6 : Nat), k6 < k2 ∧ J1 s2 o3 o4 s3 (wrap64 (n1 + 1)) h6 k6)))))
                                              (callK prog 16 [vpn o3] h5 fun (v6 : Value) (h7 : Hp) =>
                                                ∃ (n3 : Int),
                                                  v6 = Value.int IntKind.i64 n3 ∧
                                                    callK prog 16 [vpn o4] h7 fun (v7 : Value) (h8 : Hp) =>
                                                      ∃ (n4 : Int),
                                                        v7 = Value.int IntKind.i64 n4 ∧
                                                          ifB (decide (n3 = n4))
                                                            (callK prog 17 [vpn o3] h8 fun (v8 : Value) (h9 : Hp) =>
                                                              ∃ (t2 : Bool),
                                                                v8 = Value.bool t2 ∧
                                                                  callK prog 17 [vpn o4] h9 fun (v9 : Value) (h10 : Hp) =>
                                                                    ∃ (t3 : Bool),
                                                                      v9 = Value.bool t3 ∧
                                                                        ifB (t2 == t3)
                                                                          (callK prog 17 [vpn o3] h10 fun (v10 : Value) (h11 : Hp) =>
                                                                            ∃ (t4 : Bool), v10 = Value.bool t4 ∧ Q (Value.bool (t4 == decide ((↑s2.len : Int) < (↑s3.len : Int)))) h11)
                                                                          (Q (Value.bool false) h10))
                                                            (Q (Value.bool false) h8)))))))
theorem c5 (a0 : Sl) (a1 : Int) {h : Hp} {Q : Value → Hp → Prop} (hG : G5 a0 a1 h Q) : callK prog 5 (SV.vals [SV.s a0, SV.i IntKind.i64 a1]) h Q :=
  calls_of_bodyK A5 (by kernel_rfl) func5 (by kernel_rfl) [SV.s a0, SV.i IntKind.i64 a1] (of_decide_eq_true (by kernel_rfl)) (Eq.mp (by kernel_rfl : G5 a0 a1 h Q = bodyK prog f5 A5 Q [SV.s a0, SV.i IntKind.i64 a1] h) hG)

def A6 : Ann := Ann.mk [(11, [(10, Ty.s), (11, Ty.s), (12, Ty.i IntKind.i64)])] [] [(13, [0, 1, 2, 3, 4, 5, 6, 7, 8])]
def G6 (a0 : Sl) (a1 : Int) (a2 : Int) (h : Hp) (Q : Value → Hp → Prop) : Prop :=
  callK prog 11 [] h fun (v1 : Value) (h1 : Hp) =>
    ∃ (t1 : Bool),
      v1 = Value.bool t1 ∧
        callK prog 12 [vs a0] h1 fun (v2 : Value) (h2 : Hp) =>
          ∃ (o1 : Option Pt),
            v2 = vpn o1 ∧
              callK prog 12 [vs a0] h2 fun (v3 : Value) (h3 : Hp) =>
                ∃ (o2 : Option Pt),
                  v3 = vpn o2 ∧
                    ifB (!t1) (ifB t1 (ifB (!o1.isNone) (Q (Value.bool !o2.isNone) h3) (Q (Value.bool false) h3)) (Q (Value.bool false) h3))
                      (ifB o1.isNone (ifB t1 (ifB (!o1.isNone) (Q (Value.bool !o2.isNone) h3) (Q (Value.bool false) h3)) (Q (Value.bool false) h3))
                        (ifB o2.isNone (ifB t1 (ifB (!o1.isNone) (Q (Value.bool !o2.isNone) h3) (Q (Value.bool false) h3)) (Q (Value.bool false) h3))
                          (ifB (decide (a1 < 0)) (ifB t1 (ifB (!o1.isNone) (Q (Value.bool !o2.isNone) h3) (Q (Value.bool false) h3)) (Q (Value.bool false) h3))
                            (ifB (decide (a2 < 0)) (ifB t1 (ifB (!o1.isNone) (Q (Value.bool !o2.isNone) h3) (Q (Value.bool false) h3)) (Q (Value.bool false) h3))
                              (ifB (decide (100 < a1)) (ifB t1 (ifB (!o1.isNone) (Q (Value.bool !o2.isNone) h3) (Q (Value.bool false) h3)) (Q (Value.bool false) h3))
                                (ifB (decide (100 < a2)) (ifB t1 (ifB (!o1.isNone) (Q (Value.bool !o2.isNone) h3) (Q (Value.bool false) h3)) (Q (Value.bool false) h3))
                                  (callK prog 15 [vpn o1, Value.int IntKind.i64 a1] h3 fun (v4 : Value) (h4 : Hp) =>
                                    ∃ (s1 : Sl),
                                      v4 = vs s1 ∧
                                        callK prog 15 [vpn o1, Value.int IntKind.i64 a2] h4 fun (v5 : Value) (h5 : Hp) =>
                                          ∃ (s2 : Sl),
                                            v5 = vs s2 ∧
                                              appK prog 22 s1 (SV.s s2) h5 fun (s3 : Sl) (h6 : Hp) =>
                                                callK prog 15 [vpn o2, Value.int IntKind.i64 (wrap64 (a1 + a2))] h6 fun (v6 : Value) (h7 : Hp) =>
                                                  ∃ (s4 : Sl),
                                                    v6 = vs s4 ∧
                                                      ifB (!decide ((↑s3.len : Int) = (↑s4.len : Int))) (Q (Value.bool false) h7)
                                                        (callK prog 16 [vpn o1] h7 fun (v7 : Value) (h8 : Hp) =>
                                                          ∃ (n1 : Int),
                                                            v7 = Value.int IntKind.i64 n1 ∧
                                                              callK prog 16 [vpn o2] h8 fun (v8 : Value) (h9 : Hp) =>
                                                                ∃ (n2 : Int),
                                                                  v8 = Value.int IntKind.i64 n2 ∧
                                                                    ifB (!decide (n1 = n2)) (Q (Value.bool false) h9)
                                                                      (callK prog 17 [vpn o1] h9 fun (v9 : Value) (h10 : Hp) =>
                                                                        ∃ (t2 : Bool),
                                                                          v9 = Value.bool t2 ∧
                                                                            callK prog 17 [vpn o2] h10 fun (v10 : Value) (h11 : Hp) =>
                                                                              ∃ (t3 : Bool),
                                                                                v10 = Value.bool t3 ∧
                                                                                  ifB (!t2 == t3) (Q (Value.bool false) h11)
                                                                                    (∃ (J1 : Sl → Sl → Int → Hp → Nat → Prop),
                                                                                      (∃ (k1 : Nat), J1 s3 s4 0 h11 k1) ∧
                                                                                        ∀ (s5 s6 : Sl) (n3 : Int) (h12 : Hp) (k2 : Nat),
                                                                                          J1 s5 s6 n3 h12 k2 →
                                                                                            ifB (decide (n3 < (↑s5.len : Int)))
                                                                                              (∃ (q1 : Pt),
                                                                                                s5.q = some q1 ∧
                                                                                                  0 ≤ n3 ∧
                                                                                                    n3 + 1 ≤ (↑s5.len : Int) ∧
                                                                                                      ∃ (x1 : UInt64),
                                                                                                        hcell h12 q1.b (q1.o + n3.toNat * 1) = some (vu x1) ∧
                                                                                                          ∃ (q2 : Pt),
                                                                                                            s6.q = some q2 ∧
                                                                                                              0 ≤ n3 ∧
                                                                                                                n3 + 1 ≤ (↑s6.len : Int) ∧
                                                                                                                  ∃ (x2 : UInt64),
                                                                                                                    hcell h12 q2.b (q2.o + n3.toNat * 1) = some (vu x2) ∧
                                                                                                                      ifB (!decide (x1 = x2)) (Q (Value.bool false) h12)
                                                                                                                        (∃ (k3 : Nat), k3 < k2 ∧ J1 s5 s6 (wrap64 (n3 + 1)) h12 k3))
                                                                                              (Q (Value.bool true) h12)))))))))))
theorem c6 (a0 : Sl) (a1 : Int) (a2 : Int) {h : Hp} {Q : Value → Hp → Prop} (hG : G6 a0 a1 a2 h Q) : callK prog 6 (SV.vals [SV.s a0, SV.i IntKind.i64 a1, SV.i IntKind.i64 a2]) h Q :=
  calls_of_bodyK A6 (by kernel_rfl) func6 (by kernel_rfl) [SV.s a0, SV.i IntKind.i64 a1, SV.i IntKind.i64 a2] (of_decide_eq_true (by kernel_rfl)) (Eq.mp (by kernel_rfl : G6 a0 a1 a2 h Q = bodyK prog f6 A6 Q [SV.s a0, SV.i IntKind.i64 a1, SV.i IntKind.i64 a2] h) hG)

def A7 : Ann := Ann.mk [] [] []
def G7 (a0 : Sl) (a1 : Sl) (a2 : Sl) (h : Hp) (Q : Value → Hp → Prop) : Prop :=
  callK prog 19 [] h fun (v1 : Value) (h1 : Hp) =>
    ∃ (t1 : Bool),
      v1 = Value.bool t1 ∧
        ifB (!t1) (Q (Value.bool t1) h1)
          (ifB (decide (100 < (↑a0.len : Int))) (Q (Value.bool t1) h1)
            (ifB (decide (60 < (↑a1.len : Int))) (Q (Value.bool t1) h1)
              (ifB (decide (60 < (↑a2.len : Int))) (Q (Value.bool t1) h1)
                (callK prog 20 [vs a0, vs a1, vs a2] h1 fun (v2 : Value) (h2 : Hp) =>
                  ∃ (s1 : Sl),
                    ∃ (n1 : Int),
                      v2 = Value.tuple #[vs s1, Value.int IntKind.i64 n1] ∧
                        callK prog 21 [vs a0, vs a1, vs a2] h2 fun (v3 : Value) (h3 : Hp) =>
                          ∃ (s2 : Sl),
                            ∃ (n2 : Int),
                              v3 = Value.tuple #[vs s2, Value.int IntKind.i64 n2] ∧
                                callK prog 22 [vs s1, vs s2] h3 fun (v4 : Value) (h4 : Hp) => ∃ (t2 : Bool), v4 = Value.bool t2 ∧ ifB t2 (Q (Value.bool (decide (n1 = n2))) h4) (Q (Value.bool false) h4)))))
theorem c7 (a0 : Sl) (a1 : Sl) (a2 : Sl) {h : Hp} {Q : Value → Hp → Prop} (hG : G7 a0 a1 a2 h Q) : callK prog 7 (SV.vals [SV.s a0, SV.s a1, SV.s a2]) h Q :=
  calls_of_bodyK A7 (by kernel_rfl) func7 (by kernel_rfl) [SV.s a0, SV.s a1, SV.s a2] (of_decide_eq_true (by kernel_rfl)) (Eq.mp (by kernel_rfl : G7 a0 a1 a2 h Q = bodyK prog f7 A7 Q [SV.s a0, SV.s a1, SV.s a2] h) hG)

def A8 : Ann := Ann.mk [(16, [(0, Ty.s), (1, Ty.s), (2, Ty.s), (8, Ty.s), (10, Ty.s), (11, Ty.i IntKind.i64), (12, Ty.u), (13, Ty.u), (15, Ty.i IntKind.i64)]), (11, [(0, Ty.s), (1, Ty.s), (2, Ty.s), (8, Ty.s), (10, Ty.s), (11, Ty.i IntKind.i64), (12, Ty.u), (13, Ty.u), (14, Ty.i IntKind.i64)])] [] [(13, [0, 1, 2, 3, 4, 5, 6, 7, 8, 9, 10, 11, 12, 13, 14, 15, 16]), (14, [0, 1, 2, 3, 4, 5, 6, 7, 8, 9, 10, 11, 12, 13, 14, 15, 16]), (18, [0, 1, 2, 3, 4, 5, 6, 7, 8, 9, 10, 11, 12, 13, 14])]
def G8 (a0 : Sl) (a1 : Sl) (a2 : Sl) (h : Hp) (Q : Value → Hp → Prop) : Prop :=
  callK prog 19 [] h fun (v1 : Value) (h1 : Hp) =>
    ∃ (t1 : Bool),
      v1 = Value.bool t1 ∧
        ifB (!t1) (Q (Value.bool t1) h1)
          (ifB (decide (100 < (↑a0.len : Int))) (Q (Value.bool t1) h1)
            (ifB (decide (60 < (↑a1.len : Int))) (Q (Value.bool t1) h1)
              (ifB (decide (60 < (↑a2.len : Int))) (Q (Value.bool t1) h1)
                (callK prog 20 [vs a0, vs a1, vs a2] h1 fun (v2 : Value) (h2 : Hp) =>
                  ∃ (s1 : Sl),
                    ∃ (n1 : Int),
                      v2 = Value.tuple #[vs s1, Value.int IntKind.i64 n1] ∧
                        ifB (!decide (n1 = 0)) (Q (Value.bool (decide ((↑s1.len : Int) = 0))) h2)
                          (callK prog 20 [vs s1, vs a2, vs a1] h2 fun (v3 : Value) (h3 : Hp) =>
                            ∃ (s2 : Sl),
                              ∃ (n2 : Int),
                                v3 = Value.tuple #[vs s2, Value.int IntKind.i64 n2] ∧
                                  ∃ (J1 : Sl → Sl → Sl → Sl → Sl → Int → UInt64 → UInt64 → Int → Hp → Nat → Prop),
                                    (∃ (k1 : Nat), J1 a0 a1 a2 s1 s2 n2 0 0 0 h3 k1) ∧
                                      ∀ (s3 s4 s5 s6 s7 : Sl) (n3 : Int) (x1 x2 : UInt64) (n4 : Int) (h4 : Hp) (k2 : Nat),
                                        J1 s3 s4 s5 s6 s7 n3 x1 x2 n4 h4 k2 →
                                          ifB (decide (n4 < (↑s3.len : Int)))
                                            (∃ (q1 : Pt),
                                              s3.q = some q1 ∧
                                                0 ≤ n4 ∧
                                                  n4 + 1 ≤ (↑s3.len : Int) ∧
                                                    ∃ (x3 : UInt64),
                                                      hcell h4 q1.b (q1.o + n4.toNat * 1) = some (vu x3) ∧
                                                        ∃ (q2 : Pt),
                                                          s3.q = some q2 ∧
                                                            0 ≤ n4 ∧
                                                              n4 + 1 ≤ (↑s3.len : Int) ∧
                                                                ∃ (x4 : UInt64),
                                                                  hcell h4 q2.b (q2.o + n4.toNat * 1) = some (vu x4) ∧
                                                                    ∃ (q3 : Pt),
                                                                      s3.q = some q3 ∧
                                                                        0 ≤ n4 ∧
                                                                          n4 + 1 ≤ (↑s3.len : Int) ∧
                                                                            ∃ (x5 : UInt64),
                                                                              hcell h4 q3.b (q3.o + n4.toNat * 1) = some (vu x5) ∧
                                                                                ∃ (q4 : Pt),
                                                                                  s6.q = some q4 ∧
                                                                                    0 ≤ n4 ∧
                                                                                      n4 + 1 ≤ (↑s6.len : Int) ∧
                                                                                        ∃ (x6 : UInt64),
                                                                                          hcell h4 q4.b (q4.o + n4.toNat * 1) = some (vu x6) ∧
                                                                                            ∃ (q5 : Pt),
                                                                                              s6.q = some q5 ∧
                                                                                                0 ≤ n4 ∧
                                                                                                  n4 + 1 ≤ (↑s6.len : Int) ∧
                                                                                                    ∃ (x7 : UInt64),
                                                                                                      hcell h4 q5.b (q5.o + n4.toNat * 1) = some (vu x7) ∧
                                                                                                        ∃ (q6 : Pt),
                                                                                                          s6.q = some q6 ∧
                                                                                                            0 ≤ n4 ∧
                                                                                                              n4 + 1 ≤ (↑s6.len : Int) ∧
                                                                                                                ∃ (x8 : UInt64),
                                                                                                                  hcell h4 q6.b (q6.o + n4.toNat * 1) = some (vu x8) ∧
                                                                                                                    ∃ (k3 : Nat),
                                                                                                                      k3 < k2 ∧ J1 s3 s4 s5 s6 s7 n3 (x1 + x3 * x4 + x5) (x2 + x6 * x7 + x8) (wrap64 (n4 + 1)) h4 k3)
                                            (∃ (J2 : Sl → Sl → Sl → Sl → Sl → Int → UInt64 → UInt64 → Int → Hp → Nat → Prop),
                                              (∃ (k4 : Nat), J2 s3 s4 s5 s6 s7 n3 x1 x2 0 h4 k4) ∧
                                                ∀ (s8 s9 s10 s11 s12 : Sl) (n5 : Int) (x9 x10 : UInt64) (n6 : Int) (h5 : Hp) (k5 : Nat),
                                                  J2 s8 s9 s10 s11 s12 n5 x9 x10 n6 h5 k5 →
                                                    ifB (decide (n6 < (↑s9.len : Int)))
                                                      (∃ (q7 : Pt),
                                                        s10.q = some q7 ∧
                                                          0 ≤ n6 ∧
                                                            n6 + 1 ≤ (↑s10.len : Int) ∧
                                                              ∃ (n7 : Int),
                                                                hcell h5 q7.b (q7.o + n6.toNat * 1) = some (Value.int IntKind.i64 n7) ∧
                                                                  ∃ (q8 : Pt),
                                                                    s11.q = some q8 ∧
                                                                      0 ≤ n7 ∧
                                                                        n7 + 1 ≤ (↑s11.len : Int) ∧
                                                                          ∃ (x11 : UInt64),
                                                                            hcell h5 q8.b (q8.o + n7.toNat * 1) = some (vu x11) ∧
                                                                              ∃ (q9 : Pt),
                                                                                s9.q = some q9 ∧
                                                                                  0 ≤ n6 ∧
                                                                                    n6 + 1 ≤ (↑s9.len : Int) ∧
                                                                                      ∃ (n8 : Int),
                                                                                        hcell h5 q9.b (q9.o + n6.toNat * 1) = some (Value.int IntKind.i64 n8) ∧
                                                                                          ∃ (q10 : Pt),
                                                                                            s8.q = some q10 ∧
                                                                                              0 ≤ n8 ∧
                                                                                                n8 + 1 ≤ (↑s8.len : Int) ∧
                                                                                                  ∃ (x12 : UInt64),
                                                                                                    hcell h5 q10.b (q10.o + n8.toNat * 1) = some (vu x12) ∧
                                                                                                      ifB (!decide (x11 = x12)) (Q (Value.bool false) h5)
                                                                                                        (∃ (k6 : Nat), k6 < k5 ∧ J2 s8 s9 s10 s11 s12 n5 x9 x10 (wrap64 (n6 + 1)) h5 k6))
                                                      (ifB (decide (n5 = 0))
                                                        (callK prog 22 [vs s12, vs s8] h5 fun (v4 : Value) (h6 : Hp) =>
                                                          ∃ (t2 : Bool),
                                                            v4 = Value.bool t2 ∧
                                                              ifB t2 (ifB (decide (x9 = x10)) (Q (Value.bool (decide ((↑s11.len : Int) = (↑s8.len : Int)))) h6) (Q (Value.bool false) h6)) (Q (Value.bool false) h6))
                                                        (Q (Value.bool false) h5))))))))
theorem c8 (a0 : Sl) (a1 : Sl) (a2 : Sl) {h : Hp} {Q : Value → Hp → Prop} (hG : G8 a0 a1 a2 h Q) : callK prog 8 (SV.vals [SV.s a0, SV.s a1, SV.s a2]) h Q :=
  calls_of_bodyK A8 (by kernel_rfl) func8 (by kernel_rfl) [SV.s a0, SV.s a1, SV.s a2] (of_decide_eq_true (by kernel_rfl)) (Eq.mp (by kernel_rfl : G8 a0 a1 a2 h Q = bodyK prog f8 A8 Q [SV.s a0, SV.s a1, SV.s a2] h) hG)

def A9 : Ann := Ann.mk [] [] []
def G9 (a0 : Sl) (a1 : Sl) (a2 : Sl) (a3 : Sl) (h : Hp) (Q : Value → Hp → Prop) : Prop :=
  callK prog 19 [] h fun (v1 : Value) (h1 : Hp) =>
    ∃ (t1 : Bool),
      v1 = Value.bool t1 ∧
        ifB (!t1) (Q (Value.bool t1) h1)
          (ifB (decide (60 < (↑a0.len : Int))) (Q (Value.bool t1) h1)
            (ifB (decide (60 < (↑a1.len : Int))) (Q (Value.bool t1) h1)
              (ifB (decide (60 < (↑a2.len : Int))) (Q (Value.bool t1) h1)
                (ifB (decide (60 < (↑a3.len : Int))) (Q (Value.bool t1) h1)
                  (callK prog 20 [vs a0, vs a1, vs a1] h1 fun (v2 : Value) (h2 : Hp) =>
                    ∃ (s1 : Sl),
                      ∃ (n1 : Int),
                        v2 = Value.tuple #[vs s1, Value.int IntKind.i64 n1] ∧
                          callK prog 20 [vs a0, vs a1, vs a2] h2 fun (v3 : Value) (h3 : Hp) =>
                            ∃ (s2 : Sl),
                              ∃ (n2 : Int),
                                v3 = Value.tuple #[vs s2, Value.int IntKind.i64 n2] ∧
                                  ifB (!decide (n1 = 0))
                                    (ifB (decide ((↑s1.len : Int) = 0)) (Q (Value.bool true) h3) (callK prog 22 [vs s1, vs a0] h3 fun (v4 : Value) (h4 : Hp) => ∃ (t2 : Bool), v4 = Value.bool t2 ∧ Q (Value.bool t2) h4))
                                    (ifB (!decide (n2 = 0))
                                      (ifB (decide ((↑s1.len : Int) = 0)) (Q (Value.bool true) h3) (callK prog 22 [vs s1, vs a0] h3 fun (v5 : Value) (h5 : Hp) => ∃ (t3 : Bool), v5 = Value.bool t3 ∧ Q (Value.bool t3) h5))
                                      (callK prog 20 [vs s2, vs a2, vs a3] h3 fun (v6 : Value) (h6 : Hp) =>
                                        ∃ (s3 : Sl),
                                          ∃ (n3 : Int),
                                            v6 = Value.tuple #[vs s3, Value.int IntKind.i64 n3] ∧
                                              callK prog 20 [vs a0, vs a1, vs a3] h6 fun (v7 : Value) (h7 : Hp) =>
                                                ∃ (s4 : Sl),
                                                  ∃ (n4 : Int),
                                                    v7 = Value.tuple #[vs s4, Value.int IntKind.i64 n4] ∧
                                                      ifB (!decide (n3 = n4)) (Q (Value.bool false) h7)
                                                        (callK prog 22 [vs s1, vs a0] h7 fun (v8 : Value) (h8 : Hp) =>
                                                          ∃ (t4 : Bool),
                                                            v8 = Value.bool t4 ∧
                                                              ifB (!t4) (Q (Value.bool false) h8)
                                                                (ifB (!decide (n3 = 0)) (Q (Value.bool true) h8)
                                                                  (callK prog 22 [vs s3, vs s4] h8 fun (v9 : Value) (h9 : Hp) => ∃ (t5 : Bool), v9 = Value.bool t5 ∧ Q (Value.bool t5) h9))))))))))
theorem c9 (a0 : Sl) (a1 : Sl) (a2 : Sl) (a3 : Sl) {h : Hp} {Q : Value → Hp → Prop} (hG : G9 a0 a1 a2 a3 h Q) : callK prog 9 (SV.vals [SV.s a0, SV.s a1, SV.s a2, SV.s a3]) h Q :=
  calls_of_bodyK A9 (by kernel_rfl) func9 (by kernel_rfl) [SV.s a0, SV.s a1, SV.s a2, SV.s a3] (of_decide_eq_true (by kernel_rfl)) (Eq.mp (by kernel_rfl : G9 a0 a1 a2 a3 h Q = bodyK prog f9 A9 Q [SV.s a0, SV.s a1, SV.s a2, SV.s a3] h) hG)

def A10 : Ann := Ann.mk [(10, [(0, Ty.s), (1, Ty.s), (2, Ty.s), (8, Ty.s), (10, Ty.s), (11, Ty.s), (12, Ty.i IntKind.i64)])] [] []
def G10 (a0 : Sl) (a1 : Sl) (a2 : Sl) (h : Hp) (Q : Value → Hp → Prop) : Prop :=
  callK prog 19 [] h fun (v1 : Value) (h1 : Hp) =>
    ∃ (t1 : Bool),
      v1 = Value.bool t1 ∧
        ifB (!t1) (Q (Value.bool t1) h1)
          (ifB (decide (100 < (↑a0.len : Int))) (Q (Value.bool t1) h1)
            (ifB (decide (60 < (↑a1.len : Int))) (Q (Value.bool t1) h1)
              (ifB (decide (60 < (↑a2.len : Int))) (Q (Value.bool t1) h1)
                (callK prog 20 [vs a0, vs a1, vs a2] h1 fun (v2 : Value) (h2 : Hp) =>
                  ∃ (s1 : Sl),
                    ∃ (n1 : Int),
                      v2 = Value.tuple #[vs s1, Value.int IntKind.i64 n1] ∧
                        ifB (!decide (n1 = 0)) (Q (Value.bool !decide (n1 = 0)) h2)
                          (ifB (!decide ((↑s1.len : Int) = (↑a0.len : Int))) (Q (Value.bool !decide (n1 = 0)) h2)
                            (∃ (J1 : Sl → Sl → Sl → Sl → Sl → Sl → Int → Hp → Nat → Prop),
                              (∃ (k1 : Nat), J1 a0 a1 a2 s1 { p := none, len := 0, cap := 0 } { p := none, len := 0, cap := 0 } 0 h2 k1) ∧
                                ∀ (s2 s3 s4 s5 s6 s7 : Sl) (n2 : Int) (h3 : Hp) (k2 : Nat),
                                  J1 s2 s3 s4 s5 s6 s7 n2 h3 k2 →
                                    ifB (decide (n2 < (↑s2.len : Int)))
                                      (callK prog 23 [vs s3, Value.int IntKind.i64 n2] h3 fun (v3 : Value) (h4 : Hp) =>
                                        ∃ (t2 : Bool),
                                          v3 = Value.bool t2 ∧
                                            ifB (!t2)
                                              (∃ (q1 : Pt),
                                                s2.q = some q1 ∧
                                                  0 ≤ n2 ∧
                                                    n2 + 1 ≤ (↑s2.len : Int) ∧
                                                      ∃ (x1 : UInt64),
                                                        hcell h4 q1.b (q1.o + n2.toNat * 1) = some (vu x1) ∧
                                                          newK h4 (Obj.cells #[vu x1] 30) fun (b1 : Nat) (h5 : Hp) =>
                                                            appK prog 22 s6 (SV.s { p := some { b := b1, o := 0 }, len := 1, cap := 1 }) h5 fun (s8 : Sl) (h6 : Hp) =>
                                                              callK prog 23 [vs s4, Value.int IntKind.i64 n2] h6 fun (v4 : Value) (h7 : Hp) =>
                                                                ∃ (t3 : Bool),
                                                                  v4 = Value.bool t3 ∧
                                                                    ifB (!t3)
                                                                      (∃ (q2 : Pt),
                                                                        s5.q = some q2 ∧
                                                                          0 ≤ n2 ∧
                                                                            n2 + 1 ≤ (↑s5.len : Int) ∧
                                                                              ∃ (x2 : UInt64),
                                                                                hcell h7 q2.b (q2.o + n2.toNat * 1) = some (vu x2) ∧
                                                                                  newK h7 (Obj.cells #[vu x2] 30) fun (b2 : Nat) (h8 : Hp) =>
                                                                                    appK prog 22 s7 (SV.s { p := some { b := b2, o := 0 }, len := 1, cap := 1 }) h8 fun (s9 : Sl) (h9 : Hp) =>
                                                                                      ∃ (k3 : Nat), k3 < k2 ∧ J1 s2 s3 s4 s5 s8 s9 (wrap64 (n2 + 1)) h9 k3)
                                                                      (∃ (k4 : Nat), k4 < k2 ∧ J1 s2 s3 s4 s5 s8 s7 (wrap64 (n2 + 1)) h7 k4))
                                              (callK prog 23 [vs s4, Value.int IntKind.i64 n2] h4 fun (v5 : Value) (h10 : Hp) =>
                                                ∃ (t4 : Bool),
                                                  v5 = Value.bool t4 ∧
                                                    ifB (!t4)
                                                      (∃ (q3 : Pt),
                                                        s5.q = some q3 ∧
                                                          0 ≤ n2 ∧
                                                            n2 + 1 ≤ (↑s5.len : Int) ∧
                                                              ∃ (x3 : UInt64),
                                                                hcell h10 q3.b (q3.o + n2.toNat * 1) = some (vu x3) ∧
                                                                  newK h10 (Obj.cells #[vu x3] 30) fun (b3 : Nat) (h11 : Hp) =>
                                                                    appK prog 22 s7 (SV.s { p := some { b := b3, o := 0 }, len := 1, cap := 1 }) h11 fun (s10 : Sl) (h12 : Hp) =>
                                                                      ∃ (k5 : Nat), k5 < k2 ∧ J1 s2 s3 s4 s5 s6 s10 (wrap64 (n2 + 1)) h12 k5)
                                                      (∃ (k6 : Nat), k6 < k2 ∧ J1 s2 s3 s4 s5 s6 s7 (wrap64 (n2 + 1)) h10 k6)))
                                      (callK prog 22 [vs s6, vs s7] h3 fun (v6 : Value) (h13 : Hp) => ∃ (t5 : Bool), v6 = Value.bool t5 ∧ Q (Value.bool t5) h13)))))))
theorem c10 (a0 : Sl) (a1 : Sl) (a2 : Sl) {h : Hp} {Q : Value → Hp → Prop} (hG : G10 a0 a1 a2 h Q) : callK prog 10 (SV.vals [SV.s a0, SV.s a1, SV.s a2]) h Q :=
  calls_of_bodyK A10 (by kernel_rfl) func10 (by kernel_rfl) [SV.s a0, SV.s a1, SV.s a2] (of_decide_eq_true (by kernel_rfl)) (Eq.mp (by kernel_rfl : G10 a0 a1 a2 h Q = bodyK prog f10 A10 Q [SV.s a0, SV.s a1, SV.s a2] h) hG)

-- (diff) toU 7 ### 7
-- (diff) toU 0 ### 0
def A11 : Ann := Ann.mk [] [] []
def G11 (h : Hp) (Q : Value → Hp → Prop) : Prop :=
  newK h (Obj.cells #[vu 7] 30) fun (b1 : Nat) (h1 : Hp) =>
    callK prog 12 [vs { p := some { b := b1, o := 0 }, len := 1, cap := 1 }] h1 fun (v1 : Value) (h2 : Hp) =>
      ∃ (o1 : Option Pt),
        v1 = vpn o1 ∧
          ifB o1.isNone (Q (Value.bool false) h2)
            (callK prog 13 [vpn o1] h2 fun (v2 : Value) (h3 : Hp) =>
              ∃ (x1 : UInt64),
                ∃ (n1 : Int),
                  v2 = Value.tuple #[vu x1, Value.int IntKind.i64 n1] ∧
                    callK prog 17 [vpn o1] h3 fun (v3 : Value) (h4 : Hp) =>
                      ∃ (t1 : Bool),
                        v3 = Value.bool t1 ∧
                          callK prog 13 [vpn o1] h4 fun (v4 : Value) (h5 : Hp) =>
                            ∃ (x2 : UInt64),
                              ∃ (n2 : Int),
                                v4 = Value.tuple #[vu x2, Value.int IntKind.i64 n2] ∧
                                  ifB (decide (x1 = 7))
                                    (ifB (decide (n1 = 0))
                                      (ifB (!t1)
                                        (ifB (decide (x2 = 0))
                                          (ifB (decide (n2 = 1)) (callK prog 17 [vpn o1] h5 fun (v5 : Value) (h6 : Hp) => ∃ (t2 : Bool), v5 = Value.bool t2 ∧ Q (Value.bool t2) h6) (Q (Value.bool false) h5))
                                          (Q (Value.bool false) h5))
                                        (Q (Value.bool false) h5))
                                      (Q (Value.bool false) h5))
                                    (Q (Value.bool false) h5))
theorem c11 {h : Hp} {Q : Value → Hp → Prop} (hG : G11 h Q) : callK prog 11 (SV.vals []) h Q :=
  calls_of_bodyK A11 (by kernel_rfl) func11 (by kernel_rfl) [] (of_decide_eq_true (by kernel_rfl)) (Eq.mp (by kernel_rfl : G11 h Q = bodyK prog f11 A11 Q [] h) hG)

def A12 : Ann := Ann.mk [] [] []
def G12 (a0 : Sl) (h : Hp) (Q : Value → Hp → Prop) : Prop :=
  callK prog 24 [vs a0] h fun (v1 : Value) (h1 : Hp) => ∃ (s1 : Sl), v1 = vs s1 ∧ newK h1 (Obj.cells #[vs s1, Value.int IntKind.i64 0, Value.bool false] 47) fun (b1 : Nat) (h2 : Hp) => Q (vp { b := b1, o := 0 }) h2
theorem c12 (a0 : Sl) {h : Hp} {Q : Value → Hp → Prop} (hG : G12 a0 h Q) : callK prog 12 (SV.vals [SV.s a0]) h Q :=
  calls_of_bodyK A12 (by kernel_rfl) func12 (by kernel_rfl) [SV.s a0] (of_decide_eq_true (by kernel_rfl)) (Eq.mp (by kernel_rfl : G12 a0 h Q = bodyK prog f12 A12 Q [SV.s a0] h) hG)

def A13 : Ann := Ann.mk [] [] []
def G13 (a0 : Pt) (h : Hp) (Q : Value → Hp → Prop) : Prop :=
  ∃ (n1 : Int),
    hcell h a0.b (a0.o + 1) = some (Value.int IntKind.i64 n1) ∧
      ∃ (n2 : Int),
        hcell h a0.b (a0.o + 1) = some (Value.int IntKind.i64 n2) ∧
          storeK h { b := a0.b, o := a0.o + 1 } [Value.int IntKind.i64 (wrap64 (n2 + 1))] fun (h1 : Hp) =>
            ∃ (s1 : Sl),
              hcell h1 a0.b a0.o = some (vs s1) ∧
                ifB (decide ((↑s1.len : Int) = 0)) (storeK h1 { b := a0.b, o := a0.o + 2 } [Value.bool true] fun (h2 : Hp) => Q (Value.tuple #[vu 0, Value.int IntKind.i64 n1]) h2)
                  (∃ (s2 : Sl),
                    hcell h1 a0.b a0.o = some (vs s2) ∧
                      ∃ (q1 : Pt),
                        s2.q = some q1 ∧
                          Int.NonNeg 0 ∧
                            1 ≤ (↑s2.len : Int) ∧
                              ∃ (x1 : UInt64),
                                hcell h1 q1.b q1.o = some (vu x1) ∧
                                  ∃ (s3 : Sl),
                                    hcell h1 a0.b a0.o = some (vs s3) ∧
                                      Int.NonNeg 1 ∧
                                        1 ≤ (↑s3.len : Int) ∧
                                          storeK h1 { b := a0.b, o := a0.o } [vs { p := slPt s3.p 1 s3.cap 1, len := s3.len - 1, cap := s3.cap - 1, z := slZ s3.z 1 s3.cap 1 }] fun (h3 : Hp) =>
                                            Q (Value.tuple #[vu x1, Value.int IntKind.i64 n1]) h3)
theorem c13 (a0 : Pt) {h : Hp} {Q : Value → Hp → Prop} (hG : G13 a0 h Q) : callK prog 13 (SV.vals [SV.p a0]) h Q :=
  calls_of_bodyK A13 (by kernel_rfl) func13 (by kernel_rfl) [SV.p a0] (of_decide_eq_true (by kernel_rfl)) (Eq.mp (by kernel_rfl : G13 a0 h Q = bodyK prog f13 A13 Q [SV.p a0] h) hG)

def A14 : Ann := Ann.mk [] [] []
def G14 (a0 : Pt) (h : Hp) (Q : Value → Hp → Prop) : Prop :=
  ∃ (n1 : Int),
    hcell h a0.b (a0.o + 1) = some (Value.int IntKind.i64 n1) ∧
      ∃ (n2 : Int),
        hcell h a0.b (a0.o + 1) = some (Value.int IntKind.i64 n2) ∧
          storeK h { b := a0.b, o := a0.o + 1 } [Value.int IntKind.i64 (wrap64 (n2 + 1))] fun (h1 : Hp) =>
            ∃ (s1 : Sl),
              hcell h1 a0.b a0.o = some (vs s1) ∧
                ifB (decide (n1 < (↑s1.len : Int)))
                  (∃ (s2 : Sl),
                    hcell h1 a0.b a0.o = some (vs s2) ∧
                      ∃ (q1 : Pt), s2.q = some q1 ∧ 0 ≤ n1 ∧ n1 + 1 ≤ (↑s2.len : Int) ∧ ∃ (x1 : UInt64), hcell h1 q1.b (q1.o + n1.toNat * 1) = some (vu x1) ∧ Q (Value.tuple #[vu x1, Value.int IntKind.i64 n1]) h1)
                  (Q (Value.tuple #[vu 0, Value.int IntKind.i64 n1]) h1)
theorem c14 (a0 : Pt) {h : Hp} {Q : Value → Hp → Prop} (hG : G14 a0 h Q) : callK prog 14 (SV.vals [SV.p a0]) h Q :=
  calls_of_bodyK A14 (by kernel_rfl) func14 (by kernel_rfl) [SV.p a0] (of_decide_eq_true (by kernel_rfl)) (Eq.mp (by kernel_rfl : G14 a0 h Q = bodyK prog f14 A14 Q [SV.p a0] h) hG)

def A15 : Ann := Ann.mk [(3, [(0, Ty.p), (5, Ty.s), (8, Ty.i IntKind.i64), (9, Ty.i IntKind.i64)])] [] []
def G15 (a0 : Pt) (a1 : Int) (h : Hp) (Q : Value → Hp → Prop) : Prop :=
  ∃ (J1 : Pt → Sl → Int → Int → Hp → Nat → Prop),
    (∃ (k1 : Nat), J1 a0 { p := none, len := 0, cap := 0 } a1 0 h k1) ∧
      ∀ (q1 : Pt) (s1 : Sl) (n1 n2 : Int) (h1 : Hp) (k2 : Nat),
        J1 q1 s1 n1 n2 h1 k2 →
          ifB (decide (n2 < n1))
            (callK prog 13 [vp q1] h1 fun (v1 : Value) (h2 : Hp) =>
              ∃ (x1 : UInt64),
                ∃ (n3 : Int),
                  v1 = Value.tuple #[vu x1, Value.int IntKind.i64 n3] ∧
                    newK h2 (Obj.cells #[vu x1] 30) fun (b1 : Nat) (h3 : Hp) =>
                      appK prog 22 s1 (SV.s { p := some { b := b1, o := 0 }, len := 1, cap := 1 }) h3 fun (s2 : Sl) (h4 : Hp) => ∃ (k3 : Nat), k3 < k2 ∧ J1 q1 s2 n1 (wrap64 (n2 + 1)) h4 k3)
            (Q (vs s1) h1)
theorem c15 (a0 : Pt) (a1 : Int) {h : Hp} {Q : Value → Hp → Prop} (hG : G15 a0 a1 h Q) : callK prog 15 (SV.vals [SV.p a0, SV.i IntKind.i64 a1]) h Q :=
  calls_of_bodyK A15 (by kernel_rfl) func15 (by kernel_rfl) [SV.p a0, SV.i IntKind.i64 a1] (of_decide_eq_true (by kernel_rfl)) (Eq.mp (by kernel_rfl : G15 a0 a1 h Q = bodyK prog f15 A15 Q [SV.p a0, SV.i IntKind.i64 a1] h) hG)

def A16 : Ann := Ann.mk [] [] []
def G16 (a0 : Pt) (h : Hp) (Q : Value → Hp → Prop) : Prop :=
  ∃ (n1 : Int), hcell h a0.b (a0.o + 1) = some (Value.int IntKind.i64 n1) ∧ Q (Value.int IntKind.i64 n1) h
theorem c16 (a0 : Pt) {h : Hp} {Q : Value → Hp → Prop} (hG : G16 a0 h Q) : callK prog 16 (SV.vals [SV.p a0]) h Q :=
  calls_of_bodyK A16 (by kernel_rfl) func16 (by kernel_rfl) [SV.p a0] (of_decide_eq_true (by kernel_rfl)) (Eq.mp (by kernel_rfl : G16 a0 h Q = bodyK prog f16 A16 Q [SV.p a0] h) hG)

def A17 : Ann := Ann.mk [] [] []
def G17 (a0 : Pt) (h : Hp) (Q : Value → Hp → Prop) : Prop :=
  ∃ (t1 : Bool), hcell h a0.b (a0.o + 2) = some (Value.bool t1) ∧ Q (Value.bool t1) h
theorem c17 (a0 : Pt) {h : Hp} {Q : Value → Hp → Prop} (hG : G17 a0 h Q) : callK prog 17 (SV.vals [SV.p a0]) h Q :=
  calls_of_bodyK A17 (by kernel_rfl) func17 (by kernel_rfl) [SV.p a0] (of_decide_eq_true (by kernel_rfl)) (Eq.mp (by kernel_rfl : G17 a0 h Q = bodyK prog f17 A17 Q [SV.p a0] h) hG)

def A18 : Ann := Ann.mk [] [] [(1, [0, 1, 2, 3, 4, 5, 6, 7, 8, 9, 10])]
def G18 (a0 : Pt) (h : Hp) (Q : Value → Hp → Prop) : Prop :=
  ∃ (n1 : Int), hcell h a0.b (a0.o + 1) = some (Value.int IntKind.i64 n1) ∧ ∃ (s1 : Sl), hcell h a0.b a0.o = some (vs s1) ∧ Q (Value.bool (decide ((↑s1.len : Int) < n1))) h
theorem c18 (a0 : Pt) {h : Hp} {Q : Value → Hp → Prop} (hG : G18 a0 h Q) : callK prog 18 (SV.vals [SV.p a0]) h Q :=
  calls_of_bodyK A18 (by kernel_rfl) func18 (by kernel_rfl) [SV.p a0] (of_decide_eq_true (by kernel_rfl)) (Eq.mp (by kernel_rfl : G18 a0 h Q = bodyK prog f18 A18 Q [SV.p a0] h) hG)

def A19 : Ann := Ann.mk [] [] []
def G19 (h : Hp) (Q : Value → Hp → Prop) : Prop :=
  newK h (Obj.cells #[vu 7, vu 8, vu 9] 30) fun (b1 : Nat) (h1 : Hp) =>
    newK h1 (Obj.cells #[Value.int IntKind.i64 0] 3) fun (b2 : Nat) (h2 : Hp) =>
      newK h2 (Obj.cells #[Value.int IntKind.i64 2] 3) fun (b3 : Nat) (h3 : Hp) =>
        callK prog 20 [vs { p := some { b := b1, o := 0 }, len := 3, cap := 3 }, vs { p := some { b := b2, o := 0 }, len := 1, cap := 1 }, vs { p := some { b := b3, o := 0 }, len := 1, cap := 1 }] h3
          fun (v1 : Value) (h4 : Hp) =>
          ∃ (s1 : Sl),
            ∃ (n1 : Int),
              v1 = Value.tuple #[vs s1, Value.int IntKind.i64 n1] ∧
                newK h4 (Obj.cells #[vu 8, vu 9, vu 7] 30) fun (b4 : Nat) (h5 : Hp) =>
                  callK prog 22 [vs s1, vs { p := some { b := b4, o := 0 }, len := 3, cap := 3 }] h5 fun (v2 : Value) (h6 : Hp) =>
                    ∃ (t1 : Bool), v2 = Value.bool t1 ∧ ifB t1 (Q (Value.bool (decide (n1 = 0))) h6) (Q (Value.bool false) h6)
theorem c19 {h : Hp} {Q : Value → Hp → Prop} (hG : G19 h Q) : callK prog 19 (SV.vals []) h Q :=
  calls_of_bodyK A19 (by kernel_rfl) func19 (by kernel_rfl) [] (of_decide_eq_true (by kernel_rfl)) (Eq.mp (by kernel_rfl : G19 h Q = bodyK prog f19 A19 Q [] h) hG)

def A20 : Ann := Ann.mk [(7, [(0, Ty.s), (10, Ty.s), (12, Ty.s), (45, Ty.s), (46, Ty.i IntKind.i64), (47, Ty.i IntKind.i64)])] [] [(9, [0, 1, 2, 3, 4, 5, 6, 7, 8, 9, 10])]
def G20 (a0 : Sl) (a1 : Sl) (a2 : Sl) (h : Hp) (Q : Value → Hp → Prop) : Prop :=
  callK prog 25 [vs a1, Value.int IntKind.i64 (↑a0.len : Int)] h fun (v1 : Value) (h1 : Hp) =>
    ∃ (s1 : Sl),
      ∃ (t1 : Bool),
        v1 = Value.tuple #[vs s1, Value.bool t1] ∧
          callK prog 25 [vs a2, Value.int IntKind.i64 (↑a0.len : Int)] h1 fun (v2 : Value) (h2 : Hp) =>
            ∃ (s2 : Sl),
              ∃ (t2 : Bool),
                v2 = Value.tuple #[vs s2, Value.bool t2] ∧
                  ifB (!decide ((↑a1.len : Int) = (↑a2.len : Int))) (Q (Value.tuple #[vs { p := none, len := 0, cap := 0 }, Value.int IntKind.i64 1]) h2)
                    (ifB (!t1) (Q (Value.tuple #[vs { p := none, len := 0, cap := 0 }, Value.int IntKind.i64 1]) h2)
                      (ifB (!t2) (Q (Value.tuple #[vs { p := none, len := 0, cap := 0 }, Value.int IntKind.i64 1]) h2)
                        (0 ≤ (↑a0.len : Int) ∧
                          (↑a0.len : Int) ≤ (↑a0.len : Int) ∧
                            8 * (↑a0.len : Int) ≤ 281474976710656 ∧
                              (↑a0.len : Int) ≤ 9223372036854775807 ∧
                                newK h2 (Obj.cells (zRow (if a0.len * 1 = 0 then #[] else (Value.int IntKind.u64 0).cells) (a0.len * 1)) 30) fun (b1 : Nat) (h3 : Hp) =>
                                  ∃ (J1 : Sl → Sl → Sl → Sl → Int → Int → Hp → Nat → Prop),
                                    (∃ (k1 : Nat), J1 a0 s2 { p := some { b := b1, o := 0 }, len := a0.len, cap := a0.len } s1 (↑s1.len : Int) 0 h3 k1) ∧
                                      ∀ (s3 s4 s5 s6 : Sl) (n1 n2 : Int) (h4 : Hp) (k2 : Nat),
                                        J1 s3 s4 s5 s6 n1 n2 h4 k2 →
                                          ifB (decide (n2 < n1))
                                            (∃ (q1 : Pt),
                                              s6.q = some q1 ∧
                                                0 ≤ n2 ∧
                                                  n2 + 1 ≤ (↑s6.len : Int) ∧
                                                    ∃ (n3 : Int),
                                                      hcell h4 q1.b (q1.o + n2.toNat * 1) = some (Value.int IntKind.i64 n3) ∧
                                                        ∃ (q2 : Pt),
                                                          s4.q = some q2 ∧
                                                            0 ≤ n2 ∧
                                                              n2 + 1 ≤ (↑s4.len : Int) ∧
                                                                ∃ (n4 : Int),
                                                                  hcell h4 q2.b (q2.o + n2.toNat * 1) = some (Value.int IntKind.i64 n4) ∧
                                                                    ∃ (q3 : Pt),
                                                                      s3.q = some q3 ∧
                                                                        0 ≤ n3 ∧
                                                                          n3 + 1 ≤ (↑s3.len : Int) ∧
                                                                            ∃ (x1 : UInt64),
                                                                              hcell h4 q3.b (q3.o + n3.toNat * 1) = some (vu x1) ∧
                                                                                ∃ (q4 : Pt),
                                                                                  s5.q = some q4 ∧
                                                                                    0 ≤ n4 ∧
                                                                                      n4 + 1 ≤ (↑s5.len : Int) ∧
                                                                                        storeK h4 { b := q4.b, o := q4.o + n4.toNat * 1 } [vu x1] fun (h5 : Hp) =>
                                                                                          ∃ (k3 : Nat), k3 < k2 ∧ J1 s3 s4 s5 s6 n1 (wrap64 (n2 + 1)) h5 k3)
                                            (Q (Value.tuple #[vs s5, Value.int IntKind.i64 0]) h4))))
theorem c20 (a0 : Sl) (a1 : Sl) (a2 : Sl) {h : Hp} {Q : Value → Hp → Prop} (hG : G20 a0 a1 a2 h Q) : callK prog 20 (SV.vals [SV.s a0, SV.s a1, SV.s a2]) h Q :=
  calls_of_bodyK A20 (by kernel_rfl) func20 (by kernel_rfl) [SV.s a0, SV.s a1, SV.s a2] (of_decide_eq_true (by kernel_rfl)) (Eq.mp (by kernel_rfl : G20 a0 a1 a2 h Q = bodyK prog f20 A20 Q [SV.s a0, SV.s a1, SV.s a2] h) hG)

def A21 : Ann := Ann.mk [(8, [(0, Ty.s), (8, Ty.i IntKind.i64), (9, Ty.s), (10, Ty.s), (11, Ty.s), (12, Ty.i IntKind.i64)])] [] [(10, [0, 1, 2, 3, 4, 5, 6, 7, 8, 9, 10, 11, 12, 13])]
def G21 (a0 : Sl) (a1 : Sl) (a2 : Sl) (h : Hp) (Q : Value → Hp → Prop) : Prop :=
  ifB (!decide ((↑a1.len : Int) = (↑a2.len : Int))) (Q (Value.tuple #[vs { p := none, len := 0, cap := 0 }, Value.int IntKind.i64 1]) h)
    (callK prog 26 [vs a1, Value.int IntKind.i64 (↑a0.len : Int)] h fun (v1 : Value) (h1 : Hp) =>
      ∃ (t1 : Bool),
        v1 = Value.bool t1 ∧
          ifB t1 (Q (Value.tuple #[vs { p := none, len := 0, cap := 0 }, Value.int IntKind.i64 1]) h1)
            (callK prog 26 [vs a2, Value.int IntKind.i64 (↑a0.len : Int)] h1 fun (v2 : Value) (h2 : Hp) =>
              ∃ (t2 : Bool),
                v2 = Value.bool t2 ∧
                  ifB t2 (Q (Value.tuple #[vs { p := none, len := 0, cap := 0 }, Value.int IntKind.i64 1]) h2)
                    (newK h2 (Obj.cells #[] 3) fun (b1 : Nat) (h3 : Hp) =>
                      appK prog 23 { p := some { b := b1, o := 0 }, len := 0, cap := 0 } (SV.s a1) h3 fun (s1 : Sl) (h4 : Hp) =>
                        callK prog 27 [vs a1, Value.int IntKind.i64 (↑a0.len : Int)] h4 fun (v3 : Value) (h5 : Hp) =>
                          ∃ (s2 : Sl),
                            v3 = vs s2 ∧
                              appK prog 23 s1 (SV.s s2) h5 fun (s3 : Sl) (h6 : Hp) =>
                                newK h6 (Obj.cells #[] 3) fun (b2 : Nat) (h7 : Hp) =>
                                  appK prog 23 { p := some { b := b2, o := 0 }, len := 0, cap := 0 } (SV.s a2) h7 fun (s4 : Sl) (h8 : Hp) =>
                                    callK prog 27 [vs a2, Value.int IntKind.i64 (↑a0.len : Int)] h8 fun (v4 : Value) (h9 : Hp) =>
                                      ∃ (s5 : Sl),
                                        v4 = vs s5 ∧
                                          appK prog 23 s4 (SV.s s5) h9 fun (s6 : Sl) (h10 : Hp) =>
                                            0 ≤ (↑a0.len : Int) ∧
                                              (↑a0.len : Int) ≤ (↑a0.len : Int) ∧
                                                8 * (↑a0.len : Int) ≤ 281474976710656 ∧
                                                  (↑a0.len : Int) ≤ 9223372036854775807 ∧
                                                    newK h10 (Obj.cells (zRow (if a0.len * 1 = 0 then #[] else (Value.int IntKind.u64 0).cells) (a0.len * 1)) 30) fun (b3 : Nat) (h11 : Hp) =>
                                                      ∃ (J1 : Sl → Int → Sl → Sl → Sl → Int → Hp → Nat → Prop),
                                                        (∃ (k1 : Nat), J1 a0 (↑a0.len : Int) s3 s6 { p := some { b := b3, o := 0 }, len := a0.len, cap := a0.len } 0 h11 k1) ∧
                                                          ∀ (s7 : Sl) (n1 : Int) (s8 s9 s10 : Sl) (n2 : Int) (h12 : Hp) (k2 : Nat),
                                                            J1 s7 n1 s8 s9 s10 n2 h12 k2 →
                                                              ifB (decide (n2 < n1))
                                                                (∃ (q1 : Pt),
                                                                  s9.q = some q1 ∧
                                                                    0 ≤ n2 ∧
                                                                      n2 + 1 ≤ (↑s9.len : Int) ∧
                                                                        ∃ (n3 : Int),
                                                                          hcell h12 q1.b (q1.o + n2.toNat * 1) = some (Value.int IntKind.i64 n3) ∧
                                                                            ∃ (q2 : Pt),
                                                                              s8.q = some q2 ∧
                                                                                0 ≤ n2 ∧
                                                                                  n2 + 1 ≤ (↑s8.len : Int) ∧
                                                                                    ∃ (n4 : Int),
                                                                                      hcell h12 q2.b (q2.o + n2.toNat * 1) = some (Value.int IntKind.i64 n4) ∧
                                                                                        ∃ (q3 : Pt),
                                                                                          s7.q = some q3 ∧
                                                                                            0 ≤ n4 ∧
                                                                                              n4 + 1 ≤ (↑s7.len : Int) ∧
                                                                                                ∃ (x1 : UInt64),
                                                                                                  hcell h12 q3.b (q3.o + n4.toNat * 1) = some (vu x1) ∧
                                                                                                    ∃ (q4 : Pt),
                                                                                                      s10.q = some q4 ∧
                                                                                                        0 ≤ n3 ∧
                                                                                                          n3 + 1 ≤ (↑s10.len : Int) ∧
                                                                                                            storeK h12 { b := q4.b, o := q4.o + n3.toNat * 1 } [vu x1] fun (h13 : Hp) =>
                                                                                                              ∃ (k3 : Nat), k3 < k2 ∧ J1 s7 n1 s8 s9 s10 (wrap64 (n2 + 1)) h13 k3)
                                                                (Q (Value.tuple #[vs s10, Value.int IntKind.i64 0]) h12))))
theorem c21 (a0 : Sl) (a1 : Sl) (a2 : Sl) {h : Hp} {Q : Value → Hp → Prop} (hG : G21 a0 a1 a2 h Q) : callK prog 21 (SV.vals [SV.s a0, SV.s a1, SV.s a2]) h Q :=
  calls_of_bodyK A21 (by kernel_rfl) func21 (by kernel_rfl) [SV.s a0, SV.s a1, SV.s a2] (of_decide_eq_true (by kernel_rfl)) (Eq.mp (by kernel_rfl : G21 a0 a1 a2 h Q = bodyK prog f21 A21 Q [SV.s a0, SV.s a1, SV.s a2] h) hG)

def A22 : Ann := Ann.mk [(4, [(0, Ty.s), (1, Ty.s), (5, Ty.i IntKind.i64)])] [] [(6, [0, 1, 2, 3, 4, 5, 6, 7, 8])]
def G22 (a0 : Sl) (a1 : Sl) (h : Hp) (Q : Value → Hp → Prop) : Prop :=
  ifB (!decide ((↑a0.len : Int) = (↑a1.len : Int))) (Q (Value.bool false) h)
    (∃ (J1 : Sl → Sl → Int → Hp → Nat → Prop),
      (∃ (k1 : Nat), J1 a0 a1 0 h k1) ∧
        ∀ (s1 s2 : Sl) (n1 : Int) (h1 : Hp) (k2 : Nat),
          J1 s1 s2 n1 h1 k2 →
            ifB (decide (n1 < (↑s1.len : Int)))
              (∃ (q1 : Pt),
                s1.q = some q1 ∧
                  0 ≤ n1 ∧
                    n1 + 1 ≤ (↑s1.len : Int) ∧
                      ∃ (x1 : UInt64),
                        hcell h1 q1.b (q1.o + n1.toNat * 1) = some (vu x1) ∧
                          ∃ (q2 : Pt),
                            s2.q = some q2 ∧
                              0 ≤ n1 ∧
                                n1 + 1 ≤ (↑s2.len : Int) ∧
                                  ∃ (x2 : UInt64), hcell h1 q2.b (q2.o + n1.toNat * 1) = some (vu x2) ∧ ifB (!decide (x1 = x2)) (Q (Value.bool false) h1) (∃ (k3 : Nat), k3 < k2 ∧ J1 s1 s2 (wrap64 (n1 + 1)) h1 k3))
              (Q (Value.bool true) h1))
theorem c22 (a0 : Sl) (a1 : Sl) {h : Hp} {Q : Value → Hp → Prop} (hG : G22 a0 a1 h Q) : callK prog 22 (SV.vals [SV.s a0, SV.s a1]) h Q :=
  calls_of_bodyK A22 (by kernel_rfl) func22 (by kernel_rfl) [SV.s a0, SV.s a1] (of_decide_eq_true (by kernel_rfl)) (Eq.mp (by kernel_rfl : G22 a0 a1 h Q = bodyK prog f22 A22 Q [SV.s a0, SV.s a1] h) hG)

def A23 : Ann := Ann.mk [(2, [(0, Ty.s), (1, Ty.i IntKind.i64), (5, Ty.i IntKind.i64)])] [] []
def G23 (a0 : Sl) (a1 : Int) (h : Hp) (Q : Value → Hp → Prop) : Prop :=
  ∃ (J1 : Sl → Int → Int → Hp → Nat → Prop),
    (∃ (k1 : Nat), J1 a0 a1 0 h k1) ∧
      ∀ (s1 : Sl) (n1 n2 : Int) (h1 : Hp) (k2 : Nat),
        J1 s1 n1 n2 h1 k2 →
          ifB (decide (n2 < (↑s1.len : Int)))
            (∃ (q1 : Pt),
              s1.q = some q1 ∧
                0 ≤ n2 ∧
                  n2 + 1 ≤ (↑s1.len : Int) ∧
                    ∃ (n3 : Int), hcell h1 q1.b (q1.o + n2.toNat * 1) = some (Value.int IntKind.i64 n3) ∧ ifB (decide (n3 = n1)) (Q (Value.bool true) h1) (∃ (k3 : Nat), k3 < k2 ∧ J1 s1 n1 (wrap64 (n2 + 1)) h1 k3))
            (Q (Value.bool false) h1)
theorem c23 (a0 : Sl) (a1 : Int) {h : Hp} {Q : Value → Hp → Prop} (hG : G23 a0 a1 h Q) : callK prog 23 (SV.vals [SV.s a0, SV.i IntKind.i64 a1]) h Q :=
  calls_of_bodyK A23 (by kernel_rfl) func23 (by kernel_rfl) [SV.s a0, SV.i IntKind.i64 a1] (of_decide_eq_true (by kernel_rfl)) (Eq.mp (by kernel_rfl : G23 a0 a1 h Q = bodyK prog f23 A23 Q [SV.s a0, SV.i IntKind.i64 a1] h) hG)

def A24 : Ann := Ann.mk [] [] []
def G24 (a0 : Sl) (h : Hp) (Q : Value → Hp → Prop) : Prop :=
  ifB a0.p.isNone (Q (vs { p := none, len := 0, cap := 0 }) h)
    (newK h (Obj.cells #[] 30) fun (b1 : Nat) (h1 : Hp) => appK prog 22 { p := some { b := b1, o := 0 }, len := 0, cap := 0 } (SV.s a0) h1 fun (s1 : Sl) (h2 : Hp) => Q (vs s1) h2)
theorem c24 (a0 : Sl) {h : Hp} {Q : Value → Hp → Prop} (hG : G24 a0 h Q) : callK prog 24 (SV.vals [SV.s a0]) h Q :=
  calls_of_bodyK A24 (by kernel_rfl) func24 (by kernel_rfl) [SV.s a0] (of_decide_eq_true (by kernel_rfl)) (Eq.mp (by kernel_rfl : G24 a0 h Q = bodyK prog f24 A24 Q [SV.s a0] h) hG)

def A25 : Ann := Ann.mk [(11, [(9, Ty.s), (40, Ty.s), (41, Ty.i IntKind.i64), (42, Ty.i IntKind.i64)]), (3, [(0, Ty.s), (1, Ty.i IntKind.i64), (6, Ty.s), (14, Ty.s), (15, Ty.i IntKind.i64), (16, Ty.i IntKind.i64)])] [] []
def G25 (a0 : Sl) (a1 : Int) (h : Hp) (Q : Value → Hp → Prop) : Prop :=
  0 ≤ a1 ∧
    a1 ≤ a1 ∧
      8 * a1 ≤ 281474976710656 ∧
        a1 ≤ 9223372036854775807 ∧
          newK h (Obj.cells (zRow (if a1.toNat * 1 = 0 then #[] else (Value.int IntKind.i64 0).cells) (a1.toNat * 1)) 3) fun (b1 : Nat) (h1 : Hp) =>
            ∃ (J1 : Sl → Int → Sl → Sl → Int → Int → Hp → Nat → Prop),
              (∃ (k1 : Nat), J1 a0 a1 { p := some { b := b1, o := 0 }, len := a1.toNat, cap := a1.toNat } a0 (↑a0.len : Int) 0 h1 k1) ∧
                ∀ (s1 : Sl) (n1 : Int) (s2 s3 : Sl) (n2 n3 : Int) (h2 : Hp) (k2 : Nat),
                  J1 s1 n1 s2 s3 n2 n3 h2 k2 →
                    ifB (decide (n3 < n2))
                      (∃ (q1 : Pt),
                        s3.q = some q1 ∧
                          0 ≤ n3 ∧
                            n3 + 1 ≤ (↑s3.len : Int) ∧
                              ∃ (n4 : Int),
                                hcell h2 q1.b (q1.o + n3.toNat * 1) = some (Value.int IntKind.i64 n4) ∧
                                  ifB (decide (n4 < 0)) (Q (Value.tuple #[vs { p := none, len := 0, cap := 0 }, Value.bool false]) h2)
                                    (ifB (decide (n1 ≤ n4)) (Q (Value.tuple #[vs { p := none, len := 0, cap := 0 }, Value.bool false]) h2)
                                      (∃ (q2 : Pt),
                                        s2.q = some q2 ∧
                                          0 ≤ n4 ∧
                                            n4 + 1 ≤ (↑s2.len : Int) ∧
                                              ∃ (n5 : Int),
                                                hcell h2 q2.b (q2.o + n4.toNat * 1) = some (Value.int IntKind.i64 n5) ∧
                                                  ifB (decide (0 < n5)) (Q (Value.tuple #[vs { p := none, len := 0, cap := 0 }, Value.bool false]) h2)
                                                    (∃ (q3 : Pt),
                                                      s2.q = some q3 ∧
                                                        0 ≤ n4 ∧
                                                          n4 + 1 ≤ (↑s2.len : Int) ∧
                                                            storeK h2 { b := q3.b, o := q3.o + n4.toNat * 1 } [Value.int IntKind.i64 1] fun (h3 : Hp) => ∃ (k3 : Nat), k3 < k2 ∧ J1 s1 n1 s2 s3 n2 (wrap64 (n3 + 1)) h3 k3))))
                      (callK prog 28 [vs s1] h2 fun (v1 : Value) (h4 : Hp) =>
                        ∃ (s4 : Sl),
                          v1 = vs s4 ∧
                            ∃ (J2 : Sl → Sl → Int → Int → Hp → Nat → Prop),
                              (∃ (k4 : Nat), J2 s4 s2 (↑s2.len : Int) 0 h4 k4) ∧
                                ∀ (s5 s6 : Sl) (n6 n7 : Int) (h5 : Hp) (k5 : Nat),
                                  J2 s5 s6 n6 n7 h5 k5 →
                                    ifB (decide (n7 < n6))
                                      (∃ (q4 : Pt),
                                        s6.q = some q4 ∧
                                          0 ≤ n7 ∧
                                            n7 + 1 ≤ (↑s6.len : Int) ∧
                                              ∃ (n8 : Int),
                                                hcell h5 q4.b (q4.o + n7.toNat * 1) = some (Value.int IntKind.i64 n8) ∧
                                                  ifB (decide (n8 = 0))
                                                    (newK h5 (Obj.cells #[Value.int IntKind.i64 n7] 3) fun (b2 : Nat) (h6 : Hp) =>
                                                      appK prog 23 s5 (SV.s { p := some { b := b2, o := 0 }, len := 1, cap := 1 }) h6 fun (s7 : Sl) (h7 : Hp) => ∃ (k6 : Nat), k6 < k5 ∧ J2 s7 s6 n6 (wrap64 (n7 + 1)) h7 k6)
                                                    (∃ (k7 : Nat), k7 < k5 ∧ J2 s5 s6 n6 (wrap64 (n7 + 1)) h5 k7))
                                      (Q (Value.tuple #[vs s5, Value.bool true]) h5))
theorem c25 (a0 : Sl) (a1 : Int) {h : Hp} {Q : Value → Hp → Prop} (hG : G25 a0 a1 h Q) : callK prog 25 (SV.vals [SV.s a0, SV.i IntKind.i64 a1]) h Q :=
  calls_of_bodyK A25 (by kernel_rfl) func25 (by kernel_rfl) [SV.s a0, SV.i IntKind.i64 a1] (of_decide_eq_true (by kernel_rfl)) (Eq.mp (by kernel_rfl : G25 a0 a1 h Q = bodyK prog f25 A25 Q [SV.s a0, SV.i IntKind.i64 a1] h) hG)

def A26 : Ann := Ann.mk [(7, [(0, Ty.s), (1, Ty.i IntKind.i64), (5, Ty.i IntKind.i64), (6, Ty.i IntKind.i64)]), (2, [(0, Ty.s), (1, Ty.i IntKind.i64), (5, Ty.i IntKind.i64)])] [] [(9, [0, 1, 2, 3, 4, 5, 6, 7, 8])]
def G26 (a0 : Sl) (a1 : Int) (h : Hp) (Q : Value → Hp → Prop) : Prop :=
  ∃ (J1 : Sl → Int → Int → Hp → Nat → Prop),
    (∃ (k1 : Nat), J1 a0 a1 0 h k1) ∧
      ∀ (s1 : Sl) (n1 n2 : Int) (h1 : Hp) (k2 : Nat),
        J1 s1 n1 n2 h1 k2 →
          ifB (decide (n2 < (↑s1.len : Int)))
            (∃ (q1 : Pt),
              s1.q = some q1 ∧
                0 ≤ n2 ∧
                  n2 + 1 ≤ (↑s1.len : Int) ∧
                    ∃ (n3 : Int),
                      hcell h1 q1.b (q1.o + n2.toNat * 1) = some (Value.int IntKind.i64 n3) ∧
                        ifB (decide (n3 < 0)) (Q (Value.bool true) h1)
                          (∃ (q2 : Pt),
                            s1.q = some q2 ∧
                              0 ≤ n2 ∧
                                n2 + 1 ≤ (↑s1.len : Int) ∧
                                  ∃ (n4 : Int),
                                    hcell h1 q2.b (q2.o + n2.toNat * 1) = some (Value.int IntKind.i64 n4) ∧
                                      ifB (decide (n1 ≤ n4)) (Q (Value.bool true) h1)
                                        (∃ (J2 : Sl → Int → Int → Int → Hp → Nat → Prop),
                                          (∃ (k3 : Nat), J2 s1 n1 n2 0 h1 k3) ∧
                                            ∀ (s2 : Sl) (n5 n6 n7 : Int) (h2 : Hp) (k4 : Nat),
                                              J2 s2 n5 n6 n7 h2 k4 →
                                                ifB (decide (n7 < n6))
                                                  (∃ (q3 : Pt),
                                                    s2.q = some q3 ∧
                                                      0 ≤ n7 ∧
                                                        n7 + 1 ≤ (↑s2.len : Int) ∧
                                                          ∃ (n8 : Int),
                                                            hcell h2 q3.b (q3.o + n7.toNat * 1) = some (Value.int IntKind.i64 n8) ∧
                                                              ∃ (q4 : Pt),
                                                                s2.q = some q4 ∧
                                                                  0 ≤ n6 ∧
                                                                    n6 + 1 ≤ (↑s2.len : Int) ∧
                                                                      ∃ (n9 : Int),
                                                                        hcell h2 q4.b (q4.o + n6.toNat * 1) = some (Value.int IntKind.i64 n9) ∧
                                                                          ifB (decide (n8 = n9)) (Q (Value.bool true) h2) (∃ (k5 : Nat), k5 < k4 ∧ J2 s2 n5 n6 (wrap64 (n7 + 1)) h2 k5))
                                                  (∃ (k6 : Nat), k6 < k2 ∧ J1 s2 n5 (wrap64 (n6 + 1)) h2 k6))))
            (Q (Value.bool false) h1)
theorem c26 (a0 : Sl) (a1 : Int) {h : Hp} {Q : Value → Hp → Prop} (hG : G26 a0 a1 h Q) : callK prog 26 (SV.vals [SV.s a0, SV.i IntKind.i64 a1]) h Q :=
  calls_of_bodyK A26 (by kernel_rfl) func26 (by kernel_rfl) [SV.s a0, SV.i IntKind.i64 a1] (of_decide_eq_true (by kernel_rfl)) (Eq.mp (by kernel_rfl : G26 a0 a1 h Q = bodyK prog f26 A26 Q [SV.s a0, SV.i IntKind.i64 a1] h) hG)

def A27 : Ann := Ann.mk [(7, [(0, Ty.s), (1, Ty.i IntKind.i64), (5, Ty.s), (6, Ty.i IntKind.i64), (7, Ty.b), (8, Ty.i IntKind.i64)]), (3, [(0, Ty.s), (1, Ty.i IntKind.i64), (5, Ty.s), (6, Ty.i IntKind.i64)])] [] []
def G27 (a0 : Sl) (a1 : Int) (h : Hp) (Q : Value → Hp → Prop) : Prop :=
  ∃ (J1 : Sl → Int → Sl → Int → Hp → Nat → Prop),
    (∃ (k1 : Nat), J1 a0 a1 { p := none, len := 0, cap := 0 } 0 h k1) ∧
      ∀ (s1 : Sl) (n1 : Int) (s2 : Sl) (n2 : Int) (h1 : Hp) (k2 : Nat),
        J1 s1 n1 s2 n2 h1 k2 →
          ifB (decide (n2 < n1))
            (∃ (J2 : Sl → Int → Sl → Int → Bool → Int → Hp → Nat → Prop),
              (∃ (k3 : Nat), J2 s1 n1 s2 n2 false 0 h1 k3) ∧
                ∀ (s3 : Sl) (n3 : Int) (s4 : Sl) (n4 : Int) (t1 : Bool) (n5 : Int) (h2 : Hp) (k4 : Nat),
                  J2 s3 n3 s4 n4 t1 n5 h2 k4 →
                    ifB (decide (n5 < (↑s3.len : Int)))
                      (∃ (q1 : Pt),
                        s3.q = some q1 ∧
                          0 ≤ n5 ∧
                            n5 + 1 ≤ (↑s3.len : Int) ∧
                              ∃ (n6 : Int),
                                hcell h2 q1.b (q1.o + n5.toNat * 1) = some (Value.int IntKind.i64 n6) ∧
                                  ifB (decide (n6 = n4)) (∃ (k5 : Nat), k5 < k4 ∧ J2 s3 n3 s4 n4 true (wrap64 (n5 + 1)) h2 k5) (∃ (k6 : Nat), k6 < k4 ∧ J2 s3 n3 s4 n4 t1 (wrap64 (n5 + 1)) h2 k6))
                      (ifB (!t1)
                        (newK h2 (Obj.cells #[Value.int IntKind.i64 n4] 3) fun (b1 : Nat) (h3 : Hp) =>
                          appK prog 23 s4 (SV.s { p := some { b := b1, o := 0 }, len := 1, cap := 1 }) h3 fun (s5 : Sl) (h4 : Hp) => ∃ (k7 : Nat), k7 < k2 ∧ J1 s3 n3 s5 (wrap64 (n4 + 1)) h4 k7)
                        (∃ (k8 : Nat), k8 < k2 ∧ J1 s3 n3 s4 (wrap64 (n4 + 1)) h2 k8)))
            (Q (vs s2) h1)
theorem c27 (a0 : Sl) (a1 : Int) {h : Hp} {Q : Value → Hp → Prop} (hG : G27 a0 a1 h Q) : callK prog 27 (SV.vals [SV.s a0, SV.i IntKind.i64 a1]) h Q :=
  calls_of_bodyK A27 (by kernel_rfl) func27 (by kernel_rfl) [SV.s a0, SV.i IntKind.i64 a1] (of_decide_eq_true (by kernel_rfl)) (Eq.mp (by kernel_rfl : G27 a0 a1 h Q = bodyK prog f27 A27 Q [SV.s a0, SV.i IntKind.i64 a1] h) hG)

def A28 : Ann := Ann.mk [] [] []
def G28 (a0 : Sl) (h : Hp) (Q : Value → Hp → Prop) : Prop :=
  ifB a0.p.isNone (Q (vs { p := none, len := 0, cap := 0 }) h)
    (newK h (Obj.cells #[] 3) fun (b1 : Nat) (h1 : Hp) => appK prog 23 { p := some { b := b1, o := 0 }, len := 0, cap := 0 } (SV.s a0) h1 fun (s1 : Sl) (h2 : Hp) => Q (vs s1) h2)
theorem c28 (a0 : Sl) {h : Hp} {Q : Value → Hp → Prop} (hG : G28 a0 h Q) : callK prog 28 (SV.vals [SV.s a0]) h Q :=
  calls_of_bodyK A28 (by kernel_rfl) func28 (by kernel_rfl) [SV.s a0] (of_decide_eq_true (by kernel_rfl)) (Eq.mp (by kernel_rfl : G28 a0 h Q = bodyK prog f28 A28 Q [SV.s a0] h) hG)

end Go.Proofs.Try
