/- Functions of the program as shallow code, printed by a program of the author's, and that each is what the generator makes.
Conditions: none. -/
import Derived.Test.YtjlhclmgjdabfaaGreatSh16
namespace Go.Proofs.YtjlhclmgjdabfaaGreat
set_option linter.unusedSimpArgs false
set_option linter.unusedSectionVars false
open Go Go.Ax
set_option linter.unusedVariables false
set_option maxRecDepth 1000000
noncomputable def d3 (call : CallH) (lf : Nat) (a0_0 : Int) (a0_1 : Int) (a0_2 : SV) (a0_3 : SV) (a1_0 : Int) (a1_1 : Int) (a1_2 : Int) (a1_3 : Int) (a1_4 : SV) : Tr Value :=
 (Tr.op (newM [(Value.int IntKind.i64 a0_0), (Value.int IntKind.i64 a0_1), (Value.slice a0_2.a a0_2.n a0_2.c), (Value.slice a0_3.a a0_3.n a0_3.c)]) (fun (x0 : Nat) =>
  (Tr.op (newM [(Value.int IntKind.i64 a1_0), (Value.int IntKind.i64 a1_1), (Value.int IntKind.i64 a1_2), (Value.int IntKind.i64 a1_3), (Value.slice a1_4.a a1_4.n a1_4.c)]) (fun (x1 : Nat) =>
   (Tr.op (fldM 1 (some (Addr.mk x0 0 none))) (fun (x2 : Addr) =>
    (Tr.op (fldM 1 (some x2)) (fun (x3 : Addr) =>
     (Tr.op (ldM (S2.one S1.slice) (some x3)) (fun (x4 : SV) =>
      (cond (iLt 8 (Int.ofNat x4.n))
        (Tr.ret (Value.bool true))
        (Tr.op (fldM 3 (some (Addr.mk x0 0 none))) (fun (x5 : Addr) =>
         (Tr.op (ldM (S2.one S1.slice) (some x5)) (fun (x6 : SV) =>
          (cond (iLt 1100 (Int.ofNat x6.n))
            (Tr.ret (Value.bool true))
            (Tr.op (fldM 4 (some (Addr.mk x1 0 none))) (fun (x7 : Addr) =>
             (Tr.op (ldM (S2.one S1.slice) (some x7)) (fun (x8 : SV) =>
              (cond (iLt 10 (Int.ofNat x8.n))
                (Tr.ret (Value.bool true))
                (Tr.op (ldM (S2.agg [(S1.int IntKind.i64), (S1.int IntKind.i64), (S1.int IntKind.i64), (S1.int IntKind.i64), S1.slice]) (some (Addr.mk x1 0 none))) (fun (x9 : (Int × (Int × (Int × (Int × (SV × Unit)))))) =>
                 (Tr.op (ty3 (S3.v (S2.agg [(S1.int IntKind.i64), (S1.int IntKind.i64), S1.slice, S1.slice])) (call (Tgt.fn 7) [(Value.agg (Array.mk [(Value.int IntKind.i64 x9.1), (Value.int IntKind.i64 x9.2.1), (Value.int IntKind.i64 x9.2.2.1), (Value.int IntKind.i64 x9.2.2.2.1), (Value.slice x9.2.2.2.2.1.a x9.2.2.2.2.1.n x9.2.2.2.2.1.c)])), (Value.int IntKind.i64 3)])) (fun (x10 : (Int × (Int × (SV × (SV × Unit))))) =>
                  (Tr.op (newM [(Value.int IntKind.i64 0), (Value.int IntKind.i64 0), (Value.slice none 0 0), (Value.slice none 0 0)]) (fun (x11 : Nat) =>
                   (Tr.op (stM [(Value.int IntKind.i64 x10.1), (Value.int IntKind.i64 x10.2.1), (Value.slice x10.2.2.1.a x10.2.2.1.n x10.2.2.1.c), (Value.slice x10.2.2.2.1.a x10.2.2.2.1.n x10.2.2.2.1.c)] (some (Addr.mk x11 0 none))) (fun (x12 : Unit) =>
                    (Tr.op begW (fun (x13 : (Nat × (List Nat))) =>
                     (Tr.op (ty3 (S3.v (S2.one S1.bool)) (call (Tgt.fn 8) [])) (fun (x14 : Bool) =>
                      (Tr.op (endW x13.2) (fun (x15 : (List Nat)) =>
                       (cond x14
                         (Tr.op (ldM (S2.agg [(S1.int IntKind.i64), (S1.int IntKind.i64), S1.slice, S1.slice]) (some (Addr.mk x0 0 none))) (fun (x16 : (Int × (Int × (SV × (SV × Unit))))) =>
                          (Tr.op begW (fun (x17 : (Nat × (List Nat))) =>
                           (Tr.op (ty3 (S3.v (S2.one (S1.int IntKind.i64))) (call (Tgt.fn 9) [(Value.agg (Array.mk [(Value.int IntKind.i64 x16.1), (Value.int IntKind.i64 x16.2.1), (Value.slice x16.2.2.1.a x16.2.2.1.n x16.2.2.1.c), (Value.slice x16.2.2.2.1.a x16.2.2.2.1.n x16.2.2.2.1.c)]))])) (fun (x18 : Int) =>
                            (Tr.op (endW x17.2) (fun (x19 : (List Nat)) =>
                             (Tr.op (fldM 0 (some (Addr.mk x0 0 none))) (fun (x20 : Addr) =>
                              (cond (clrP 19 (some x20) [(3, (x17.1, x19)), (0, (x13.1, x15))])
                                (Tr.op (ldM (S2.one (S1.int IntKind.i64)) (some x20)) (fun (x21 : Int) =>
                                 (Tr.op (fldM 1 (some (Addr.mk x0 0 none))) (fun (x22 : Addr) =>
                                  (cond (clrP 67 (some x22) [(3, (x17.1, x19)), (0, (x13.1, x15))])
                                    (Tr.op (ldM (S2.agg [(S1.int IntKind.i64), S1.slice]) (some x22)) (fun (x23 : (Int × (SV × Unit))) =>
                                     (Tr.op (fldM 3 (some (Addr.mk x0 0 none))) (fun (x24 : Addr) =>
                                      (cond (clrP 259 (some x24) [(3, (x17.1, x19)), (0, (x13.1, x15))])
                                        (Tr.op (ldM (S2.one S1.slice) (some x24)) (fun (x25 : SV) =>
                                         (Tr.op begW (fun (x26 : (Nat × (List Nat))) =>
                                          (Tr.op (ty3 (S3.v (S2.one (S1.int IntKind.i64))) (call (Tgt.fn 10) [(Value.int IntKind.i64 x21), (Value.agg (Array.mk [(Value.int IntKind.i64 x23.1), (Value.slice x23.2.1.a x23.2.1.n x23.2.1.c)])), (Value.slice x25.a x25.n x25.c)])) (fun (x27 : Int) =>
                                           (Tr.op (endW x26.2) (fun (x28 : (List Nat)) =>
                                            (cond (iEq x18 x27)
                                              (Tr.op (ldM (S2.agg [(S1.int IntKind.i64), (S1.int IntKind.i64), S1.slice, S1.slice]) (some (Addr.mk x11 0 none))) (fun (x29 : (Int × (Int × (SV × (SV × Unit))))) =>
                                               (Tr.op begW (fun (x30 : (Nat × (List Nat))) =>
                                                (Tr.op (ty3 (S3.v (S2.one (S1.int IntKind.i64))) (call (Tgt.fn 9) [(Value.agg (Array.mk [(Value.int IntKind.i64 x29.1), (Value.int IntKind.i64 x29.2.1), (Value.slice x29.2.2.1.a x29.2.2.1.n x29.2.2.1.c), (Value.slice x29.2.2.2.1.a x29.2.2.2.1.n x29.2.2.2.1.c)]))])) (fun (x31 : Int) =>
                                                 (Tr.op (endW x30.2) (fun (x32 : (List Nat)) =>
                                                  (Tr.op (fldM 0 (some (Addr.mk x11 0 none))) (fun (x33 : Addr) =>
                                                   (cond (clrP 81919 (some x33) [(15, (x30.1, x32)), (10, (x26.1, x28)), (3, (x17.1, x19)), (0, (x13.1, x15))])
                                                     (Tr.op (ldM (S2.one (S1.int IntKind.i64)) (some x33)) (fun (x34 : Int) =>
                                                      (Tr.op (fldM 1 (some (Addr.mk x11 0 none))) (fun (x35 : Addr) =>
                                                       (cond (clrP 278527 (some x35) [(15, (x30.1, x32)), (10, (x26.1, x28)), (3, (x17.1, x19)), (0, (x13.1, x15))])
                                                         (Tr.op (ldM (S2.agg [(S1.int IntKind.i64), S1.slice]) (some x35)) (fun (x36 : (Int × (SV × Unit))) =>
                                                          (Tr.op (fldM 3 (some (Addr.mk x11 0 none))) (fun (x37 : Addr) =>
                                                           (cond (clrP 1064959 (some x37) [(15, (x30.1, x32)), (10, (x26.1, x28)), (3, (x17.1, x19)), (0, (x13.1, x15))])
                                                             (Tr.op (ldM (S2.one S1.slice) (some x37)) (fun (x38 : SV) =>
                                                              (Tr.op begW (fun (x39 : (Nat × (List Nat))) =>
                                                               (Tr.op (ty3 (S3.v (S2.one (S1.int IntKind.i64))) (call (Tgt.fn 10) [(Value.int IntKind.i64 x34), (Value.agg (Array.mk [(Value.int IntKind.i64 x36.1), (Value.slice x36.2.1.a x36.2.1.n x36.2.1.c)])), (Value.slice x38.a x38.n x38.c)])) (fun (x40 : Int) =>
                                                                (Tr.op (endW x39.2) (fun (x41 : (List Nat)) =>
                                                                 (Tr.ret (Value.bool (iEq x31 x40)))))))))))
                                                             Tr.fail)))))
                                                         Tr.fail)))))
                                                     Tr.fail)))))))))))
                                              (Tr.op begW (fun (x42 : (Nat × (List Nat))) =>
                                               (Tr.op (endW x42.2) (fun (x43 : (List Nat)) =>
                                                (Tr.op begW (fun (x44 : (Nat × (List Nat))) =>
                                                 (Tr.op (endW x44.2) (fun (x45 : (List Nat)) =>
                                                  (Tr.ret (Value.bool false)))))))))))))))))))
                                        Tr.fail)))))
                                    Tr.fail)))))
                                Tr.fail)))))))))))
                         (Tr.op begW (fun (x46 : (Nat × (List Nat))) =>
                          (Tr.op (endW x46.2) (fun (x47 : (List Nat)) =>
                           (Tr.op begW (fun (x48 : (Nat × (List Nat))) =>
                            (Tr.op (endW x48.2) (fun (x49 : (List Nat)) =>
                             (Tr.op begW (fun (x50 : (Nat × (List Nat))) =>
                              (Tr.op (endW x50.2) (fun (x51 : (List Nat)) =>
                               (Tr.op begW (fun (x52 : (Nat × (List Nat))) =>
                                (Tr.op (endW x52.2) (fun (x53 : (List Nat)) =>
                                 (Tr.ret (Value.bool false))))))))))))))))))))))))))))))))))))))))))))))))))))))
theorem d3_eq (call : CallH) (lf : Nat) (a0_0 : Int) (a0_1 : Int) (a0_2 : SV) (a0_3 : SV) (a1_0 : Int) (a1_1 : Int) (a1_2 : Int) (a1_3 : Int) (a1_4 : SV) : gFn sh16 env16 call lf [(Value.agg (Array.mk [(Value.int IntKind.i64 a0_0), (Value.int IntKind.i64 a0_1), (Value.slice a0_2.a a0_2.n a0_2.c), (Value.slice a0_3.a a0_3.n a0_3.c)])), (Value.agg (Array.mk [(Value.int IntKind.i64 a1_0), (Value.int IntKind.i64 a1_1), (Value.int IntKind.i64 a1_2), (Value.int IntKind.i64 a1_3), (Value.slice a1_4.a a1_4.n a1_4.c)]))] Tryz.f3 = d3 call lf a0_0 a0_1 a0_2 a0_3 a1_0 a1_1 a1_2 a1_3 a1_4 := by kernel_rfl

noncomputable def d7 (call : CallH) (lf : Nat) (a0_0 : Int) (a0_1 : Int) (a0_2 : Int) (a0_3 : Int) (a0_4 : SV) (a1 : Int) : Tr Value :=
 (Tr.op (newM [(Value.int IntKind.i64 a0_0), (Value.int IntKind.i64 a0_1), (Value.int IntKind.i64 a0_2), (Value.int IntKind.i64 a0_3), (Value.slice a0_4.a a0_4.n a0_4.c)]) (fun (x0 : Nat) =>
  (Tr.op (newM [(Value.int IntKind.i64 0), (Value.int IntKind.i64 0), (Value.slice none 0 0), (Value.slice none 0 0)]) (fun (x1 : Nat) =>
   (Tr.op (fldM 0 (some (Addr.mk x0 0 none))) (fun (x2 : Addr) =>
    (Tr.op (ldM (S2.one (S1.int IntKind.i64)) (some x2)) (fun (x3 : Int) =>
     (Tr.op (ty3 (S3.v (S2.one (S1.int IntKind.i64))) (call (Tgt.fn 17) [(Value.int IntKind.i64 x3)])) (fun (x4 : Int) =>
      (Tr.op (ty3 (S3.v (S2.agg [(S1.int IntKind.i64), S1.slice])) (call (Tgt.fn 21) [(Value.int IntKind.i64 a1)])) (fun (x5 : (Int × (SV × Unit))) =>
       (Tr.op (newM [(Value.int IntKind.i64 0), (Value.int IntKind.i64 0), (Value.slice none 0 0), (Value.slice none 0 0)]) (fun (x6 : Nat) =>
        (Tr.op (stM [(Value.int IntKind.i64 x4), (Value.int IntKind.i64 x5.1), (Value.slice x5.2.1.a x5.2.1.n x5.2.1.c), (Value.slice none 0 0)] (some (Addr.mk x6 0 none))) (fun (x7 : Unit) =>
         (Tr.bind (β := Unit)
           (Tr.op (fldM 1 (some (Addr.mk x0 0 none))) (fun (x8 : Addr) =>
            (Tr.op (ldM (S2.one (S1.int IntKind.i64)) (some x8)) (fun (x9 : Int) =>
             (Tr.op (ty3 (S3.v (S2.one (S1.int IntKind.i64))) (call (Tgt.fn 11) [(Value.int IntKind.i64 x9), (Value.int IntKind.i64 3)])) (fun (x10 : Int) =>
              (cond (iLt 0 x10)
                (Tr.op (fldM 1 (some (Addr.mk x0 0 none))) (fun (x11 : Addr) =>
                 (Tr.op (ldM (S2.one (S1.int IntKind.i64)) (some x11)) (fun (x12 : Int) =>
                  (Tr.op (ty3 (S3.v (S2.agg [(S1.int IntKind.i64), S1.slice])) (call (Tgt.fn 28) [(Value.int IntKind.i64 0), (Value.int IntKind.i64 x12), (Value.int IntKind.i64 31), (Value.slice none 0 0), (Value.int IntKind.i64 a1)])) (fun (x13 : (Int × (SV × Unit))) =>
                   (Tr.op (fldM 1 (some (Addr.mk x6 0 none))) (fun (x14 : Addr) =>
                    (Tr.op (stM [(Value.int IntKind.i64 x13.1), (Value.slice x13.2.1.a x13.2.1.n x13.2.1.c)] (some x14)) (fun (x15 : Unit) =>
                     (Tr.ret ())))))))))))
                (Tr.ret ()))))))))
          (fun (x16 : Unit) =>
          (Tr.op (newM [(Value.bool false), (Value.bool false), (Value.bool false), (Value.bool false), (Value.bool false), (Value.bool false), (Value.bool false), (Value.bool false), (Value.bool false), (Value.bool false), (Value.bool false), (Value.bool false), (Value.bool false), (Value.bool false), (Value.bool false), (Value.bool false)]) (fun (x17 : Nat) =>
           (Tr.loop (β := (Int × Unit)) (γ := Unit) (fun (x18 : (Int × Unit)) =>
            (Tr.op (fldM 4 (some (Addr.mk x0 0 none))) (fun (x19 : Addr) =>
             (Tr.op (ldM (S2.one S1.slice) (some x19)) (fun (x20 : SV) =>
              (cond (iLt x18.1 (Int.ofNat x20.n))
                (Tr.op (fldM 4 (some (Addr.mk x0 0 none))) (fun (x21 : Addr) =>
                 (Tr.op (ldM (S2.one S1.slice) (some x21)) (fun (x22 : SV) =>
                  (Tr.op (ixP 1 x22.n x22.a IntKind.i64 x18.1) (fun (x23 : Addr) =>
                   (Tr.op (ldM (S2.one (S1.int IntKind.i64)) (some x23)) (fun (x24 : Int) =>
                    (Tr.op (fldM 0 (some (Addr.mk x6 0 none))) (fun (x25 : Addr) =>
                     (Tr.op (ldM (S2.one (S1.int IntKind.i64)) (some x25)) (fun (x26 : Int) =>
                      (Tr.op begW (fun (x27 : (Nat × (List Nat))) =>
                       (Tr.op (ty3 (S3.v (S2.one (S1.int IntKind.i64))) (call (Tgt.fn 11) [(Value.int IntKind.i64 x24), (Value.int IntKind.i64 (wrapK IntKind.i64 (Int.sub x26 96)))])) (fun (x28 : Int) =>
                        (Tr.op (endW x27.2) (fun (x29 : (List Nat)) =>
                         (Tr.op (ixP 1 16 (some (Addr.mk x17 0 none)) IntKind.i64 x28) (fun (x30 : Addr) =>
                          (Tr.op begW (fun (x31 : (Nat × (List Nat))) =>
                           (Tr.op (stM [(Value.bool true)] (some x30)) (fun (x32 : Unit) =>
                            (Tr.op (endW x31.2) (fun (x33 : (List Nat)) =>
                             (Tr.ret (Sum.inl ((wrapK IntKind.i64 (Int.add x18.1 1)), ())))))))))))))))))))))))))))))
                (Tr.ret (Sum.inr ()))))))))
            lf (0, ()) (fun (x34 : Unit) =>
            (Tr.loop (β := (Int × Unit)) (γ := Unit) (fun (x35 : (Int × Unit)) =>
             (cond (iLt x35.1 16)
               (Tr.bind (β := Unit)
                 (Tr.op (ixP 1 16 (some (Addr.mk x17 0 none)) IntKind.i64 x35.1) (fun (x36 : Addr) =>
                  (Tr.op (ldM (S2.one S1.bool) (some x36)) (fun (x37 : Bool) =>
                   (cond x37
                     (Tr.op (fldM 3 (some (Addr.mk x6 0 none))) (fun (x38 : Addr) =>
                      (Tr.op (ldM (S2.one S1.slice) (some x38)) (fun (x39 : SV) =>
                       (Tr.op (bsM 1 1 [(Value.int IntKind.i64 0)] [(0, (Value.int IntKind.i64 (wrapK IntKind.i64 (Int.add 96 x35.1))))]) (fun (x40 : Nat) =>
                        (Tr.op (apM 1 8 (Value.slice x39.a x39.n x39.c) (Value.slice (some (Addr.mk x40 0 none)) 1 1)) (fun (x41 : SV) =>
                         (Tr.op (fldM 3 (some (Addr.mk x6 0 none))) (fun (x42 : Addr) =>
                          (Tr.op (stM [(Value.slice x41.a x41.n x41.c)] (some x42)) (fun (x43 : Unit) =>
                           (Tr.ret ())))))))))))))
                     (Tr.ret ()))))))
                (fun (x44 : Unit) =>
                (Tr.ret (Sum.inl ((wrapK IntKind.i64 (Int.add x35.1 1)), ())))))
               (Tr.ret (Sum.inr ()))))
             lf (0, ()) (fun (x45 : Unit) =>
             (Tr.op (fldM 3 (some (Addr.mk x0 0 none))) (fun (x46 : Addr) =>
              (Tr.op (ldM (S2.one (S1.int IntKind.i64)) (some x46)) (fun (x47 : Int) =>
               (Tr.op (fldM 3 (some (Addr.mk x6 0 none))) (fun (x48 : Addr) =>
                (Tr.op (ldM (S2.one S1.slice) (some x48)) (fun (x49 : SV) =>
                 (Tr.op (ty3 (S3.v (S2.one (S1.int IntKind.i64))) (call (Tgt.fn 11) [(Value.int IntKind.i64 x47), (Value.int IntKind.i64 (maxI 1 (Int.ofNat x49.n)))])) (fun (x50 : Int) =>
                  (Tr.bind (β := Unit)
                    (Tr.op (fldM 2 (some (Addr.mk x0 0 none))) (fun (x51 : Addr) =>
                     (Tr.op (ldM (S2.one (S1.int IntKind.i64)) (some x51)) (fun (x52 : Int) =>
                      (Tr.op (ty3 (S3.v (S2.one (S1.int IntKind.i64))) (call (Tgt.fn 11) [(Value.int IntKind.i64 x52), (Value.int IntKind.i64 12)])) (fun (x53 : Int) =>
                       (cond (iEq x53 0)
                         (Tr.op (fldM 3 (some (Addr.mk x0 0 none))) (fun (x54 : Addr) =>
                          (Tr.op (ldM (S2.one (S1.int IntKind.i64)) (some x54)) (fun (x55 : Int) =>
                           (Tr.op (ty3 (S3.v (S2.one (S1.int IntKind.i64))) (call (Tgt.fn 11) [(Value.int IntKind.i64 x55), (Value.int IntKind.i64 300)])) (fun (x56 : Int) =>
                            (Tr.op (fldM 0 (some (Addr.mk x6 0 none))) (fun (x57 : Addr) =>
                             (Tr.op (stM [(Value.int IntKind.i64 x56)] (some x57)) (fun (x58 : Unit) =>
                              (Tr.ret ())))))))))))
                         (cond (iEq x53 1)
                           (Tr.op (fldM 1 (some (Addr.mk x6 0 none))) (fun (x59 : Addr) =>
                            (Tr.op (fldM 1 (some x59)) (fun (x60 : Addr) =>
                             (Tr.op (ldM (S2.one S1.slice) (some x60)) (fun (x61 : SV) =>
                              (Tr.op (slS 3 (SV.mk x61.a x61.n x61.c) (some (Value.int IntKind.i64 1)) none none) (fun (x62 : SV) =>
                               (Tr.op (apM 3 24 (Value.slice none 0 0) (Value.slice x62.a x62.n x62.c)) (fun (x63 : SV) =>
                                (Tr.op (fldM 1 (some (Addr.mk x6 0 none))) (fun (x64 : Addr) =>
                                 (Tr.op (fldM 1 (some x64)) (fun (x65 : Addr) =>
                                  (Tr.op (stM [(Value.slice x63.a x63.n x63.c)] (some x65)) (fun (x66 : Unit) =>
                                   (Tr.ret ())))))))))))))))))
                           (cond (iEq x53 2)
                             (Tr.op (fldM 3 (some (Addr.mk x6 0 none))) (fun (x67 : Addr) =>
                              (Tr.op (ldM (S2.one S1.slice) (some x67)) (fun (x68 : SV) =>
                               (cond (iLt 0 (Int.ofNat x68.n))
                                 (Tr.op (fldM 3 (some (Addr.mk x0 0 none))) (fun (x69 : Addr) =>
                                  (Tr.op (ldM (S2.one (S1.int IntKind.i64)) (some x69)) (fun (x70 : Int) =>
                                   (Tr.op begW (fun (x71 : (Nat × (List Nat))) =>
                                    (Tr.op (ty3 (S3.v (S2.one (S1.int IntKind.i64))) (call (Tgt.fn 11) [(Value.int IntKind.i64 (wrapK IntKind.i64 (Int.tdiv x70 16))), (Value.int IntKind.i64 9)])) (fun (x72 : Int) =>
                                     (Tr.op (endW x71.2) (fun (x73 : (List Nat)) =>
                                      (Tr.op (fldM 3 (some (Addr.mk x6 0 none))) (fun (x74 : Addr) =>
                                       (cond (clrP 1 (some x74) [(11, (x71.1, x73))])
                                         (Tr.op (ldM (S2.one S1.slice) (some x74)) (fun (x75 : SV) =>
                                          (Tr.op (fldM 3 (some (Addr.mk x6 0 none))) (fun (x76 : Addr) =>
                                           (cond (clrP 8 (some x76) [(11, (x71.1, x73))])
                                             (Tr.op (ldM (S2.one S1.slice) (some x76)) (fun (x77 : SV) =>
                                              (Tr.op (ixP 1 x77.n x77.a IntKind.i64 x50) (fun (x78 : Addr) =>
                                               (cond (clrP 120 (some x78) [(11, (x71.1, x73))])
                                                 (Tr.op (ldM (S2.one (S1.int IntKind.i64)) (some x78)) (fun (x79 : Int) =>
                                                  (Tr.op (ixP 1 x75.n x75.a IntKind.i64 x50) (fun (x80 : Addr) =>
                                                   (Tr.op begW (fun (x81 : (Nat × (List Nat))) =>
                                                    (Tr.op (stM [(Value.int IntKind.i64 (wrapK IntKind.i64 (Int.sub (wrapK IntKind.i64 (Int.add x79 x72)) 4)))] (some x80)) (fun (x82 : Unit) =>
                                                     (Tr.op (endW x81.2) (fun (x83 : (List Nat)) =>
                                                      (Tr.ret ())))))))))))
                                                 Tr.fail)))))
                                             Tr.fail)))))
                                         Tr.fail)))))))))))))
                                 (Tr.ret ()))))))
                             (Tr.ret ()))))))))))
                   (fun (x84 : Unit) =>
                   (Tr.op (ldM (S2.agg [(S1.int IntKind.i64), (S1.int IntKind.i64), S1.slice, S1.slice]) (some (Addr.mk x6 0 none))) (fun (x85 : (Int × (Int × (SV × (SV × Unit))))) =>
                    (Tr.op (stM [(Value.int IntKind.i64 x85.1), (Value.int IntKind.i64 x85.2.1), (Value.slice x85.2.2.1.a x85.2.2.1.n x85.2.2.1.c), (Value.slice x85.2.2.2.1.a x85.2.2.2.1.n x85.2.2.2.1.c)] (some (Addr.mk x1 0 none))) (fun (x86 : Unit) =>
                     (Tr.op (ldM (S2.agg [(S1.int IntKind.i64), (S1.int IntKind.i64), S1.slice, S1.slice]) (some (Addr.mk x1 0 none))) (fun (x87 : (Int × (Int × (SV × (SV × Unit))))) =>
                      (Tr.ret (Value.agg (Array.mk [(Value.int IntKind.i64 x87.1), (Value.int IntKind.i64 x87.2.1), (Value.slice x87.2.2.1.a x87.2.2.1.n x87.2.2.1.c), (Value.slice x87.2.2.2.1.a x87.2.2.2.1.n x87.2.2.2.1.c)])))))))))))))))))))))))))))))))))))))))))))))
theorem d7_eq (call : CallH) (lf : Nat) (a0_0 : Int) (a0_1 : Int) (a0_2 : Int) (a0_3 : Int) (a0_4 : SV) (a1 : Int) : gFn sh16 env16 call lf [(Value.agg (Array.mk [(Value.int IntKind.i64 a0_0), (Value.int IntKind.i64 a0_1), (Value.int IntKind.i64 a0_2), (Value.int IntKind.i64 a0_3), (Value.slice a0_4.a a0_4.n a0_4.c)])), (Value.int IntKind.i64 a1)] Tryz.f7 = d7 call lf a0_0 a0_1 a0_2 a0_3 a0_4 a1 := by kernel_rfl

noncomputable def d9 (call : CallH) (lf : Nat) (a0_0 : Int) (a0_1 : Int) (a0_2 : SV) (a0_3 : SV) : Tr Value :=
 (Tr.op (newM [(Value.int IntKind.i64 a0_0), (Value.int IntKind.i64 a0_1), (Value.slice a0_2.a a0_2.n a0_2.c), (Value.slice a0_3.a a0_3.n a0_3.c)]) (fun (x0 : Nat) =>
  (Tr.op (fldM 1 (some (Addr.mk x0 0 none))) (fun (x1 : Addr) =>
   (Tr.op (ldM (S2.agg [(S1.int IntKind.i64), S1.slice]) (some x1)) (fun (x2 : (Int × (SV × Unit))) =>
    (Tr.op (ty3 (S3.v (S2.one (S1.int IntKind.i64))) (call (Tgt.fn 29) [(Value.agg (Array.mk [(Value.int IntKind.i64 x2.1), (Value.slice x2.2.1.a x2.2.1.n x2.2.1.c)])), (Value.int IntKind.i64 5)])) (fun (x3 : Int) =>
     (cond (Bool.not (iEq x3 0))
       (Tr.ret (Value.int IntKind.i64 x3))
       (Tr.op (fldM 0 (some (Addr.mk x0 0 none))) (fun (x4 : Addr) =>
        (Tr.op (ldM (S2.one (S1.int IntKind.i64)) (some x4)) (fun (x5 : Int) =>
         (cond (iLt x5 98)
           (Tr.ret (Value.int IntKind.i64 18))
           (Tr.op (fldM 0 (some (Addr.mk x0 0 none))) (fun (x6 : Addr) =>
            (Tr.op (ldM (S2.one (S1.int IntKind.i64)) (some x6)) (fun (x7 : Int) =>
             (cond (iLt 256 x7)
               (Tr.ret (Value.int IntKind.i64 18))
               (Tr.op (fldM 3 (some (Addr.mk x0 0 none))) (fun (x8 : Addr) =>
                (Tr.op (ldM (S2.one S1.slice) (some x8)) (fun (x9 : SV) =>
                 (cond (iLt 1024 (Int.ofNat x9.n))
                   (Tr.ret (Value.int IntKind.i64 18))
                   (Tr.op (fldM 3 (some (Addr.mk x0 0 none))) (fun (x10 : Addr) =>
                    (Tr.op (ldM (S2.one S1.slice) (some x10)) (fun (x11 : SV) =>
                     (Tr.loop (β := (Int × Unit)) (γ := (Unit ⊕ (Int × Unit))) (fun (x12 : (Int × Unit)) =>
                      (cond (iLt x12.1 (Int.ofNat x11.n))
                        (Tr.op (ixP 1 x11.n x11.a IntKind.i64 x12.1) (fun (x13 : Addr) =>
                         (Tr.op (ldM (S2.one (S1.int IntKind.i64)) (some x13)) (fun (x14 : Int) =>
                          (Tr.op (fldM 0 (some (Addr.mk x0 0 none))) (fun (x15 : Addr) =>
                           (Tr.op (ldM (S2.one (S1.int IntKind.i64)) (some x15)) (fun (x16 : Int) =>
                            (Tr.op (ty3 (S3.v (S2.one S1.bool)) (call (Tgt.fn 30) [(Value.int IntKind.i64 x14), (Value.int IntKind.i64 x16)])) (fun (x17 : Bool) =>
                             (cond (Bool.not x17)
                               (Tr.ret (Sum.inr (Sum.inr (2, ()))))
                               (Tr.ret (Sum.inl ((wrapK IntKind.i64 (Int.add x12.1 1)), ()))))))))))))))
                        (Tr.ret (Sum.inr (Sum.inl ())))))
                      lf (0, ()) (fun (x18 : (Unit ⊕ (Int × Unit))) =>
                      (cs x18 (fun (x19 : Unit) =>
                       (Tr.op (fldM 3 (some (Addr.mk x0 0 none))) (fun (x20 : Addr) =>
                        (Tr.op (ldM (S2.one S1.slice) (some x20)) (fun (x21 : SV) =>
                         (Tr.loop (β := (Int × Unit)) (γ := (Unit ⊕ (Int × Unit))) (fun (x22 : (Int × Unit)) =>
                          (cond (iLt x22.1 (Int.ofNat x21.n))
                            (Tr.op (ixP 1 x21.n x21.a IntKind.i64 x22.1) (fun (x23 : Addr) =>
                             (Tr.op (ldM (S2.one (S1.int IntKind.i64)) (some x23)) (fun (x24 : Int) =>
                              (cond (iLt 0 x22.1)
                                (Tr.op (fldM 3 (some (Addr.mk x0 0 none))) (fun (x25 : Addr) =>
                                 (Tr.op (ldM (S2.one S1.slice) (some x25)) (fun (x26 : SV) =>
                                  (Tr.op (ixP 1 x26.n x26.a IntKind.i64 (wrapK IntKind.i64 (Int.sub x22.1 1))) (fun (x27 : Addr) =>
                                   (Tr.op (ldM (S2.one (S1.int IntKind.i64)) (some x27)) (fun (x28 : Int) =>
                                    (cond (iLe x24 x28)
                                      (Tr.ret (Sum.inr (Sum.inr (1, ()))))
                                      (Tr.ret (Sum.inl ((wrapK IntKind.i64 (Int.add x22.1 1)), ()))))))))))))
                                (Tr.ret (Sum.inl ((wrapK IntKind.i64 (Int.add x22.1 1)), ()))))))))
                            (Tr.ret (Sum.inr (Sum.inl ())))))
                          lf (0, ()) (fun (x29 : (Unit ⊕ (Int × Unit))) =>
                          (cs x29 (fun (x30 : Unit) =>
                           (Tr.ret (Value.int IntKind.i64 0))) (fun (x31 : (Int × Unit)) =>
                           (Tr.ret (Value.int IntKind.i64 x31.1))))))))))) (fun (x32 : (Int × Unit)) =>
                       (Tr.ret (Value.int IntKind.i64 x32.1))))))))))))))))))))))))))))))))))
theorem d9_eq (call : CallH) (lf : Nat) (a0_0 : Int) (a0_1 : Int) (a0_2 : SV) (a0_3 : SV) : gFn sh16 env16 call lf [(Value.agg (Array.mk [(Value.int IntKind.i64 a0_0), (Value.int IntKind.i64 a0_1), (Value.slice a0_2.a a0_2.n a0_2.c), (Value.slice a0_3.a a0_3.n a0_3.c)]))] Tryz.f9 = d9 call lf a0_0 a0_1 a0_2 a0_3 := by kernel_rfl

noncomputable def d10 (call : CallH) (lf : Nat) (a0 : Int) (a1_0 : Int) (a1_1 : SV) (a2 : SV) : Tr Value :=
 (Tr.op (newM [(Value.int IntKind.i64 a1_0), (Value.slice a1_1.a a1_1.n a1_1.c)]) (fun (x0 : Nat) =>
  (Tr.op (ldM (S2.agg [(S1.int IntKind.i64), S1.slice]) (some (Addr.mk x0 0 none))) (fun (x1 : (Int × (SV × Unit))) =>
   (Tr.op (ty3 (S3.v (S2.one (S1.int IntKind.i64))) (call (Tgt.fn 31) [(Value.agg (Array.mk [(Value.int IntKind.i64 x1.1), (Value.slice x1.2.1.a x1.2.1.n x1.2.1.c)])), (Value.int IntKind.i64 5)])) (fun (x2 : Int) =>
    (cond (Bool.not (iEq x2 0))
      (Tr.ret (Value.int IntKind.i64 x2))
      (cond (iLt a0 98)
        (Tr.ret (Value.int IntKind.i64 18))
        (cond (iLt 256 a0)
          (Tr.ret (Value.int IntKind.i64 18))
          (cond (iLt 1024 (Int.ofNat a2.n))
            (Tr.ret (Value.int IntKind.i64 18))
            (Tr.loop (β := (Int × Unit)) (γ := (Unit ⊕ (Int × Unit))) (fun (x3 : (Int × Unit)) =>
             (cond (iLt x3.1 (Int.ofNat a2.n))
               (Tr.op (ixP 1 a2.n a2.a IntKind.i64 x3.1) (fun (x4 : Addr) =>
                (Tr.op (ldM (S2.one (S1.int IntKind.i64)) (some x4)) (fun (x5 : Int) =>
                 (Tr.op (ty3 (S3.v (S2.one S1.bool)) (call (Tgt.fn 32) [(Value.int IntKind.i64 x5), (Value.int IntKind.i64 a0)])) (fun (x6 : Bool) =>
                  (cond (Bool.not x6)
                    (Tr.ret (Sum.inr (Sum.inr (2, ()))))
                    (Tr.ret (Sum.inl ((wrapK IntKind.i64 (Int.add x3.1 1)), ()))))))))))
               (Tr.ret (Sum.inr (Sum.inl ())))))
             lf (0, ()) (fun (x7 : (Unit ⊕ (Int × Unit))) =>
             (cs x7 (fun (x8 : Unit) =>
              (Tr.loop (β := (Int × Unit)) (γ := (Unit ⊕ (Int × Unit))) (fun (x9 : (Int × Unit)) =>
               (cond (iLt x9.1 (Int.ofNat a2.n))
                 (Tr.op (ixP 1 a2.n a2.a IntKind.i64 (wrapK IntKind.i64 (Int.sub x9.1 1))) (fun (x10 : Addr) =>
                  (Tr.op (ldM (S2.one (S1.int IntKind.i64)) (some x10)) (fun (x11 : Int) =>
                   (Tr.op (ixP 1 a2.n a2.a IntKind.i64 x9.1) (fun (x12 : Addr) =>
                    (Tr.op (ldM (S2.one (S1.int IntKind.i64)) (some x12)) (fun (x13 : Int) =>
                     (cond (iLe x13 x11)
                       (Tr.ret (Sum.inr (Sum.inr (1, ()))))
                       (Tr.ret (Sum.inl ((wrapK IntKind.i64 (Int.add x9.1 1)), ()))))))))))))
                 (Tr.ret (Sum.inr (Sum.inl ())))))
               lf (1, ()) (fun (x14 : (Unit ⊕ (Int × Unit))) =>
               (cs x14 (fun (x15 : Unit) =>
                (Tr.ret (Value.int IntKind.i64 0))) (fun (x16 : (Int × Unit)) =>
                (Tr.ret (Value.int IntKind.i64 x16.1))))))) (fun (x17 : (Int × Unit)) =>
              (Tr.ret (Value.int IntKind.i64 x17.1))))))))))))))))
theorem d10_eq (call : CallH) (lf : Nat) (a0 : Int) (a1_0 : Int) (a1_1 : SV) (a2 : SV) : gFn sh16 env16 call lf [(Value.int IntKind.i64 a0), (Value.agg (Array.mk [(Value.int IntKind.i64 a1_0), (Value.slice a1_1.a a1_1.n a1_1.c)])), (Value.slice a2.a a2.n a2.c)] Tryz.f10 = d10 call lf a0 a1_0 a1_1 a2 := by kernel_rfl

noncomputable def d11 (call : CallH) (lf : Nat) (a0 : Int) (a1 : Int) : Tr Value :=
 (cond (iLt a1 1)
   (Tr.ret (Value.int IntKind.i64 0))
   (Tr.op (arM BinOp.rem IntKind.i64 a0 IntKind.i64 a1) (fun (x0 : Int) =>
    (Tr.op (arM BinOp.rem IntKind.i64 (wrapK IntKind.i64 (Int.add x0 a1)) IntKind.i64 a1) (fun (x1 : Int) =>
     (Tr.ret (Value.int IntKind.i64 x1)))))))
theorem d11_eq (call : CallH) (lf : Nat) (a0 : Int) (a1 : Int) : gFn sh16 env16 call lf [(Value.int IntKind.i64 a0), (Value.int IntKind.i64 a1)] Tryz.f11 = d11 call lf a0 a1 := by kernel_rfl

noncomputable def d17 (call : CallH) (lf : Nat) (a0 : Int) : Tr Value :=
 (Tr.op (ty3 (S3.v (S2.one (S1.int IntKind.i64))) (call (Tgt.fn 11) [(Value.int IntKind.i64 a0), (Value.int IntKind.i64 7)])) (fun (x0 : Int) =>
  (Tr.ret (Value.int IntKind.i64 (wrapK IntKind.i64 (Int.add 98 x0))))))
theorem d17_eq (call : CallH) (lf : Nat) (a0 : Int) : gFn sh16 env16 call lf [(Value.int IntKind.i64 a0)] Tryz.f17 = d17 call lf a0 := by kernel_rfl

noncomputable def d21 (call : CallH) (lf : Nat) (a0 : Int) : Tr Value :=
 (Tr.op (newM [(Value.int IntKind.i64 0), (Value.slice none 0 0)]) (fun (x0 : Nat) =>
  (Tr.op (ty3 (S3.tup [(S2.agg [(S1.int IntKind.i64), S1.slice]), (S2.one (S1.int IntKind.i64))]) (call (Tgt.fn 56) [(Value.int IntKind.i64 a0)])) (fun (x1 : ((Int × (SV × Unit)) × (Int × Unit))) =>
   (Tr.op (newM [(Value.int IntKind.i64 0), (Value.slice none 0 0)]) (fun (x2 : Nat) =>
    (Tr.op (stM [(Value.int IntKind.i64 x1.1.1), (Value.slice x1.1.2.1.a x1.1.2.1.n x1.1.2.1.c)] (some (Addr.mk x2 0 none))) (fun (x3 : Unit) =>
     (Tr.op (ldM (S2.agg [(S1.int IntKind.i64), S1.slice]) (some (Addr.mk x2 0 none))) (fun (x4 : (Int × (SV × Unit))) =>
      (Tr.op (stM [(Value.int IntKind.i64 x4.1), (Value.slice x4.2.1.a x4.2.1.n x4.2.1.c)] (some (Addr.mk x0 0 none))) (fun (x5 : Unit) =>
       (Tr.op (ldM (S2.agg [(S1.int IntKind.i64), S1.slice]) (some (Addr.mk x0 0 none))) (fun (x6 : (Int × (SV × Unit))) =>
        (Tr.ret (Value.agg (Array.mk [(Value.int IntKind.i64 x6.1), (Value.slice x6.2.1.a x6.2.1.n x6.2.1.c)])))))))))))))))))
theorem d21_eq (call : CallH) (lf : Nat) (a0 : Int) : gFn sh16 env16 call lf [(Value.int IntKind.i64 a0)] Tryz.f21 = d21 call lf a0 := by kernel_rfl

noncomputable def d28 (call : CallH) (lf : Nat) (a0 : Int) (a1 : Int) (a2 : Int) (a3 : SV) (a4 : Int) : Tr Value :=
 (Tr.op (newM [(Value.int IntKind.i64 0), (Value.slice none 0 0)]) (fun (x0 : Nat) =>
  (Tr.op (ty3 (S3.v (S2.one (S1.int IntKind.i64))) (call (Tgt.fn 11) [(Value.int IntKind.i64 a0), (Value.int IntKind.i64 16)])) (fun (x1 : Int) =>
   (Tr.op (newM [(Value.int IntKind.i64 0), (Value.slice none 0 0)]) (fun (x2 : Nat) =>
    (Tr.op (stM [(Value.int IntKind.i64 x1), (Value.slice none 0 0)] (some (Addr.mk x2 0 none))) (fun (x3 : Unit) =>
     (Tr.loop (β := (Bool × (Int × Unit))) (γ := (Bool × Unit)) (fun (x4 : (Bool × (Int × Unit))) =>
      (cond (iLt x4.2.1 a4)
        (Tr.bind (β := (Bool × Unit))
          (Tr.op (ty3 (S3.v (S2.one (S1.int IntKind.i64))) (call (Tgt.fn 11) [(Value.int IntKind.i64 a1), (Value.int IntKind.i64 32)])) (fun (x5 : Int) =>
           (Tr.op (arM BinOp.shr IntKind.i64 x5 IntKind.u64 (wrapK IntKind.u64 x4.2.1)) (fun (x6 : Int) =>
            (cond (iEq (signK IntKind.i64 (Nat.land (natK IntKind.i64 x6) 1)) 0)
              (Tr.ret (x4.1, ()))
              (Tr.op (ty3 (S3.v (S2.one (S1.int IntKind.i64))) (call (Tgt.fn 11) [(Value.int IntKind.i64 a2), (Value.int IntKind.i64 32)])) (fun (x7 : Int) =>
               (Tr.op (arM BinOp.shr IntKind.i64 x7 IntKind.u64 (wrapK IntKind.u64 x4.2.1)) (fun (x8 : Int) =>
                (Tr.op (newM [(Value.int IntKind.i64 0), (Value.int IntKind.i64 0), (Value.bool false)]) (fun (x9 : Nat) =>
                 (Tr.op (stM [(Value.int IntKind.i64 x4.2.1), (Value.int IntKind.i64 1), (Value.bool (iEq (signK IntKind.i64 (Nat.land (natK IntKind.i64 x8) 1)) 1))] (some (Addr.mk x9 0 none))) (fun (x10 : Unit) =>
                  (Tr.bind (β := Unit)
                    (cond (iLt x4.2.1 (Int.ofNat a3.n))
                      (Tr.op (ixP 1 a3.n a3.a IntKind.i64 x4.2.1) (fun (x11 : Addr) =>
                       (Tr.op (ldM (S2.one (S1.int IntKind.i64)) (some x11)) (fun (x12 : Int) =>
                        (Tr.op (ty3 (S3.v (S2.one (S1.int IntKind.i64))) (call (Tgt.fn 11) [(Value.int IntKind.i64 x12), (Value.int IntKind.i64 31)])) (fun (x13 : Int) =>
                         (Tr.op (fldM 1 (some (Addr.mk x9 0 none))) (fun (x14 : Addr) =>
                          (Tr.op (stM [(Value.int IntKind.i64 (wrapK IntKind.i64 (Int.add x13 1)))] (some x14)) (fun (x15 : Unit) =>
                           (Tr.ret ())))))))))))
                      (Tr.ret ()))
                   (fun (x16 : Unit) =>
                   (cond x4.1
                     (Tr.op (fldM 1 (some (Addr.mk x2 0 none))) (fun (x17 : Addr) =>
                      (Tr.op (ldM (S2.one S1.slice) (some x17)) (fun (x18 : SV) =>
                       (Tr.op (ldM (S2.agg [(S1.int IntKind.i64), (S1.int IntKind.i64), S1.bool]) (some (Addr.mk x9 0 none))) (fun (x19 : (Int × (Int × (Bool × Unit)))) =>
                        (Tr.op (bsM 3 1 [(Value.int IntKind.i64 0), (Value.int IntKind.i64 0), (Value.bool false)] [(0, (Value.agg (Array.mk [(Value.int IntKind.i64 x19.1), (Value.int IntKind.i64 x19.2.1), (Value.bool x19.2.2.1)])))]) (fun (x20 : Nat) =>
                         (Tr.op (apM 3 24 (Value.slice x18.a x18.n x18.c) (Value.slice (some (Addr.mk x20 0 none)) 1 1)) (fun (x21 : SV) =>
                          (Tr.op (fldM 1 (some (Addr.mk x2 0 none))) (fun (x22 : Addr) =>
                           (Tr.op (stM [(Value.slice x21.a x21.n x21.c)] (some x22)) (fun (x23 : Unit) =>
                            (Tr.ret (true, ()))))))))))))))))
                     (Tr.op (fldM 2 (some (Addr.mk x9 0 none))) (fun (x24 : Addr) =>
                      (Tr.op (ldM (S2.one S1.bool) (some x24)) (fun (x25 : Bool) =>
                       (Tr.op (fldM 1 (some (Addr.mk x2 0 none))) (fun (x26 : Addr) =>
                        (Tr.op (ldM (S2.one S1.slice) (some x26)) (fun (x27 : SV) =>
                         (Tr.op (ldM (S2.agg [(S1.int IntKind.i64), (S1.int IntKind.i64), S1.bool]) (some (Addr.mk x9 0 none))) (fun (x28 : (Int × (Int × (Bool × Unit)))) =>
                          (Tr.op (bsM 3 1 [(Value.int IntKind.i64 0), (Value.int IntKind.i64 0), (Value.bool false)] [(0, (Value.agg (Array.mk [(Value.int IntKind.i64 x28.1), (Value.int IntKind.i64 x28.2.1), (Value.bool x28.2.2.1)])))]) (fun (x29 : Nat) =>
                           (Tr.op (apM 3 24 (Value.slice x27.a x27.n x27.c) (Value.slice (some (Addr.mk x29 0 none)) 1 1)) (fun (x30 : SV) =>
                            (Tr.op (fldM 1 (some (Addr.mk x2 0 none))) (fun (x31 : Addr) =>
                             (Tr.op (stM [(Value.slice x30.a x30.n x30.c)] (some x31)) (fun (x32 : Unit) =>
                              (Tr.ret (x25, ()))))))))))))))))))))))))))))))))))))
         (fun (x33 : (Bool × Unit)) =>
         (Tr.ret (Sum.inl (x33.1, ((wrapK IntKind.i64 (Int.add x4.2.1 1)), ()))))))
        (Tr.ret (Sum.inr (x4.1, ())))))
      lf (false, (0, ())) (fun (x34 : (Bool × Unit)) =>
      (Tr.bind (β := Unit)
        (Tr.op (fldM 1 (some (Addr.mk x2 0 none))) (fun (x35 : Addr) =>
         (Tr.op (ldM (S2.one S1.slice) (some x35)) (fun (x36 : SV) =>
          (cond (iEq (Int.ofNat x36.n) 0)
            (Tr.op (bsM 3 1 [(Value.int IntKind.i64 0), (Value.int IntKind.i64 0), (Value.bool false)] [(0, (Value.agg (Array.mk [(Value.int IntKind.i64 0), (Value.int IntKind.i64 1), (Value.bool false)])))]) (fun (x37 : Nat) =>
             (Tr.op (fldM 1 (some (Addr.mk x2 0 none))) (fun (x38 : Addr) =>
              (Tr.op (stM [(Value.slice (some (Addr.mk x37 0 none)) 1 1)] (some x38)) (fun (x39 : Unit) =>
               (Tr.ret ())))))))
            (Tr.ret ()))))))
       (fun (x40 : Unit) =>
       (Tr.bind (β := Unit)
         (cond (Bool.not x34.1)
           (Tr.op (fldM 1 (some (Addr.mk x2 0 none))) (fun (x41 : Addr) =>
            (Tr.op (ldM (S2.one S1.slice) (some x41)) (fun (x42 : SV) =>
             (Tr.op (ixP 3 x42.n x42.a IntKind.i64 0) (fun (x43 : Addr) =>
              (Tr.op (fldM 2 (some x43)) (fun (x44 : Addr) =>
               (Tr.op (stM [(Value.bool true)] (some x44)) (fun (x45 : Unit) =>
                (Tr.ret ())))))))))))
           (Tr.ret ()))
        (fun (x46 : Unit) =>
        (Tr.op (ldM (S2.agg [(S1.int IntKind.i64), S1.slice]) (some (Addr.mk x2 0 none))) (fun (x47 : (Int × (SV × Unit))) =>
         (Tr.op (stM [(Value.int IntKind.i64 x47.1), (Value.slice x47.2.1.a x47.2.1.n x47.2.1.c)] (some (Addr.mk x0 0 none))) (fun (x48 : Unit) =>
          (Tr.op (ldM (S2.agg [(S1.int IntKind.i64), S1.slice]) (some (Addr.mk x0 0 none))) (fun (x49 : (Int × (SV × Unit))) =>
           (Tr.ret (Value.agg (Array.mk [(Value.int IntKind.i64 x49.1), (Value.slice x49.2.1.a x49.2.1.n x49.2.1.c)])))))))))))))))))))))))
theorem d28_eq (call : CallH) (lf : Nat) (a0 : Int) (a1 : Int) (a2 : Int) (a3 : SV) (a4 : Int) : gFn sh16 env16 call lf [(Value.int IntKind.i64 a0), (Value.int IntKind.i64 a1), (Value.int IntKind.i64 a2), (Value.slice a3.a a3.n a3.c), (Value.int IntKind.i64 a4)] Tryz.f28 = d28 call lf a0 a1 a2 a3 a4 := by kernel_rfl

noncomputable def d29 (call : CallH) (lf : Nat) (a0_0 : Int) (a0_1 : SV) (a1 : Int) : Tr Value :=
 (Tr.op (newM [(Value.int IntKind.i64 a0_0), (Value.slice a0_1.a a0_1.n a0_1.c)]) (fun (x0 : Nat) =>
  (Tr.op (ty3 (S3.v (S2.one S1.bool)) (call (Tgt.fn 64) [(Value.int IntKind.i64 a1)])) (fun (x1 : Bool) =>
   (cond (Bool.not x1)
     (Tr.ret (Value.int IntKind.i64 1))
     (Tr.op (fldM 0 (some (Addr.mk x0 0 none))) (fun (x2 : Addr) =>
      (Tr.op (ldM (S2.one (S1.int IntKind.i64)) (some x2)) (fun (x3 : Int) =>
       (cond (iLt x3 0)
         (Tr.ret (Value.int IntKind.i64 2))
         (Tr.op (fldM 0 (some (Addr.mk x0 0 none))) (fun (x4 : Addr) =>
          (Tr.op (ldM (S2.one (S1.int IntKind.i64)) (some x4)) (fun (x5 : Int) =>
           (cond (iLe 16 x5)
             (Tr.ret (Value.int IntKind.i64 2))
             (Tr.op (fldM 1 (some (Addr.mk x0 0 none))) (fun (x6 : Addr) =>
              (Tr.op (ldM (S2.one S1.slice) (some x6)) (fun (x7 : SV) =>
               (cond (iEq (Int.ofNat x7.n) 0)
                 (Tr.ret (Value.int IntKind.i64 1))
                 (Tr.op (fldM 1 (some (Addr.mk x0 0 none))) (fun (x8 : Addr) =>
                  (Tr.op (ldM (S2.one S1.slice) (some x8)) (fun (x9 : SV) =>
                   (Tr.loop (β := (Int × Unit)) (γ := (Unit ⊕ (Int × Unit))) (fun (x10 : (Int × Unit)) =>
                    (cond (iLt x10.1 (Int.ofNat x9.n))
                      (Tr.op (ixP 3 x9.n x9.a IntKind.i64 x10.1) (fun (x11 : Addr) =>
                       (Tr.op (ldM (S2.agg [(S1.int IntKind.i64), (S1.int IntKind.i64), S1.bool]) (some x11)) (fun (x12 : (Int × (Int × (Bool × Unit)))) =>
                        (Tr.op (newM [(Value.int IntKind.i64 0), (Value.int IntKind.i64 0), (Value.bool false)]) (fun (x13 : Nat) =>
                         (Tr.op (stM [(Value.int IntKind.i64 x12.1), (Value.int IntKind.i64 x12.2.1), (Value.bool x12.2.2.1)] (some (Addr.mk x13 0 none))) (fun (x14 : Unit) =>
                          (Tr.op (fldM 0 (some (Addr.mk x13 0 none))) (fun (x15 : Addr) =>
                           (Tr.op (ldM (S2.one (S1.int IntKind.i64)) (some x15)) (fun (x16 : Int) =>
                            (cond (iLt x16 0)
                              (Tr.ret (Sum.inr (Sum.inr (1, ()))))
                              (Tr.op (fldM 0 (some (Addr.mk x13 0 none))) (fun (x17 : Addr) =>
                               (Tr.op (ldM (S2.one (S1.int IntKind.i64)) (some x17)) (fun (x18 : Int) =>
                                (cond (iLe a1 x18)
                                  (Tr.ret (Sum.inr (Sum.inr (1, ()))))
                                  (cond (iLt 0 x10.1)
                                    (Tr.op (fldM 0 (some (Addr.mk x13 0 none))) (fun (x19 : Addr) =>
                                     (Tr.op (ldM (S2.one (S1.int IntKind.i64)) (some x19)) (fun (x20 : Int) =>
                                      (Tr.op (fldM 1 (some (Addr.mk x0 0 none))) (fun (x21 : Addr) =>
                                       (Tr.op (ldM (S2.one S1.slice) (some x21)) (fun (x22 : SV) =>
                                        (Tr.op (ixP 3 x22.n x22.a IntKind.i64 (wrapK IntKind.i64 (Int.sub x10.1 1))) (fun (x23 : Addr) =>
                                         (Tr.op (fldM 0 (some x23)) (fun (x24 : Addr) =>
                                          (Tr.op (ldM (S2.one (S1.int IntKind.i64)) (some x24)) (fun (x25 : Int) =>
                                           (cond (iLe x20 x25)
                                             (Tr.ret (Sum.inr (Sum.inr (1, ()))))
                                             (Tr.ret (Sum.inl ((wrapK IntKind.i64 (Int.add x10.1 1)), ()))))))))))))))))))
                                    (Tr.ret (Sum.inl ((wrapK IntKind.i64 (Int.add x10.1 1)), ()))))))))))))))))))))))
                      (Tr.ret (Sum.inr (Sum.inl ())))))
                    lf (0, ()) (fun (x26 : (Unit ⊕ (Int × Unit))) =>
                    (cs x26 (fun (x27 : Unit) =>
                     (Tr.op (fldM 1 (some (Addr.mk x0 0 none))) (fun (x28 : Addr) =>
                      (Tr.op (ldM (S2.one S1.slice) (some x28)) (fun (x29 : SV) =>
                       (Tr.loop (β := (Int × Unit)) (γ := (Unit ⊕ (Int × Unit))) (fun (x30 : (Int × Unit)) =>
                        (cond (iLt x30.1 (Int.ofNat x29.n))
                          (Tr.op (ixP 3 x29.n x29.a IntKind.i64 x30.1) (fun (x31 : Addr) =>
                           (Tr.op (ldM (S2.agg [(S1.int IntKind.i64), (S1.int IntKind.i64), S1.bool]) (some x31)) (fun (x32 : (Int × (Int × (Bool × Unit)))) =>
                            (Tr.op (newM [(Value.int IntKind.i64 0), (Value.int IntKind.i64 0), (Value.bool false)]) (fun (x33 : Nat) =>
                             (Tr.op (stM [(Value.int IntKind.i64 x32.1), (Value.int IntKind.i64 x32.2.1), (Value.bool x32.2.2.1)] (some (Addr.mk x33 0 none))) (fun (x34 : Unit) =>
                              (Tr.op (fldM 1 (some (Addr.mk x33 0 none))) (fun (x35 : Addr) =>
                               (Tr.op (ldM (S2.one (S1.int IntKind.i64)) (some x35)) (fun (x36 : Int) =>
                                (cond (iLt x36 1)
                                  (Tr.ret (Sum.inr (Sum.inr (2, ()))))
                                  (Tr.op (fldM 1 (some (Addr.mk x33 0 none))) (fun (x37 : Addr) =>
                                   (Tr.op (ldM (S2.one (S1.int IntKind.i64)) (some x37)) (fun (x38 : Int) =>
                                    (cond (iLt 31 x38)
                                      (Tr.ret (Sum.inr (Sum.inr (2, ()))))
                                      (Tr.ret (Sum.inl ((wrapK IntKind.i64 (Int.add x30.1 1)), ())))))))))))))))))))))
                          (Tr.ret (Sum.inr (Sum.inl ())))))
                        lf (0, ()) (fun (x39 : (Unit ⊕ (Int × Unit))) =>
                        (cs x39 (fun (x40 : Unit) =>
                         (Tr.op (fldM 1 (some (Addr.mk x0 0 none))) (fun (x41 : Addr) =>
                          (Tr.op (ldM (S2.one S1.slice) (some x41)) (fun (x42 : SV) =>
                           (Tr.op (ty3 (S3.v (S2.one S1.bool)) (call (Tgt.fn 65) [(Value.slice x42.a x42.n x42.c), (Value.func (Fn.func 66) (Array.mk []) (Array.mk []))])) (fun (x43 : Bool) =>
                            (cond (Bool.not x43)
                              (Tr.ret (Value.int IntKind.i64 13))
                              (Tr.ret (Value.int IntKind.i64 0)))))))))) (fun (x44 : (Int × Unit)) =>
                         (Tr.ret (Value.int IntKind.i64 x44.1))))))))))) (fun (x45 : (Int × Unit)) =>
                     (Tr.ret (Value.int IntKind.i64 x45.1))))))))))))))))))))))))))))))
theorem d29_eq (call : CallH) (lf : Nat) (a0_0 : Int) (a0_1 : SV) (a1 : Int) : gFn sh16 env16 call lf [(Value.agg (Array.mk [(Value.int IntKind.i64 a0_0), (Value.slice a0_1.a a0_1.n a0_1.c)])), (Value.int IntKind.i64 a1)] Tryz.f29 = d29 call lf a0_0 a0_1 a1 := by kernel_rfl

noncomputable def d30 (call : CallH) (lf : Nat) (a0 : Int) (a1 : Int) : Tr Value :=
 (Tr.op (ty3 (S3.v (S2.one S1.bool)) (call (Tgt.fn 67) [(Value.int IntKind.i64 a1)])) (fun (x0 : Bool) =>
  (cond x0
    (cond (iLe 96 a0)
      (Tr.ret (Value.bool (iLt a0 a1)))
      (Tr.ret (Value.bool false)))
    (Tr.ret (Value.bool false)))))
theorem d30_eq (call : CallH) (lf : Nat) (a0 : Int) (a1 : Int) : gFn sh16 env16 call lf [(Value.int IntKind.i64 a0), (Value.int IntKind.i64 a1)] Tryz.f30 = d30 call lf a0 a1 := by kernel_rfl

noncomputable def d31 (call : CallH) (lf : Nat) (a0_0 : Int) (a0_1 : SV) (a1 : Int) : Tr Value :=
 (Tr.op (newM [(Value.int IntKind.i64 a0_0), (Value.slice a0_1.a a0_1.n a0_1.c)]) (fun (x0 : Nat) =>
  (cond (iLt a1 1)
    (Tr.ret (Value.int IntKind.i64 1))
    (cond (iLt 5 a1)
      (Tr.ret (Value.int IntKind.i64 1))
      (Tr.op (fldM 0 (some (Addr.mk x0 0 none))) (fun (x1 : Addr) =>
       (Tr.op (ldM (S2.one (S1.int IntKind.i64)) (some x1)) (fun (x2 : Int) =>
        (cond (iLt x2 0)
          (Tr.ret (Value.int IntKind.i64 2))
          (Tr.op (fldM 0 (some (Addr.mk x0 0 none))) (fun (x3 : Addr) =>
           (Tr.op (ldM (S2.one (S1.int IntKind.i64)) (some x3)) (fun (x4 : Int) =>
            (cond (iLe 16 x4)
              (Tr.ret (Value.int IntKind.i64 2))
              (Tr.loop (β := (Int × Unit)) (γ := (Unit ⊕ (Int × Unit))) (fun (x5 : (Int × Unit)) =>
               (Tr.op (fldM 1 (some (Addr.mk x0 0 none))) (fun (x6 : Addr) =>
                (Tr.op (ldM (S2.one S1.slice) (some x6)) (fun (x7 : SV) =>
                 (cond (iLt x5.1 (Int.ofNat x7.n))
                   (Tr.op (fldM 1 (some (Addr.mk x0 0 none))) (fun (x8 : Addr) =>
                    (Tr.op (ldM (S2.one S1.slice) (some x8)) (fun (x9 : SV) =>
                     (Tr.op (ixP 3 x9.n x9.a IntKind.i64 x5.1) (fun (x10 : Addr) =>
                      (Tr.op (fldM 0 (some x10)) (fun (x11 : Addr) =>
                       (Tr.op (ldM (S2.one (S1.int IntKind.i64)) (some x11)) (fun (x12 : Int) =>
                        (cond (iLt x12 0)
                          (Tr.ret (Sum.inr (Sum.inr (1, ()))))
                          (cond (iLe a1 x12)
                            (Tr.ret (Sum.inr (Sum.inr (1, ()))))
                            (cond (iLt 0 x5.1)
                              (Tr.op (fldM 1 (some (Addr.mk x0 0 none))) (fun (x13 : Addr) =>
                               (Tr.op (ldM (S2.one S1.slice) (some x13)) (fun (x14 : SV) =>
                                (Tr.op (ixP 3 x14.n x14.a IntKind.i64 (wrapK IntKind.i64 (Int.sub x5.1 1))) (fun (x15 : Addr) =>
                                 (Tr.op (fldM 0 (some x15)) (fun (x16 : Addr) =>
                                  (Tr.op (ldM (S2.one (S1.int IntKind.i64)) (some x16)) (fun (x17 : Int) =>
                                   (cond (iLe x12 x17)
                                     (Tr.ret (Sum.inr (Sum.inr (1, ()))))
                                     (Tr.ret (Sum.inl ((wrapK IntKind.i64 (Int.add x5.1 1)), ()))))))))))))))
                              (Tr.ret (Sum.inl ((wrapK IntKind.i64 (Int.add x5.1 1)), ()))))))))))))))))
                   (Tr.ret (Sum.inr (Sum.inl ())))))))))
               lf (0, ()) (fun (x18 : (Unit ⊕ (Int × Unit))) =>
               (cs x18 (fun (x19 : Unit) =>
                (Tr.op (fldM 1 (some (Addr.mk x0 0 none))) (fun (x20 : Addr) =>
                 (Tr.op (ldM (S2.one S1.slice) (some x20)) (fun (x21 : SV) =>
                  (cond (iEq (Int.ofNat x21.n) 0)
                    (Tr.ret (Value.int IntKind.i64 1))
                    (Tr.loop (β := (Int × Unit)) (γ := (Unit ⊕ (Int × Unit))) (fun (x22 : (Int × Unit)) =>
                     (Tr.op (fldM 1 (some (Addr.mk x0 0 none))) (fun (x23 : Addr) =>
                      (Tr.op (ldM (S2.one S1.slice) (some x23)) (fun (x24 : SV) =>
                       (cond (iLt x22.1 (Int.ofNat x24.n))
                         (Tr.op (fldM 1 (some (Addr.mk x0 0 none))) (fun (x25 : Addr) =>
                          (Tr.op (ldM (S2.one S1.slice) (some x25)) (fun (x26 : SV) =>
                           (Tr.op (ixP 3 x26.n x26.a IntKind.i64 x22.1) (fun (x27 : Addr) =>
                            (Tr.op (fldM 1 (some x27)) (fun (x28 : Addr) =>
                             (Tr.op (ldM (S2.one (S1.int IntKind.i64)) (some x28)) (fun (x29 : Int) =>
                              (cond (iLt x29 1)
                                (Tr.ret (Sum.inr (Sum.inr (2, ()))))
                                (cond (iLt 31 x29)
                                  (Tr.ret (Sum.inr (Sum.inr (2, ()))))
                                  (Tr.ret (Sum.inl ((wrapK IntKind.i64 (Int.add x22.1 1)), ())))))))))))))))
                         (Tr.ret (Sum.inr (Sum.inl ())))))))))
                     lf (0, ()) (fun (x30 : (Unit ⊕ (Int × Unit))) =>
                     (cs x30 (fun (x31 : Unit) =>
                      (Tr.op (ldM (S2.agg [(S1.int IntKind.i64), S1.slice]) (some (Addr.mk x0 0 none))) (fun (x32 : (Int × (SV × Unit))) =>
                       (Tr.op (ty3 (S3.v (S2.one S1.slice)) (call (Tgt.fn 68) [(Value.agg (Array.mk [(Value.int IntKind.i64 x32.1), (Value.slice x32.2.1.a x32.2.1.n x32.2.1.c)]))])) (fun (x33 : SV) =>
                        (cond (iEq (Int.ofNat x33.n) 0)
                          (Tr.ret (Value.int IntKind.i64 13))
                          (Tr.ret (Value.int IntKind.i64 0)))))))) (fun (x34 : (Int × Unit)) =>
                      (Tr.ret (Value.int IntKind.i64 x34.1)))))))))))) (fun (x35 : (Int × Unit)) =>
                (Tr.ret (Value.int IntKind.i64 x35.1))))))))))))))))))))
theorem d31_eq (call : CallH) (lf : Nat) (a0_0 : Int) (a0_1 : SV) (a1 : Int) : gFn sh16 env16 call lf [(Value.agg (Array.mk [(Value.int IntKind.i64 a0_0), (Value.slice a0_1.a a0_1.n a0_1.c)])), (Value.int IntKind.i64 a1)] Tryz.f31 = d31 call lf a0_0 a0_1 a1 := by kernel_rfl

noncomputable def d32 (call : CallH) (lf : Nat) (a0 : Int) (a1 : Int) : Tr Value :=
 (cond (iLe 98 a1)
   (cond (iLe a1 256)
     (cond (iLe 96 a0)
       (Tr.ret (Value.bool (iLt a0 a1)))
       (Tr.ret (Value.bool false)))
     (Tr.ret (Value.bool false)))
   (Tr.ret (Value.bool false)))
theorem d32_eq (call : CallH) (lf : Nat) (a0 : Int) (a1 : Int) : gFn sh16 env16 call lf [(Value.int IntKind.i64 a0), (Value.int IntKind.i64 a1)] Tryz.f32 = d32 call lf a0 a1 := by kernel_rfl

noncomputable def d56 (call : CallH) (lf : Nat) (a0 : Int) : Tr Value :=
 (Tr.op (newM [(Value.int IntKind.i64 0), (Value.slice none 0 0)]) (fun (x0 : Nat) =>
  (cond (iLt a0 1)
    (Tr.op (stM [(Value.int IntKind.i64 0), (Value.slice none 0 0)] (some (Addr.mk x0 0 none))) (fun (x1 : Unit) =>
     (Tr.op (ldM (S2.agg [(S1.int IntKind.i64), S1.slice]) (some (Addr.mk x0 0 none))) (fun (x2 : (Int × (SV × Unit))) =>
      (Tr.ret (Value.tuple (Array.mk [(Value.agg (Array.mk [(Value.int IntKind.i64 x2.1), (Value.slice x2.2.1.a x2.2.1.n x2.2.1.c)])), (Value.int IntKind.i64 1)])))))))
    (cond (iLt 5 a0)
      (Tr.op (stM [(Value.int IntKind.i64 0), (Value.slice none 0 0)] (some (Addr.mk x0 0 none))) (fun (x3 : Unit) =>
       (Tr.op (ldM (S2.agg [(S1.int IntKind.i64), S1.slice]) (some (Addr.mk x0 0 none))) (fun (x4 : (Int × (SV × Unit))) =>
        (Tr.ret (Value.tuple (Array.mk [(Value.agg (Array.mk [(Value.int IntKind.i64 x4.1), (Value.slice x4.2.1.a x4.2.1.n x4.2.1.c)])), (Value.int IntKind.i64 1)])))))))
      (Tr.op (newM [(Value.int IntKind.i64 0), (Value.slice none 0 0)]) (fun (x5 : Nat) =>
       (Tr.op (stM [(Value.int IntKind.i64 0), (Value.slice none 0 0)] (some (Addr.mk x5 0 none))) (fun (x6 : Unit) =>
        (Tr.loop (β := (Int × Unit)) (γ := Unit) (fun (x7 : (Int × Unit)) =>
         (cond (iLt x7.1 a0)
           (Tr.op (fldM 1 (some (Addr.mk x5 0 none))) (fun (x8 : Addr) =>
            (Tr.op (ldM (S2.one S1.slice) (some x8)) (fun (x9 : SV) =>
             (Tr.op (bsM 3 1 [(Value.int IntKind.i64 0), (Value.int IntKind.i64 0), (Value.bool false)] [(0, (Value.agg (Array.mk [(Value.int IntKind.i64 x7.1), (Value.int IntKind.i64 1), (Value.bool true)])))]) (fun (x10 : Nat) =>
              (Tr.op (apM 3 24 (Value.slice x9.a x9.n x9.c) (Value.slice (some (Addr.mk x10 0 none)) 1 1)) (fun (x11 : SV) =>
               (Tr.op (fldM 1 (some (Addr.mk x5 0 none))) (fun (x12 : Addr) =>
                (Tr.op (stM [(Value.slice x11.a x11.n x11.c)] (some x12)) (fun (x13 : Unit) =>
                 (Tr.ret (Sum.inl ((wrapK IntKind.i64 (Int.add x7.1 1)), ())))))))))))))))
           (Tr.ret (Sum.inr ()))))
         lf (0, ()) (fun (x14 : Unit) =>
         (Tr.op (ldM (S2.agg [(S1.int IntKind.i64), S1.slice]) (some (Addr.mk x5 0 none))) (fun (x15 : (Int × (SV × Unit))) =>
          (Tr.op (stM [(Value.int IntKind.i64 x15.1), (Value.slice x15.2.1.a x15.2.1.n x15.2.1.c)] (some (Addr.mk x0 0 none))) (fun (x16 : Unit) =>
           (Tr.op (ldM (S2.agg [(S1.int IntKind.i64), S1.slice]) (some (Addr.mk x0 0 none))) (fun (x17 : (Int × (SV × Unit))) =>
            (Tr.ret (Value.tuple (Array.mk [(Value.agg (Array.mk [(Value.int IntKind.i64 x17.1), (Value.slice x17.2.1.a x17.2.1.n x17.2.1.c)])), (Value.int IntKind.i64 0)])))))))))))))))))))
theorem d56_eq (call : CallH) (lf : Nat) (a0 : Int) : gFn sh16 env16 call lf [(Value.int IntKind.i64 a0)] Tryz.f56 = d56 call lf a0 := by kernel_rfl

noncomputable def d64 (call : CallH) (lf : Nat) (a0 : Int) : Tr Value :=
 (cond (iLe 1 a0)
   (Tr.ret (Value.bool (iLe a0 5)))
   (Tr.ret (Value.bool false)))
theorem d64_eq (call : CallH) (lf : Nat) (a0 : Int) : gFn sh16 env16 call lf [(Value.int IntKind.i64 a0)] Tryz.f64 = d64 call lf a0 := by kernel_rfl

noncomputable def d65 (call : CallH) (lf : Nat) (a0 : SV) (a1 : Value) : Tr Value :=
 (Tr.op (ty3 (S3.v (S2.one (S1.int IntKind.i64))) (call (Tgt.fn 111) [(Value.slice a0.a a0.n a0.c), a1])) (fun (x0 : Int) =>
  (Tr.ret (Value.bool (iLe 0 x0)))))
theorem d65_eq (call : CallH) (lf : Nat) (a0 : SV) (a1 : Value) : gFn sh16 env16 call lf [(Value.slice a0.a a0.n a0.c), a1] Tryz.f65 = d65 call lf a0 a1 := by kernel_rfl

noncomputable def d66 (call : CallH) (lf : Nat) (a0_0 : Int) (a0_1 : Int) (a0_2 : Bool) : Tr Value :=
 (Tr.op (newM [(Value.int IntKind.i64 a0_0), (Value.int IntKind.i64 a0_1), (Value.bool a0_2)]) (fun (x0 : Nat) =>
  (Tr.op (fldM 2 (some (Addr.mk x0 0 none))) (fun (x1 : Addr) =>
   (Tr.op (ldM (S2.one S1.bool) (some x1)) (fun (x2 : Bool) =>
    (Tr.ret (Value.bool x2))))))))
theorem d66_eq (call : CallH) (lf : Nat) (a0_0 : Int) (a0_1 : Int) (a0_2 : Bool) : gFn sh16 env16 call lf [(Value.agg (Array.mk [(Value.int IntKind.i64 a0_0), (Value.int IntKind.i64 a0_1), (Value.bool a0_2)]))] Tryz.f66 = d66 call lf a0_0 a0_1 a0_2 := by kernel_rfl

noncomputable def d67 (call : CallH) (lf : Nat) (a0 : Int) : Tr Value :=
 (cond (iLe 98 a0)
   (Tr.ret (Value.bool (iLe a0 256)))
   (Tr.ret (Value.bool false)))
theorem d67_eq (call : CallH) (lf : Nat) (a0 : Int) : gFn sh16 env16 call lf [(Value.int IntKind.i64 a0)] Tryz.f67 = d67 call lf a0 := by kernel_rfl

noncomputable def d68 (call : CallH) (lf : Nat) (a0_0 : Int) (a0_1 : SV) : Tr Value :=
 (Tr.op (newM [(Value.int IntKind.i64 a0_0), (Value.slice a0_1.a a0_1.n a0_1.c)]) (fun (x0 : Nat) =>
  (Tr.loop (β := (SV × (Int × Unit))) (γ := (SV × Unit)) (fun (x1 : (SV × (Int × Unit))) =>
   (Tr.op (fldM 1 (some (Addr.mk x0 0 none))) (fun (x2 : Addr) =>
    (Tr.op (ldM (S2.one S1.slice) (some x2)) (fun (x3 : SV) =>
     (cond (iLt x1.2.1 (Int.ofNat x3.n))
       (Tr.bind (β := (SV × Unit))
         (Tr.op (fldM 1 (some (Addr.mk x0 0 none))) (fun (x4 : Addr) =>
          (Tr.op (ldM (S2.one S1.slice) (some x4)) (fun (x5 : SV) =>
           (Tr.op (ixP 3 x5.n x5.a IntKind.i64 x1.2.1) (fun (x6 : Addr) =>
            (Tr.op (fldM 2 (some x6)) (fun (x7 : Addr) =>
             (Tr.op (ldM (S2.one S1.bool) (some x7)) (fun (x8 : Bool) =>
              (cond x8
                (Tr.op (fldM 1 (some (Addr.mk x0 0 none))) (fun (x9 : Addr) =>
                 (Tr.op (ldM (S2.one S1.slice) (some x9)) (fun (x10 : SV) =>
                  (Tr.op (ixP 3 x10.n x10.a IntKind.i64 x1.2.1) (fun (x11 : Addr) =>
                   (Tr.op (ldM (S2.agg [(S1.int IntKind.i64), (S1.int IntKind.i64), S1.bool]) (some x11)) (fun (x12 : (Int × (Int × (Bool × Unit)))) =>
                    (Tr.op (bsM 3 1 [(Value.int IntKind.i64 0), (Value.int IntKind.i64 0), (Value.bool false)] [(0, (Value.agg (Array.mk [(Value.int IntKind.i64 x12.1), (Value.int IntKind.i64 x12.2.1), (Value.bool x12.2.2.1)])))]) (fun (x13 : Nat) =>
                     (Tr.op (apM 3 24 (Value.slice x1.1.a x1.1.n x1.1.c) (Value.slice (some (Addr.mk x13 0 none)) 1 1)) (fun (x14 : SV) =>
                      (Tr.ret ((SV.mk x14.a x14.n x14.c), ()))))))))))))))
                (Tr.ret ((SV.mk x1.1.a x1.1.n x1.1.c), ())))))))))))))
        (fun (x15 : (SV × Unit)) =>
        (Tr.ret (Sum.inl ((SV.mk x15.1.a x15.1.n x15.1.c), ((wrapK IntKind.i64 (Int.add x1.2.1 1)), ()))))))
       (Tr.ret (Sum.inr ((SV.mk x1.1.a x1.1.n x1.1.c), ())))))))))
   lf ((SV.mk none 0 0), (0, ())) (fun (x16 : (SV × Unit)) =>
   (Tr.ret (Value.slice x16.1.a x16.1.n x16.1.c))))))
theorem d68_eq (call : CallH) (lf : Nat) (a0_0 : Int) (a0_1 : SV) : gFn sh16 env16 call lf [(Value.agg (Array.mk [(Value.int IntKind.i64 a0_0), (Value.slice a0_1.a a0_1.n a0_1.c)]))] Tryz.f68 = d68 call lf a0_0 a0_1 := by kernel_rfl

noncomputable def d111 (call : CallH) (lf : Nat) (a0 : SV) (a1 : Value) : Tr Value :=
 (Tr.loop (β := (Int × Unit)) (γ := (Unit ⊕ (Int × Unit))) (fun (x0 : (Int × Unit)) =>
  (cond (iLt x0.1 (Int.ofNat a0.n))
    (Tr.op (ixP 3 a0.n a0.a IntKind.i64 x0.1) (fun (x1 : Addr) =>
     (Tr.op (ldM (S2.agg [(S1.int IntKind.i64), (S1.int IntKind.i64), S1.bool]) (some x1)) (fun (x2 : (Int × (Int × (Bool × Unit)))) =>
      (Tr.op (ty3 (S3.v (S2.one S1.bool)) (callV call [(Value.agg (Array.mk [(Value.int IntKind.i64 x2.1), (Value.int IntKind.i64 x2.2.1), (Value.bool x2.2.2.1)]))] a1)) (fun (x3 : Bool) =>
       (cond x3
         (Tr.ret (Sum.inr (Sum.inr (x0.1, ()))))
         (Tr.ret (Sum.inl ((wrapK IntKind.i64 (Int.add x0.1 1)), ()))))))))))
    (Tr.ret (Sum.inr (Sum.inl ())))))
  lf (0, ()) (fun (x4 : (Unit ⊕ (Int × Unit))) =>
  (cs x4 (fun (x5 : Unit) =>
   (Tr.ret (Value.int IntKind.i64 (-1)))) (fun (x6 : (Int × Unit)) =>
   (Tr.ret (Value.int IntKind.i64 x6.1))))))
theorem d111_eq (call : CallH) (lf : Nat) (a0 : SV) (a1 : Value) : gFn sh16 env16 call lf [(Value.slice a0.a a0.n a0.c), a1] Tryz.f111 = d111 call lf a0 a1 := by kernel_rfl


end Go.Proofs.YtjlhclmgjdabfaaGreat
