/- A part of the proof: lemmas. -/
import Derived.Test.YtdoekadmocabdaaIC1
set_option linter.unusedVariables false
set_option maxHeartbeats 0
set_option maxRecDepth 100000
namespace Go.AM.S
open Go Go.AM
noncomputable section
def c73 : IC :=
  (IC.region [IOper.mk (some 2) (IOp.mv (Opd.c (KV.str []))) none]).seq
  (((IC.region [IOper.mk (some 3) (IOp.mv (Opd.t 0)) none]).seq
        (IC.block 0
          ((IC.region [IOper.mk (some 5) (IOp.bin .eql (Opd.t 3) (Opd.c (KV.int .i64 (1)))) none, IOper.mk (some 4) (IOp.mv (Opd.t 5)) none]).seq
            (IC.cond (Opd.t 4) ((IC.region [IOper.mk (some 2) (IOp.mv (Opd.c (KV.str [69, 80, 76, 68]))) none]).seq IC.ret)
              (((IC.region [IOper.mk (some 7) (IOp.bin .eql (Opd.t 3) (Opd.c (KV.int .i64 (2)))) none, IOper.mk (some 6) (IOp.mv (Opd.t 7)) none]).seq
                    (IC.cond (Opd.t 6) IC.skip (IC.region [IOper.mk (some 8) (IOp.bin .eql (Opd.t 3) (Opd.c (KV.int .i64 (3)))) none, IOper.mk (some 6) (IOp.mv (Opd.t 8)) none]))).seq
                (IC.cond (Opd.t 6) ((IC.region [IOper.mk (some 2) (IOp.mv (Opd.c (KV.str [69, 76]))) none]).seq IC.ret)
                  (((IC.region [IOper.mk (some 10) (IOp.bin .eql (Opd.t 3) (Opd.c (KV.int .i64 (4)))) none, IOper.mk (some 9) (IOp.mv (Opd.t 10)) none]).seq
                        (IC.cond (Opd.t 9) IC.skip (IC.region [IOper.mk (some 11) (IOp.bin .eql (Opd.t 3) (Opd.c (KV.int .i64 (6)))) none, IOper.mk (some 9) (IOp.mv (Opd.t 11)) none]))).seq
                    (IC.cond (Opd.t 9) ((IC.region [IOper.mk (some 2) (IOp.mv (Opd.c (KV.str [69, 67]))) none]).seq IC.ret)
                      ((IC.region [IOper.mk (some 13) (IOp.bin .eql (Opd.t 3) (Opd.c (KV.int .i64 (5)))) none, IOper.mk (some 12) (IOp.mv (Opd.t 13)) none]).seq
                        (IC.cond (Opd.t 12) ((IC.region [IOper.mk (some 2) (IOp.mv (Opd.c (KV.str [69, 84, 67]))) none]).seq IC.ret)
                          ((IC.region [IOper.mk (some 15) (IOp.bin .eql (Opd.t 3) (Opd.c (KV.int .i64 (7)))) none, IOper.mk (some 14) (IOp.mv (Opd.t 15)) none]).seq
                            (IC.cond (Opd.t 14) ((IC.region [IOper.mk (some 2) (IOp.mv (Opd.c (KV.str [69, 79, 83, 85, 68]))) none]).seq IC.ret)
                              ((IC.region [IOper.mk (some 17) (IOp.bin .eql (Opd.t 3) (Opd.c (KV.int .i64 (8)))) none, IOper.mk (some 16) (IOp.mv (Opd.t 17)) none]).seq
                                (IC.cond (Opd.t 16) ((IC.region [IOper.mk (some 2) (IOp.mv (Opd.c (KV.str [69, 79, 83, 85, 67, 68]))) none]).seq IC.ret)
                                  ((IC.region [IOper.mk (some 19) (IOp.bin .eql (Opd.t 3) (Opd.c (KV.int .i64 (9)))) none, IOper.mk (some 18) (IOp.mv (Opd.t 19)) none]).seq
                                    (IC.cond (Opd.t 18) ((IC.region [IOper.mk (some 2) (IOp.mv (Opd.c (KV.str [69, 79, 83, 85]))) none]).seq IC.ret)
                                      ((IC.region [IOper.mk (some 21) (IOp.bin .eql (Opd.t 3) (Opd.c (KV.int .i64 (10)))) none, IOper.mk (some 20) (IOp.mv (Opd.t 21)) none]).seq
                                        (IC.cond (Opd.t 20) ((IC.region [IOper.mk (some 2) (IOp.mv (Opd.c (KV.str [75, 68]))) none]).seq IC.ret)
                                          (((IC.region [IOper.mk (some 23) (IOp.bin .eql (Opd.t 3) (Opd.c (KV.int .i64 (11)))) none, IOper.mk (some 22) (IOp.mv (Opd.t 23)) none]).seq
                                                (IC.cond (Opd.t 22) IC.skip (IC.region [IOper.mk (some 24) (IOp.bin .eql (Opd.t 3) (Opd.c (KV.int .i64 (12)))) none, IOper.mk (some 22) (IOp.mv (Opd.t 24)) none]))).seq
                                            (IC.cond (Opd.t 22) ((IC.region [IOper.mk (some 2) (IOp.mv (Opd.c (KV.str [75]))) none]).seq IC.ret)
                                              ((IC.region [IOper.mk (some 26) (IOp.bin .eql (Opd.t 3) (Opd.c (KV.int .i64 (13)))) none, IOper.mk (some 25) (IOp.mv (Opd.t 26)) none]).seq
                                                (IC.cond (Opd.t 25) ((IC.region [IOper.mk (some 2) (IOp.mv (Opd.c (KV.str [79, 67, 75, 68]))) none]).seq IC.ret) IC.skip)))))))))))))))))))))).seq
    ((IC.region [IOper.mk (some 2) (IOp.mv (Opd.c (KV.str []))) none]).seq IC.ret))
theorem spec73 {args : List AV} {h : List AO} {post : AV → List AO → Prop} (hb : AX Go.Proofs.Try.prog h.length c73 [] (aend h.length [RV.tmp 2] post) ⟨mkT 27 (argsT 0 args), h⟩) (hl : args.length ≤ 27 := by simp) : ASpec Go.Proofs.Try.prog 73 args h post :=
  aspec_T hmix Go.Proofs.Try.func73 rfl (by kernel_rfl) rfl rfl hl hb
def c74 : IC :=
  (IC.region
      [IOper.mk (some 2) (IOp.box 32 (Opd.t 0)) none,
        IOper.mk (some 4)
          (IOp.alloc 32
            [KV.int .i64 (0), KV.int .u32 (0), KV.int .u32 (0), KV.int .u64 (0), KV.int .u64 (0), KV.int .u32 (0), KV.int .i64 (0),
              KV.bool false, KV.int .i64 (0), KV.nils, KV.nils])
          none]).seq
  (((IC.region [IOper.mk (some 5) (IOp.mv (Opd.t 1)) none]).seq
        (IC.block 0
          ((IC.region [IOper.mk (some 7) (IOp.bin .eql (Opd.t 5) (Opd.c (KV.int .i32 (69)))) none, IOper.mk (some 6) (IOp.mv (Opd.t 7)) none]).seq
            (IC.cond (Opd.t 6) (IC.region [IOper.mk (some 8) (IOp.faddr 1 (Opd.t 2)) none, IOper.mk none (IOp.store 1 (Opd.t 8) (Opd.c (KV.int .u32 (0)))) none])
              ((IC.region [IOper.mk (some 10) (IOp.bin .eql (Opd.t 5) (Opd.c (KV.int .i32 (80)))) none, IOper.mk (some 9) (IOp.mv (Opd.t 10)) none]).seq
                (IC.cond (Opd.t 9) (IC.region [IOper.mk (some 11) (IOp.faddr 2 (Opd.t 2)) none, IOper.mk none (IOp.store 1 (Opd.t 11) (Opd.c (KV.int .u32 (0)))) none])
                  ((IC.region [IOper.mk (some 13) (IOp.bin .eql (Opd.t 5) (Opd.c (KV.int .i32 (76)))) none, IOper.mk (some 12) (IOp.mv (Opd.t 13)) none]).seq
                    (IC.cond (Opd.t 12) (IC.region [IOper.mk (some 14) (IOp.faddr 3 (Opd.t 2)) none, IOper.mk none (IOp.store 1 (Opd.t 14) (Opd.c (KV.int .u64 (0)))) none])
                      ((IC.region [IOper.mk (some 16) (IOp.bin .eql (Opd.t 5) (Opd.c (KV.int .i32 (84)))) none, IOper.mk (some 15) (IOp.mv (Opd.t 16)) none]).seq
                        (IC.cond (Opd.t 15) (IC.region [IOper.mk (some 17) (IOp.faddr 4 (Opd.t 2)) none, IOper.mk none (IOp.store 1 (Opd.t 17) (Opd.c (KV.int .u64 (0)))) none])
                          ((IC.region [IOper.mk (some 19) (IOp.bin .eql (Opd.t 5) (Opd.c (KV.int .i32 (79)))) none, IOper.mk (some 18) (IOp.mv (Opd.t 19)) none]).seq
                            (IC.cond (Opd.t 18) (IC.region [IOper.mk (some 20) (IOp.faddr 5 (Opd.t 2)) none, IOper.mk none (IOp.store 1 (Opd.t 20) (Opd.c (KV.int .u32 (0)))) none])
                              ((IC.region [IOper.mk (some 22) (IOp.bin .eql (Opd.t 5) (Opd.c (KV.int .i32 (83)))) none, IOper.mk (some 21) (IOp.mv (Opd.t 22)) none]).seq
                                (IC.cond (Opd.t 21) (IC.region [IOper.mk (some 23) (IOp.faddr 6 (Opd.t 2)) none, IOper.mk none (IOp.store 1 (Opd.t 23) (Opd.c (KV.int .i64 (0)))) none])
                                  ((IC.region [IOper.mk (some 25) (IOp.bin .eql (Opd.t 5) (Opd.c (KV.int .i32 (85)))) none, IOper.mk (some 24) (IOp.mv (Opd.t 25)) none]).seq
                                    (IC.cond (Opd.t 24) (IC.region [IOper.mk (some 26) (IOp.faddr 7 (Opd.t 2)) none, IOper.mk none (IOp.store 1 (Opd.t 26) (Opd.c (KV.bool false))) none])
                                      ((IC.region [IOper.mk (some 28) (IOp.bin .eql (Opd.t 5) (Opd.c (KV.int .i32 (67)))) none, IOper.mk (some 27) (IOp.mv (Opd.t 28)) none]).seq
                                        (IC.cond (Opd.t 27) (IC.region [IOper.mk (some 29) (IOp.faddr 8 (Opd.t 2)) none, IOper.mk none (IOp.store 1 (Opd.t 29) (Opd.c (KV.int .i64 (0)))) none])
                                          ((IC.region [IOper.mk (some 31) (IOp.bin .eql (Opd.t 5) (Opd.c (KV.int .i32 (75)))) none, IOper.mk (some 30) (IOp.mv (Opd.t 31)) none]).seq
                                            (IC.cond (Opd.t 30) (IC.region [IOper.mk (some 32) (IOp.faddr 9 (Opd.t 2)) none, IOper.mk none (IOp.store 1 (Opd.t 32) (Opd.c KV.nils)) none])
                                              ((IC.region [IOper.mk (some 34) (IOp.bin .eql (Opd.t 5) (Opd.c (KV.int .i32 (68)))) none, IOper.mk (some 33) (IOp.mv (Opd.t 34)) none]).seq
                                                (IC.cond (Opd.t 33) (IC.region [IOper.mk (some 35) (IOp.faddr 10 (Opd.t 2)) none, IOper.mk none (IOp.store 1 (Opd.t 35) (Opd.c KV.nils)) none]) IC.skip)))))))))))))))))))))).seq
    ((IC.region [IOper.mk (some 36) (IOp.load (some 11) (Opd.t 2)) none, IOper.mk none (IOp.store 11 (Opd.t 4) (Opd.t 36)) none]).seq IC.ret))
theorem spec74 {args : List AV} {h : List AO} {post : AV → List AO → Prop} (hb : AX Go.Proofs.Try.prog h.length c74 [] (aend h.length [RV.cell 4 (some 11)] post) ⟨mkT 37 (argsT 0 args), h⟩) (hl : args.length ≤ 37 := by simp) : ASpec Go.Proofs.Try.prog 74 args h post :=
  aspec_T hmix Go.Proofs.Try.func74 rfl (by kernel_rfl) rfl rfl hl hb
def c42 : IC :=
  (IC.region [IOper.mk (some 1) (IOp.box 32 (Opd.t 0)) none, IOper.mk (some 2) (IOp.mv (Opd.c (KV.int .i64 (0)))) none]).seq
  ((IC.region [IOper.mk (some 9) (IOp.faddr 0 (Opd.t 1)) none, IOper.mk (some 10) (IOp.load none (Opd.t 9)) none, IOper.mk (some 11) (IOp.call 73 [Opd.t 10]) none, IOper.mk (some 3) (IOp.mv (Opd.t 11)) none]).seq
    ((IC.region
          [IOper.mk (some 12) (IOp.load (some 11) (Opd.t 1)) none,
            IOper.mk (some 4)
              (IOp.alloc 32
                [KV.int .i64 (0), KV.int .u32 (0), KV.int .u32 (0), KV.int .u64 (0), KV.int .u64 (0), KV.int .u32 (0),
                  KV.int .i64 (0), KV.bool false, KV.int .i64 (0), KV.nils, KV.nils])
              none,
            IOper.mk none (IOp.store 11 (Opd.t 4) (Opd.t 12)) none]).seq
      (((IC.region [IOper.mk (some 13) (IOp.mv (Opd.t 3)) none, IOper.mk (some 14) (IOp.rngS (Opd.t 13)) none]).seq
            (IC.block 0
              ((IC.region [IOper.mk (some 15) (IOp.nextS (Opd.t 14)) none, IOper.mk (some 16) (IOp.ext (Opd.t 15) 0) none]).seq
                  ((IC.cond (Opd.t 16) IC.skip (IC.exit 0)).seq
                    (IC.block 1
                      ((IC.region [IOper.mk (some 17) (IOp.ext (Opd.t 15) 2) none, IOper.mk (some 6) (IOp.mv (Opd.t 17)) none]).seq
                        (IC.region
                          [IOper.mk (some 18) (IOp.load (some 11) (Opd.t 4)) none, IOper.mk (some 19) (IOp.mv (Opd.t 6)) none, IOper.mk (some 20) (IOp.call 74 [Opd.t 18, Opd.t 19]) none,
                            IOper.mk none (IOp.store 11 (Opd.t 4) (Opd.t 20)) none]))))).loop)).seq
        ((IC.region
              [IOper.mk (some 21) (IOp.faddr 1 (Opd.t 4)) none, IOper.mk (some 22) (IOp.load none (Opd.t 21)) none, IOper.mk (some 23) (IOp.bin .gtr (Opd.t 22) (Opd.c (KV.int .u32 (0)))) none,
                IOper.mk (some 24) (IOp.mv (Opd.t 23)) none, IOper.mk (some 25) (IOp.faddr 2 (Opd.t 4)) (some (some 24, false)), IOper.mk (some 26) (IOp.load none (Opd.t 25)) (some (some 24, false)),
                IOper.mk (some 27) (IOp.bin .gtr (Opd.t 26) (Opd.c (KV.int .u32 (0)))) (some (some 24, false)), IOper.mk (some 28) (IOp.pick (Opd.t 24) (Opd.c (KV.bool true)) (Opd.t 27)) none,
                IOper.mk (some 29) (IOp.mv (Opd.t 28)) none, IOper.mk (some 30) (IOp.faddr 3 (Opd.t 4)) (some (some 29, false)), IOper.mk (some 31) (IOp.load none (Opd.t 30)) (some (some 29, false)),
                IOper.mk (some 32) (IOp.bin .gtr (Opd.t 31) (Opd.c (KV.int .u64 (0)))) (some (some 29, false)), IOper.mk (some 33) (IOp.pick (Opd.t 29) (Opd.c (KV.bool true)) (Opd.t 32)) none,
                IOper.mk (some 34) (IOp.mv (Opd.t 33)) none, IOper.mk (some 35) (IOp.faddr 4 (Opd.t 4)) (some (some 34, false)), IOper.mk (some 36) (IOp.load none (Opd.t 35)) (some (some 34, false)),
                IOper.mk (some 37) (IOp.bin .gtr (Opd.t 36) (Opd.c (KV.int .u64 (0)))) (some (some 34, false)), IOper.mk (some 38) (IOp.pick (Opd.t 34) (Opd.c (KV.bool true)) (Opd.t 37)) none,
                IOper.mk (some 39) (IOp.mv (Opd.t 38)) none, IOper.mk (some 40) (IOp.faddr 5 (Opd.t 4)) (some (some 39, false)), IOper.mk (some 41) (IOp.load none (Opd.t 40)) (some (some 39, false)),
                IOper.mk (some 42) (IOp.bin .gtr (Opd.t 41) (Opd.c (KV.int .u32 (0)))) (some (some 39, false)), IOper.mk (some 43) (IOp.pick (Opd.t 39) (Opd.c (KV.bool true)) (Opd.t 42)) none,
                IOper.mk (some 44) (IOp.mv (Opd.t 43)) none, IOper.mk (some 45) (IOp.faddr 6 (Opd.t 4)) (some (some 44, false)), IOper.mk (some 46) (IOp.load none (Opd.t 45)) (some (some 44, false)),
                IOper.mk (some 47) (IOp.bin .neq (Opd.t 46) (Opd.c (KV.int .i64 (0)))) (some (some 44, false)), IOper.mk (some 48) (IOp.pick (Opd.t 44) (Opd.c (KV.bool true)) (Opd.t 47)) none,
                IOper.mk (some 49) (IOp.mv (Opd.t 48)) none, IOper.mk (some 50) (IOp.faddr 7 (Opd.t 4)) (some (some 49, false)), IOper.mk (some 51) (IOp.load none (Opd.t 50)) (some (some 49, false)),
                IOper.mk (some 52) (IOp.pick (Opd.t 49) (Opd.c (KV.bool true)) (Opd.t 51)) none, IOper.mk (some 53) (IOp.mv (Opd.t 52)) none, IOper.mk (some 54) (IOp.faddr 8 (Opd.t 4)) (some (some 53, false)),
                IOper.mk (some 55) (IOp.load none (Opd.t 54)) (some (some 53, false)), IOper.mk (some 56) (IOp.bin .neq (Opd.t 55) (Opd.c (KV.int .i64 (0)))) (some (some 53, false)),
                IOper.mk (some 57) (IOp.pick (Opd.t 53) (Opd.c (KV.bool true)) (Opd.t 56)) none, IOper.mk (some 58) (IOp.mv (Opd.t 57)) none, IOper.mk (some 59) (IOp.faddr 9 (Opd.t 4)) (some (some 58, false)),
                IOper.mk (some 60) (IOp.load none (Opd.t 59)) (some (some 58, false)), IOper.mk (some 61) (IOp.len (Opd.t 60)) (some (some 58, false)),
                IOper.mk (some 62) (IOp.bin .gtr (Opd.t 61) (Opd.c (KV.int .i64 (0)))) (some (some 58, false)), IOper.mk (some 63) (IOp.pick (Opd.t 58) (Opd.c (KV.bool true)) (Opd.t 62)) none,
                IOper.mk (some 64) (IOp.mv (Opd.t 63)) none, IOper.mk (some 65) (IOp.faddr 10 (Opd.t 4)) (some (some 64, false)), IOper.mk (some 66) (IOp.load none (Opd.t 65)) (some (some 64, false)),
                IOper.mk (some 67) (IOp.len (Opd.t 66)) (some (some 64, false)), IOper.mk (some 68) (IOp.bin .gtr (Opd.t 67) (Opd.c (KV.int .i64 (0)))) (some (some 64, false)),
                IOper.mk (some 69) (IOp.pick (Opd.t 64) (Opd.c (KV.bool true)) (Opd.t 68)) none, IOper.mk (some 7) (IOp.mv (Opd.t 69)) none]).seq
          ((IC.region
                [IOper.mk (some 70) (IOp.faddr 6 (Opd.t 1)) none, IOper.mk (some 71) (IOp.load none (Opd.t 70)) none, IOper.mk (some 72) (IOp.bin .lss (Opd.t 71) (Opd.c (KV.int .i64 (0)))) none,
                  IOper.mk (some 73) (IOp.mv (Opd.t 72)) none, IOper.mk (some 74) (IOp.faddr 6 (Opd.t 1)) (some (some 73, false)), IOper.mk (some 75) (IOp.load none (Opd.t 74)) (some (some 73, false)),
                  IOper.mk (some 76) (IOp.bin .geq (Opd.t 75) (Opd.c (KV.int .i64 (16)))) (some (some 73, false)), IOper.mk (some 77) (IOp.pick (Opd.t 73) (Opd.c (KV.bool true)) (Opd.t 76)) none,
                  IOper.mk (some 78) (IOp.mv (Opd.t 77)) none, IOper.mk (some 79) (IOp.faddr 8 (Opd.t 1)) (some (some 78, false)), IOper.mk (some 80) (IOp.load none (Opd.t 79)) (some (some 78, false)),
                  IOper.mk (some 81) (IOp.bin .lss (Opd.t 80) (Opd.c (KV.int .i64 (0)))) (some (some 78, false)), IOper.mk (some 82) (IOp.pick (Opd.t 78) (Opd.c (KV.bool true)) (Opd.t 81)) none,
                  IOper.mk (some 83) (IOp.mv (Opd.t 82)) none, IOper.mk (some 84) (IOp.faddr 8 (Opd.t 1)) (some (some 83, false)), IOper.mk (some 85) (IOp.load none (Opd.t 84)) (some (some 83, false)),
                  IOper.mk (some 86) (IOp.bin .gtr (Opd.t 85) (Opd.c (KV.int .i64 (255)))) (some (some 83, false)), IOper.mk (some 87) (IOp.pick (Opd.t 83) (Opd.c (KV.bool true)) (Opd.t 86)) none,
                  IOper.mk (some 88) (IOp.mv (Opd.t 87)) none, IOper.mk (some 89) (IOp.faddr 9 (Opd.t 1)) (some (some 88, false)), IOper.mk (some 90) (IOp.load none (Opd.t 89)) (some (some 88, false)),
                  IOper.mk (some 91) (IOp.len (Opd.t 90)) (some (some 88, false)), IOper.mk (some 92) (IOp.bin .gtr (Opd.t 91) (Opd.c (KV.int .i64 (32)))) (some (some 88, false)),
                  IOper.mk (some 93) (IOp.pick (Opd.t 88) (Opd.c (KV.bool true)) (Opd.t 92)) none, IOper.mk (some 94) (IOp.mv (Opd.t 93)) none, IOper.mk (some 95) (IOp.faddr 10 (Opd.t 1)) (some (some 94, false)),
                  IOper.mk (some 96) (IOp.load none (Opd.t 95)) (some (some 94, false)), IOper.mk (some 97) (IOp.len (Opd.t 96)) (some (some 94, false)),
                  IOper.mk (some 98) (IOp.bin .gtr (Opd.t 97) (Opd.c (KV.int .i64 (255)))) (some (some 94, false)), IOper.mk (some 99) (IOp.pick (Opd.t 94) (Opd.c (KV.bool true)) (Opd.t 98)) none,
                  IOper.mk (some 8) (IOp.mv (Opd.t 99)) none]).seq
            (((IC.region
                      [IOper.mk (some 100) (IOp.mv (Opd.t 3)) none, IOper.mk (some 101) (IOp.bin .eql (Opd.t 100) (Opd.c (KV.str []))) none, IOper.mk (some 102) (IOp.mv (Opd.t 101)) none,
                        IOper.mk (some 103) (IOp.mv (Opd.t 7)) (some (some 102, false)), IOper.mk (some 104) (IOp.pick (Opd.t 102) (Opd.c (KV.bool true)) (Opd.t 103)) none, IOper.mk (some 105) (IOp.mv (Opd.t 104)) none,
                        IOper.mk (some 106) (IOp.mv (Opd.t 8)) (some (some 105, false)), IOper.mk (some 107) (IOp.pick (Opd.t 105) (Opd.c (KV.bool true)) (Opd.t 106)) none, IOper.mk (some 108) (IOp.mv (Opd.t 107)) none,
                        IOper.mk (some 109) (IOp.faddr 0 (Opd.t 1)) (some (some 108, false)), IOper.mk (some 110) (IOp.load none (Opd.t 109)) (some (some 108, false)),
                        IOper.mk (some 111) (IOp.bin .geq (Opd.t 110) (Opd.c (KV.int .i64 (10)))) (some (some 108, false)), IOper.mk (some 112) (IOp.mv (Opd.t 111)) (some (some 108, false)),
                        IOper.mk (some 113) (IOp.faddr 0 (Opd.t 1)) (some (some 112, true)), IOper.mk (some 114) (IOp.load none (Opd.t 113)) (some (some 112, true)),
                        IOper.mk (some 115) (IOp.bin .leq (Opd.t 114) (Opd.c (KV.int .i64 (12)))) (some (some 112, true)), IOper.mk (some 116) (IOp.pick (Opd.t 112) (Opd.t 115) (Opd.c (KV.bool false))) (some (some 108, false)),
                        IOper.mk (some 117) (IOp.mv (Opd.t 116)) (some (some 108, false)), IOper.mk (some 118) (IOp.faddr 9 (Opd.t 1)) (some (some 117, true)), IOper.mk (some 119) (IOp.load none (Opd.t 118)) (some (some 117, true)),
                        IOper.mk (some 120) (IOp.len (Opd.t 119)) (some (some 117, true)), IOper.mk (some 121) (IOp.bin .eql (Opd.t 120) (Opd.c (KV.int .i64 (0)))) (some (some 117, true)),
                        IOper.mk (some 122) (IOp.pick (Opd.t 117) (Opd.t 121) (Opd.c (KV.bool false))) (some (some 108, false)), IOper.mk (some 123) (IOp.pick (Opd.t 108) (Opd.c (KV.bool true)) (Opd.t 122)) none]).seq
                  (IC.cond (Opd.t 123) ((IC.region [IOper.mk (some 2) (IOp.mv (Opd.c (KV.int .i64 (50)))) none]).seq IC.ret) IC.skip)).seq
              ((IC.region [IOper.mk (some 2) (IOp.mv (Opd.c (KV.int .i64 (0)))) none]).seq IC.ret)))))))
theorem spec42 {args : List AV} {h : List AO} {post : AV → List AO → Prop} (hb : AX Go.Proofs.Try.prog h.length c42 [] (aend h.length [RV.tmp 2] post) ⟨mkT 124 (argsT 0 args), h⟩) (hl : args.length ≤ 124 := by simp) : ASpec Go.Proofs.Try.prog 42 args h post :=
  aspec_T hmix Go.Proofs.Try.func42 rfl (by kernel_rfl) rfl rfl hl hb
def c50 : IC :=
  (IC.region [IOper.mk (some 2) (IOp.mv (Opd.c KV.nils)) none]).seq
  (((IC.region [IOper.mk (some 3) (IOp.mv (Opd.t 0)) none, IOper.mk (some 4) (IOp.eqs false (Opd.t 3) (Opd.c KV.nils)) none]).seq (IC.cond (Opd.t 4) ((IC.region [IOper.mk (some 2) (IOp.mv (Opd.c KV.nils)) none]).seq IC.ret) IC.skip)).seq
    ((IC.region [IOper.mk (some 5) (IOp.bslice 5 1 0 [KV.int .u8 (0)] []) none, IOper.mk (some 6) (IOp.mv (Opd.t 0)) none, IOper.mk (some 7) (IOp.append 5 1 1 (Opd.t 5) (Opd.t 6)) none, IOper.mk (some 2) (IOp.mv (Opd.t 7)) none]).seq
      IC.ret))
theorem spec50 {args : List AV} {h : List AO} {post : AV → List AO → Prop} (hb : AX Go.Proofs.Try.prog h.length c50 [] (aend h.length [RV.tmp 2] post) ⟨mkT 8 (argsT 0 args), h⟩) (hl : args.length ≤ 8 := by simp) : ASpec Go.Proofs.Try.prog 50 args h post :=
  aspec_T hmix Go.Proofs.Try.func50 rfl (by kernel_rfl) rfl rfl hl hb
def c37 : IC :=
  (IC.region [IOper.mk (some 2) (IOp.mv (Opd.c (KV.bool false))) none]).seq
  ((IC.region
        [IOper.mk (some 6) (IOp.mv (Opd.t 0)) none, IOper.mk (some 7) (IOp.call 65 [Opd.t 6]) none, IOper.mk (some 5) (IOp.mv (Opd.t 7)) none, IOper.mk (some 8) (IOp.ext (Opd.t 5) 0) none, IOper.mk (some 9) (IOp.ext (Opd.t 5) 1) none,
          IOper.mk (some 3) (IOp.mv (Opd.t 8)) none, IOper.mk (some 4) (IOp.mv (Opd.t 9)) none]).seq
    ((IC.region [IOper.mk (some 10) (IOp.mv (Opd.t 4)) none, IOper.mk (some 11) (IOp.bin .eql (Opd.t 10) (Opd.c (KV.int .i64 (0)))) none, IOper.mk (some 2) (IOp.mv (Opd.t 11)) none]).seq IC.ret))
theorem spec37 {args : List AV} {h : List AO} {post : AV → List AO → Prop} (hb : AX Go.Proofs.Try.prog h.length c37 [] (aend h.length [RV.tmp 2] post) ⟨mkT 12 (argsT 0 args), h⟩) (hl : args.length ≤ 12 := by simp) : ASpec Go.Proofs.Try.prog 37 args h post :=
  aspec_T hmix Go.Proofs.Try.func37 rfl (by kernel_rfl) rfl rfl hl hb
def c38 : IC :=
  (IC.region [IOper.mk (some 2) (IOp.mv (Opd.c (KV.int .u64 (0)))) none]).seq
  (((IC.region [IOper.mk (some 3) (IOp.mv (Opd.t 0)) none, IOper.mk (some 4) (IOp.len (Opd.t 3)) none, IOper.mk (some 5) (IOp.bin .eql (Opd.t 4) (Opd.c (KV.int .i64 (0)))) none]).seq
        (IC.cond (Opd.t 5) ((IC.region [IOper.mk (some 2) (IOp.mv (Opd.c (KV.int .u64 (1)))) none]).seq IC.ret) IC.skip)).seq
    ((IC.region
          [IOper.mk (some 6) (IOp.mv (Opd.t 0)) none, IOper.mk (some 7) (IOp.iaddr 11 (Opd.t 6) (Opd.c (KV.int .i64 (0)))) none, IOper.mk (some 8) (IOp.faddr 1 (Opd.t 7)) none, IOper.mk (some 9) (IOp.load none (Opd.t 8)) none,
            IOper.mk (some 2) (IOp.mv (Opd.t 9)) none]).seq
      IC.ret))
theorem spec38 {args : List AV} {h : List AO} {post : AV → List AO → Prop} (hb : AX Go.Proofs.Try.prog h.length c38 [] (aend h.length [RV.tmp 2] post) ⟨mkT 10 (argsT 0 args), h⟩) (hl : args.length ≤ 10 := by simp) : ASpec Go.Proofs.Try.prog 38 args h post :=
  aspec_T hmix Go.Proofs.Try.func38 rfl (by kernel_rfl) rfl rfl hl hb
def c39 : IC :=
  (IC.region [IOper.mk (some 2) (IOp.mv (Opd.c (KV.int .u64 (0)))) none]).seq
  (((IC.region [IOper.mk (some 3) (IOp.mv (Opd.t 0)) none, IOper.mk (some 4) (IOp.len (Opd.t 3)) none, IOper.mk (some 5) (IOp.bin .eql (Opd.t 4) (Opd.c (KV.int .i64 (0)))) none]).seq
        (IC.cond (Opd.t 5) ((IC.region [IOper.mk (some 2) (IOp.mv (Opd.c (KV.int .u64 (0)))) none]).seq IC.ret) IC.skip)).seq
    ((IC.region
          [IOper.mk (some 6) (IOp.mv (Opd.t 0)) none, IOper.mk (some 7) (IOp.mv (Opd.t 0)) none, IOper.mk (some 8) (IOp.len (Opd.t 7)) none, IOper.mk (some 9) (IOp.bin .sub (Opd.t 8) (Opd.c (KV.int .i64 (1)))) none,
            IOper.mk (some 10) (IOp.iaddr 11 (Opd.t 6) (Opd.t 9)) none, IOper.mk (some 11) (IOp.faddr 1 (Opd.t 10)) none, IOper.mk (some 12) (IOp.load none (Opd.t 11)) none, IOper.mk (some 2) (IOp.mv (Opd.t 12)) none]).seq
      IC.ret))
theorem spec39 {args : List AV} {h : List AO} {post : AV → List AO → Prop} (hb : AX Go.Proofs.Try.prog h.length c39 [] (aend h.length [RV.tmp 2] post) ⟨mkT 13 (argsT 0 args), h⟩) (hl : args.length ≤ 13 := by simp) : ASpec Go.Proofs.Try.prog 39 args h post :=
  aspec_T hmix Go.Proofs.Try.func39 rfl (by kernel_rfl) rfl rfl hl hb
def c41 : IC :=
  (IC.region [IOper.mk (some 4) (IOp.mv (Opd.c (KV.int .u32 (0)))) none]).seq
  (((IC.region [IOper.mk (some 5) (IOp.mv (Opd.t 1)) none, IOper.mk (some 6) (IOp.bin .eql (Opd.t 5) (Opd.c (KV.int .u64 (0)))) none]).seq
        (IC.cond (Opd.t 6) ((IC.region [IOper.mk (some 4) (IOp.mv (Opd.c (KV.int .u32 (0)))) none]).seq IC.ret) IC.skip)).seq
    ((IC.region
          [IOper.mk (some 7) (IOp.mv (Opd.t 0)) none, IOper.mk (some 8) (IOp.mv (Opd.t 1)) none, IOper.mk (some 9) (IOp.mv (Opd.t 0)) none, IOper.mk (some 10) (IOp.call 38 [Opd.t 9]) none,
            IOper.mk (some 11) (IOp.bin .sub (Opd.t 8) (Opd.t 10)) none, IOper.mk (some 12) (IOp.iaddr 11 (Opd.t 7) (Opd.t 11)) none, IOper.mk (some 13) (IOp.faddr 2 (Opd.t 12)) none, IOper.mk (some 14) (IOp.load none (Opd.t 13)) none,
            IOper.mk (some 4) (IOp.mv (Opd.t 14)) none]).seq
      IC.ret))
theorem spec41 {args : List AV} {h : List AO} {post : AV → List AO → Prop} (hb : AX Go.Proofs.Try.prog h.length c41 [] (aend h.length [RV.tmp 4] post) ⟨mkT 15 (argsT 0 args), h⟩) (hl : args.length ≤ 15 := by simp) : ASpec Go.Proofs.Try.prog 41 args h post :=
  aspec_T hmix Go.Proofs.Try.func41 rfl (by kernel_rfl) rfl rfl hl hb
def c10 : IC :=
  (IC.region
      [IOper.mk (some 6)
          (IOp.alloc 32
            [KV.int .i64 (0), KV.int .u32 (0), KV.int .u32 (0), KV.int .u64 (0), KV.int .u64 (0), KV.int .u32 (0), KV.int .i64 (0),
              KV.bool false, KV.int .i64 (0), KV.nils, KV.nils])
          none,
        IOper.mk (some 7) (IOp.mv (Opd.c (KV.bool false))) none]).seq
  (((IC.region
            [IOper.mk (some 12) (IOp.mv (Opd.t 0)) none, IOper.mk (some 13) (IOp.call 37 [Opd.t 12]) none, IOper.mk (some 14) (IOp.not (Opd.t 13)) none, IOper.mk (some 15) (IOp.mv (Opd.t 14)) none,
              IOper.mk (some 16) (IOp.mv (Opd.t 1)) (some (some 15, false)), IOper.mk (some 17) (IOp.bin .eql (Opd.t 16) (Opd.c (KV.int .u32 (0)))) (some (some 15, false)),
              IOper.mk (some 18) (IOp.pick (Opd.t 15) (Opd.c (KV.bool true)) (Opd.t 17)) none, IOper.mk (some 19) (IOp.mv (Opd.t 18)) none, IOper.mk (some 20) (IOp.mv (Opd.t 2)) (some (some 19, false)),
              IOper.mk (some 21) (IOp.mv (Opd.t 0)) (some (some 19, false)), IOper.mk (some 22) (IOp.call 38 [Opd.t 21]) (some (some 19, false)), IOper.mk (some 23) (IOp.bin .lss (Opd.t 20) (Opd.t 22)) (some (some 19, false)),
              IOper.mk (some 24) (IOp.pick (Opd.t 19) (Opd.c (KV.bool true)) (Opd.t 23)) none, IOper.mk (some 25) (IOp.mv (Opd.t 24)) none, IOper.mk (some 26) (IOp.mv (Opd.t 2)) (some (some 25, false)),
              IOper.mk (some 27) (IOp.mv (Opd.t 0)) (some (some 25, false)), IOper.mk (some 28) (IOp.call 39 [Opd.t 27]) (some (some 25, false)), IOper.mk (some 29) (IOp.bin .gtr (Opd.t 26) (Opd.t 28)) (some (some 25, false)),
              IOper.mk (some 30) (IOp.pick (Opd.t 25) (Opd.c (KV.bool true)) (Opd.t 29)) none, IOper.mk (some 31) (IOp.mv (Opd.t 30)) none, IOper.mk (some 32) (IOp.mv (Opd.t 2)) (some (some 31, false)),
              IOper.mk (some 33) (IOp.mv (Opd.t 0)) (some (some 31, false)), IOper.mk (some 34) (IOp.call 38 [Opd.t 33]) (some (some 31, false)), IOper.mk (some 35) (IOp.bin .eql (Opd.t 32) (Opd.t 34)) (some (some 31, false)),
              IOper.mk (some 36) (IOp.mv (Opd.t 35)) (some (some 31, false)), IOper.mk (some 37) (IOp.mv (Opd.t 2)) (some (some 36, true)),
              IOper.mk (some 38) (IOp.bin .neq (Opd.t 37) (Opd.c (KV.int .u64 (1)))) (some (some 36, true)), IOper.mk (some 39) (IOp.pick (Opd.t 36) (Opd.t 38) (Opd.c (KV.bool false))) (some (some 31, false)),
              IOper.mk (some 40) (IOp.pick (Opd.t 31) (Opd.c (KV.bool true)) (Opd.t 39)) none]).seq
        (IC.cond (Opd.t 40)
          ((IC.region
                [IOper.mk (some 41)
                    (IOp.build
                      [KV.int .i64 (0), KV.int .u32 (0), KV.int .u32 (0), KV.int .u64 (0), KV.int .u64 (0), KV.int .u32 (0),
                        KV.int .i64 (0), KV.bool false, KV.int .i64 (0), KV.nils, KV.nils]
                      [])
                    none,
                  IOper.mk none (IOp.store 11 (Opd.t 6) (Opd.t 41)) none, IOper.mk (some 7) (IOp.mv (Opd.c (KV.bool false))) none]).seq
            IC.ret)
          IC.skip)).seq
    ((IC.region
          [IOper.mk (some 42) (IOp.mv (Opd.t 0)) none, IOper.mk (some 43) (IOp.mv (Opd.t 2)) none, IOper.mk (some 44) (IOp.mv (Opd.t 0)) none, IOper.mk (some 45) (IOp.call 38 [Opd.t 44]) none,
            IOper.mk (some 46) (IOp.bin .sub (Opd.t 43) (Opd.t 45)) none, IOper.mk (some 47) (IOp.iaddr 11 (Opd.t 42) (Opd.t 46)) none, IOper.mk (some 48) (IOp.load (some 11) (Opd.t 47)) none,
            IOper.mk (some 8)
              (IOp.alloc 69
                [KV.int .i64 (0), KV.int .u64 (0), KV.int .u32 (0), KV.int .u32 (0), KV.int .i64 (0), KV.bool false, KV.int .i64 (0),
                  KV.int .i64 (0), KV.int .u64 (0), KV.nils, KV.nils])
              none,
            IOper.mk none (IOp.store 11 (Opd.t 8) (Opd.t 48)) none]).seq
      ((IC.region
            [IOper.mk (some 50) (IOp.load (some 11) (Opd.t 8)) none, IOper.mk (some 51) (IOp.call 40 [Opd.t 50]) none, IOper.mk (some 49) (IOp.mv (Opd.t 51)) none, IOper.mk (some 52) (IOp.ext (Opd.t 49) 0) none,
              IOper.mk (some 53) (IOp.ext (Opd.t 49) 1) none, IOper.mk (some 9) (IOp.mv (Opd.t 52)) none, IOper.mk (some 10) (IOp.mv (Opd.t 53)) none]).seq
        ((IC.region
              [IOper.mk (some 54) (IOp.mv (Opd.t 1)) none, IOper.mk (some 55) (IOp.mv (Opd.t 0)) none, IOper.mk (some 56) (IOp.mv (Opd.t 2)) none, IOper.mk (some 57) (IOp.bin .sub (Opd.t 56) (Opd.c (KV.int .u64 (1)))) none,
                IOper.mk (some 58) (IOp.call 41 [Opd.t 55, Opd.t 57]) none, IOper.mk (some 59) (IOp.mv (Opd.t 2)) none, IOper.mk (some 60) (IOp.bin .sub (Opd.t 59) (Opd.c (KV.int .u64 (1)))) none,
                IOper.mk (some 61) (IOp.mv (Opd.t 9)) none,
                IOper.mk (some 62)
                  (IOp.build
                    [KV.int .i64 (0), KV.int .u32 (0), KV.int .u32 (0), KV.int .u64 (0), KV.int .u64 (0), KV.int .u32 (0),
                      KV.int .i64 (0), KV.bool false, KV.int .i64 (0), KV.nils, KV.nils]
                    [(0, 1, Opd.c (KV.int .i64 (1))), (1, 1, Opd.t 54), (2, 1, Opd.t 58), (3, 1, Opd.t 60), (10, 1, Opd.t 61)])
                  none,
                IOper.mk (some 11)
                  (IOp.alloc 32
                    [KV.int .i64 (0), KV.int .u32 (0), KV.int .u32 (0), KV.int .u64 (0), KV.int .u64 (0), KV.int .u32 (0),
                      KV.int .i64 (0), KV.bool false, KV.int .i64 (0), KV.nils, KV.nils])
                  none,
                IOper.mk none (IOp.store 11 (Opd.t 11) (Opd.t 62)) none]).seq
          (((IC.region
                    [IOper.mk (some 63) (IOp.faddr 2 (Opd.t 8)) none, IOper.mk (some 64) (IOp.load none (Opd.t 63)) none, IOper.mk (some 65) (IOp.mv (Opd.t 1)) none, IOper.mk (some 66) (IOp.bin .gtr (Opd.t 64) (Opd.t 65)) none,
                      IOper.mk (some 67) (IOp.mv (Opd.t 66)) none, IOper.mk (some 68) (IOp.load (some 11) (Opd.t 11)) (some (some 67, false)), IOper.mk (some 69) (IOp.call 42 [Opd.t 68]) (some (some 67, false)),
                      IOper.mk (some 70) (IOp.bin .neq (Opd.t 69) (Opd.c (KV.int .i64 (0)))) (some (some 67, false)), IOper.mk (some 71) (IOp.pick (Opd.t 67) (Opd.c (KV.bool true)) (Opd.t 70)) none]).seq
                (IC.cond (Opd.t 71)
                  ((IC.region
                        [IOper.mk (some 72)
                            (IOp.build
                              [KV.int .i64 (0), KV.int .u32 (0), KV.int .u32 (0), KV.int .u64 (0), KV.int .u64 (0), KV.int .u32 (0),
                                KV.int .i64 (0), KV.bool false, KV.int .i64 (0), KV.nils, KV.nils]
                              [])
                            none,
                          IOper.mk none (IOp.store 11 (Opd.t 6) (Opd.t 72)) none, IOper.mk (some 7) (IOp.mv (Opd.c (KV.bool false))) none]).seq
                    IC.ret)
                  IC.skip)).seq
            ((IC.region [IOper.mk (some 73) (IOp.load (some 11) (Opd.t 11)) none, IOper.mk none (IOp.store 11 (Opd.t 6) (Opd.t 73)) none, IOper.mk (some 7) (IOp.mv (Opd.c (KV.bool true))) none]).seq IC.ret))))))
theorem spec10 {args : List AV} {h : List AO} {post : AV → List AO → Prop} (hb : AX Go.Proofs.Try.prog h.length c10 [] (aend h.length [RV.cell 6 (some 11), RV.tmp 7] post) ⟨mkT 74 (argsT 0 args), h⟩) (hl : args.length ≤ 74 := by simp) : ASpec Go.Proofs.Try.prog 10 args h post :=
  aspec_T hmix Go.Proofs.Try.func10 rfl (by kernel_rfl) rfl rfl hl hb
def c43 : IC :=
  (IC.region
      [IOper.mk (some 1) (IOp.box 32 (Opd.t 0)) none,
        IOper.mk (some 2)
          (IOp.alloc 69
            [KV.int .i64 (0), KV.int .u64 (0), KV.int .u32 (0), KV.int .u32 (0), KV.int .i64 (0), KV.bool false, KV.int .i64 (0),
              KV.int .i64 (0), KV.int .u64 (0), KV.nils, KV.nils])
          none,
        IOper.mk (some 3) (IOp.mv (Opd.c (KV.bool false))) none]).seq
  (((IC.region
            [IOper.mk (some 6) (IOp.faddr 0 (Opd.t 1)) none, IOper.mk (some 7) (IOp.load none (Opd.t 6)) none, IOper.mk (some 8) (IOp.bin .neq (Opd.t 7) (Opd.c (KV.int .i64 (1)))) none, IOper.mk (some 9) (IOp.mv (Opd.t 8)) none,
              IOper.mk (some 10) (IOp.load (some 11) (Opd.t 1)) (some (some 9, false)), IOper.mk (some 11) (IOp.call 42 [Opd.t 10]) (some (some 9, false)),
              IOper.mk (some 12) (IOp.bin .neq (Opd.t 11) (Opd.c (KV.int .i64 (0)))) (some (some 9, false)), IOper.mk (some 13) (IOp.pick (Opd.t 9) (Opd.c (KV.bool true)) (Opd.t 12)) none,
              IOper.mk (some 14) (IOp.mv (Opd.t 13)) none, IOper.mk (some 15) (IOp.faddr 1 (Opd.t 1)) (some (some 14, false)), IOper.mk (some 16) (IOp.load none (Opd.t 15)) (some (some 14, false)),
              IOper.mk (some 17) (IOp.bin .eql (Opd.t 16) (Opd.c (KV.int .u32 (0)))) (some (some 14, false)), IOper.mk (some 18) (IOp.pick (Opd.t 14) (Opd.c (KV.bool true)) (Opd.t 17)) none,
              IOper.mk (some 19) (IOp.mv (Opd.t 18)) none, IOper.mk (some 20) (IOp.faddr 2 (Opd.t 1)) (some (some 19, false)), IOper.mk (some 21) (IOp.load none (Opd.t 20)) (some (some 19, false)),
              IOper.mk (some 22) (IOp.bin .eql (Opd.t 21) (Opd.c (KV.int .u32 (0)))) (some (some 19, false)), IOper.mk (some 23) (IOp.faddr 3 (Opd.t 1)) (some (some 19, false)),
              IOper.mk (some 24) (IOp.load none (Opd.t 23)) (some (some 19, false)), IOper.mk (some 25) (IOp.bin .eql (Opd.t 24) (Opd.c (KV.int .u64 (0)))) (some (some 19, false)),
              IOper.mk (some 26) (IOp.eqb true (Opd.t 22) (Opd.t 25)) (some (some 19, false)), IOper.mk (some 27) (IOp.pick (Opd.t 19) (Opd.c (KV.bool true)) (Opd.t 26)) none]).seq
        (IC.cond (Opd.t 27)
          ((IC.region
                [IOper.mk (some 28)
                    (IOp.build
                      [KV.int .i64 (0), KV.int .u64 (0), KV.int .u32 (0), KV.int .u32 (0), KV.int .i64 (0), KV.bool false, KV.int .i64 (0),
                        KV.int .i64 (0), KV.int .u64 (0), KV.nils, KV.nils]
                      [])
                    none,
                  IOper.mk none (IOp.store 11 (Opd.t 2) (Opd.t 28)) none, IOper.mk (some 3) (IOp.mv (Opd.c (KV.bool false))) none]).seq
            IC.ret)
          IC.skip)).seq
    ((IC.region
          [IOper.mk (some 30) (IOp.faddr 10 (Opd.t 1)) none, IOper.mk (some 31) (IOp.load none (Opd.t 30)) none, IOper.mk (some 32) (IOp.call 75 [Opd.t 31]) none, IOper.mk (some 29) (IOp.mv (Opd.t 32)) none,
            IOper.mk (some 33) (IOp.ext (Opd.t 29) 0) none, IOper.mk (some 34) (IOp.ext (Opd.t 29) 1) none,
            IOper.mk (some 4)
              (IOp.alloc 69
                [KV.int .i64 (0), KV.int .u64 (0), KV.int .u32 (0), KV.int .u32 (0), KV.int .i64 (0), KV.bool false, KV.int .i64 (0),
                  KV.int .i64 (0), KV.int .u64 (0), KV.nils, KV.nils])
              none,
            IOper.mk none (IOp.store 11 (Opd.t 4) (Opd.t 33)) none, IOper.mk (some 5) (IOp.mv (Opd.t 34)) none]).seq
      ((IC.draw
            [IOper.mk (some 35) (IOp.load (some 11) (Opd.t 4)) none, IOper.mk (some 36) (IOp.mv (Opd.t 5)) none, IOper.mk (some 37) (IOp.bin .eql (Opd.t 36) (Opd.c (KV.int .i64 (0)))) none,
              IOper.mk (some 38) (IOp.mv (Opd.t 37)) none, IOper.mk (some 39) (IOp.faddr 1 (Opd.t 4)) (some (some 38, true)), IOper.mk (some 40) (IOp.load none (Opd.t 39)) (some (some 38, true)),
              IOper.mk (some 41) (IOp.bin .sub (Opd.t 40) (Opd.c (KV.int .u64 (1)))) (some (some 38, true)), IOper.mk (some 42) (IOp.faddr 3 (Opd.t 1)) (some (some 38, true)),
              IOper.mk (some 43) (IOp.load none (Opd.t 42)) (some (some 38, true)), IOper.mk (some 44) (IOp.bin .eql (Opd.t 41) (Opd.t 43)) (some (some 38, true)), IOper.mk (some 45) (IOp.pick (Opd.t 38) (Opd.t 44) (Opd.c (KV.bool false))) none,
              IOper.mk (some 46) (IOp.mv (Opd.t 45)) none, IOper.mk (some 47) (IOp.faddr 2 (Opd.t 4)) (some (some 46, true)), IOper.mk (some 48) (IOp.load none (Opd.t 47)) (some (some 46, true)),
              IOper.mk (some 49) (IOp.faddr 1 (Opd.t 1)) (some (some 46, true)), IOper.mk (some 50) (IOp.load none (Opd.t 49)) (some (some 46, true)), IOper.mk (some 51) (IOp.bin .leq (Opd.t 48) (Opd.t 50)) (some (some 46, true)),
              IOper.mk (some 52) (IOp.pick (Opd.t 46) (Opd.t 51) (Opd.c (KV.bool false))) none, IOper.mk (some 53) (IOp.mv (Opd.t 52)) none, IOper.mk (some 54) (IOp.faddr 2 (Opd.t 4)) (some (some 53, true)),
              IOper.mk (some 55) (IOp.load none (Opd.t 54)) (some (some 53, true)), IOper.mk (some 56) (IOp.faddr 2 (Opd.t 1)) (some (some 53, true)), IOper.mk (some 57) (IOp.load none (Opd.t 56)) (some (some 53, true)),
              IOper.mk (some 58) (IOp.bin .geq (Opd.t 55) (Opd.t 57)) (some (some 53, true)), IOper.mk (some 59) (IOp.pick (Opd.t 53) (Opd.t 58) (Opd.c (KV.bool false))) none, IOper.mk none (IOp.store 11 (Opd.t 2) (Opd.t 35)) none,
              IOper.mk (some 3) (IOp.mv (Opd.t 59)) none]
            [(0, true), (1, true), (2, true), (3, true), (4, true), (5, true), (6, true), (7, true), (8, true), (9, true), (10, true), (11, true), (12, true), (13, true), (14, true), (15, true), (16, true), (17, true), (18, true), (19, true),
              (20, true), (21, true), (22, true), (23, true), (24, true), (25, false), (26, true)]
            [4, 1] []).seq
        IC.ret)))
theorem spec43 {args : List AV} {h : List AO} {post : AV → List AO → Prop} (hb : AX Go.Proofs.Try.prog h.length c43 [] (aend h.length [RV.cell 2 (some 11), RV.tmp 3] post) ⟨mkT 60 (argsT 0 args), h⟩) (hl : args.length ≤ 60 := by simp) : ASpec Go.Proofs.Try.prog 43 args h post :=
  aspec_T hmix Go.Proofs.Try.func43 rfl (by kernel_rfl) rfl rfl hl hb
def c46 : IC :=
  (IC.region [IOper.mk (some 2) (IOp.box 69 (Opd.t 0)) none, IOper.mk (some 3) (IOp.box 32 (Opd.t 1)) none, IOper.mk (some 4) (IOp.mv (Opd.c (KV.bool false))) none]).seq
  ((IC.region
        [IOper.mk (some 8) (IOp.load (some 11) (Opd.t 2)) none, IOper.mk (some 9) (IOp.call 40 [Opd.t 8]) none, IOper.mk (some 7) (IOp.mv (Opd.t 9)) none, IOper.mk (some 10) (IOp.ext (Opd.t 7) 0) none, IOper.mk (some 11) (IOp.ext (Opd.t 7) 1) none,
          IOper.mk (some 5) (IOp.mv (Opd.t 10)) none, IOper.mk (some 6) (IOp.mv (Opd.t 11)) none]).seq
    ((IC.region
          [IOper.mk (some 12) (IOp.mv (Opd.t 5)) none, IOper.mk (some 13) (IOp.b2s (Opd.t 12)) none, IOper.mk (some 14) (IOp.faddr 10 (Opd.t 3)) none, IOper.mk (some 15) (IOp.load none (Opd.t 14)) none, IOper.mk (some 16) (IOp.b2s (Opd.t 15)) none,
            IOper.mk (some 17) (IOp.bin .eql (Opd.t 13) (Opd.t 16)) none, IOper.mk (some 4) (IOp.mv (Opd.t 17)) none]).seq
      IC.ret))
theorem spec46 {args : List AV} {h : List AO} {post : AV → List AO → Prop} (hb : AX Go.Proofs.Try.prog h.length c46 [] (aend h.length [RV.tmp 4] post) ⟨mkT 18 (argsT 0 args), h⟩) (hl : args.length ≤ 18 := by simp) : ASpec Go.Proofs.Try.prog 46 args h post :=
  aspec_T hmix Go.Proofs.Try.func46 rfl (by kernel_rfl) rfl rfl hl hb
def c77 : IC :=
  (IC.region [IOper.mk (some 2) (IOp.box 69 (Opd.t 0)) none, IOper.mk (some 3) (IOp.mv (Opd.c (KV.bool false))) none]).seq
  ((IC.region
        [IOper.mk (some 4) (IOp.faddr 2 (Opd.t 2)) none, IOper.mk (some 5) (IOp.load none (Opd.t 4)) none, IOper.mk (some 6) (IOp.faddr 2 (Opd.t 1)) none, IOper.mk (some 7) (IOp.load none (Opd.t 6)) none,
          IOper.mk (some 8) (IOp.bin .gtr (Opd.t 5) (Opd.t 7)) none, IOper.mk (some 3) (IOp.mv (Opd.t 8)) none]).seq
    IC.ret)
theorem spec77 {args : List AV} {h : List AO} {post : AV → List AO → Prop} (hb : AX Go.Proofs.Try.prog h.length c77 [] (aend h.length [RV.tmp 3] post) ⟨mkT 9 (argsT 0 args), h⟩) (hl : args.length ≤ 9 := by simp) : ASpec Go.Proofs.Try.prog 77 args h post :=
  aspec_T hmix Go.Proofs.Try.func77 rfl (by kernel_rfl) rfl rfl hl hb
def c76 : IC :=
  (IC.region [IOper.mk (some 4) (IOp.mv (Opd.c (KV.int .i64 (0)))) none]).seq
  (((IC.region [IOper.mk (some 6) (IOp.mv (Opd.t 0)) none, IOper.mk (some 7) (IOp.len (Opd.t 6)) none, IOper.mk (some 8) (IOp.mv (Opd.c (KV.int .i64 (0)))) none]).seq
        (IC.block 0
          ((IC.region [IOper.mk (some 9) (IOp.bin .lss (Opd.t 8) (Opd.t 7)) none]).seq
              ((IC.cond (Opd.t 9) IC.skip (IC.exit 0)).seq
                ((IC.block 1
                      ((IC.region [IOper.mk (some 10) (IOp.mv (Opd.t 8)) none, IOper.mk (some 5) (IOp.mv (Opd.t 10)) none]).seq
                        ((IC.region
                              [IOper.mk (some 11) (IOp.mv (Opd.t 1)) none, IOper.mk (some 12) (IOp.mv (Opd.t 0)) none, IOper.mk (some 13) (IOp.mv (Opd.t 5)) none, IOper.mk (some 14) (IOp.iaddr 11 (Opd.t 12) (Opd.t 13)) none,
                                IOper.mk (some 15) (IOp.load (some 11) (Opd.t 14)) none, IOper.mk (some 16) (IOp.callv (Opd.t 11) [Opd.t 15]) none]).seq
                          (IC.cond (Opd.t 16) ((IC.region [IOper.mk (some 17) (IOp.mv (Opd.t 5)) none, IOper.mk (some 4) (IOp.mv (Opd.t 17)) none]).seq IC.ret) IC.skip)))).seq
                  (IC.region [IOper.mk (some 18) (IOp.bin .add (Opd.t 8) (Opd.c (KV.int .i64 (1)))) none, IOper.mk (some 8) (IOp.mv (Opd.t 18)) none])))).loop)).seq
    ((IC.region [IOper.mk (some 4) (IOp.mv (Opd.c (KV.int .i64 (Int.negSucc 0)))) none]).seq IC.ret))
theorem spec76 {args : List AV} {h : List AO} {post : AV → List AO → Prop} (hb : AX Go.Proofs.Try.prog h.length c76 [] (aend h.length [RV.tmp 4] post) ⟨mkT 19 (argsT 0 args), h⟩) (hl : args.length ≤ 19 := by simp) : ASpec Go.Proofs.Try.prog 76 args h post :=
  aspec_T hmix Go.Proofs.Try.func76 rfl (by kernel_rfl) rfl rfl hl hb
def c45 : IC :=
  (IC.region [IOper.mk (some 3) (IOp.box 32 (Opd.t 1)) none, IOper.mk (some 4) (IOp.mv (Opd.c (KV.int .u64 (0)))) none]).seq
  ((IC.draw
        [IOper.mk (some 7) (IOp.faddr 3 (Opd.t 3)) none, IOper.mk (some 8) (IOp.load none (Opd.t 7)) none, IOper.mk (some 9) (IOp.mv (Opd.t 0)) none, IOper.mk (some 10) (IOp.call 38 [Opd.t 9]) none,
          IOper.mk (some 11) (IOp.bin .sub (Opd.t 8) (Opd.t 10)) none, IOper.mk (some 12) (IOp.conv .i64 (Opd.t 11)) none, IOper.mk (some 5) (IOp.mv (Opd.t 12)) none]
        [(0, true), (1, true), (2, true), (3, false), (4, true), (5, true), (6, true)] [3] []).seq
    ((IC.region
          [IOper.mk (some 13) (IOp.mv (Opd.t 0)) none, IOper.mk (some 14) (IOp.mv (Opd.t 5)) none, IOper.mk (some 15) (IOp.slice 11 (Opd.t 13) none (some (Opd.t 14))) none, IOper.mk (some 16) (IOp.mkfn 77 [Opd.t 3]) none,
            IOper.mk (some 17) (IOp.call 76 [Opd.t 15, Opd.t 16]) none, IOper.mk (some 6) (IOp.mv (Opd.t 17)) none]).seq
      (((IC.region [IOper.mk (some 18) (IOp.mv (Opd.t 6)) none, IOper.mk (some 19) (IOp.bin .lss (Opd.t 18) (Opd.c (KV.int .i64 (0)))) none]).seq
            (IC.cond (Opd.t 19) (IC.region [IOper.mk (some 20) (IOp.mv (Opd.t 5)) none, IOper.mk (some 6) (IOp.mv (Opd.t 20)) none]) IC.skip)).seq
        ((IC.region
              [IOper.mk (some 21) (IOp.mv (Opd.t 0)) none, IOper.mk (some 22) (IOp.call 38 [Opd.t 21]) none, IOper.mk (some 23) (IOp.bin .sub (Opd.t 22) (Opd.c (KV.int .u64 (1)))) none,
                IOper.mk (some 24) (IOp.mv (Opd.t 6)) none, IOper.mk (some 25) (IOp.conv .u64 (Opd.t 24)) none, IOper.mk (some 26) (IOp.bin .add (Opd.t 23) (Opd.t 25)) none, IOper.mk (some 4) (IOp.mv (Opd.t 26)) none]).seq
          IC.ret))))
theorem spec45 {args : List AV} {h : List AO} {post : AV → List AO → Prop} (hb : AX Go.Proofs.Try.prog h.length c45 [] (aend h.length [RV.tmp 4] post) ⟨mkT 27 (argsT 0 args), h⟩) (hl : args.length ≤ 27 := by simp) : ASpec Go.Proofs.Try.prog 45 args h post :=
  aspec_T hmix Go.Proofs.Try.func45 rfl (by kernel_rfl) rfl rfl hl hb
def c44 : IC :=
  (IC.region [IOper.mk (some 2) (IOp.mv (Opd.c KV.nils)) none]).seq
  ((IC.region [IOper.mk (some 3) (IOp.mv (Opd.c KV.nils)) none]).seq
    (((IC.region [IOper.mk (some 6) (IOp.mv (Opd.t 0)) none, IOper.mk (some 7) (IOp.len (Opd.t 6)) none, IOper.mk (some 8) (IOp.mv (Opd.c (KV.int .i64 (0)))) none]).seq
          (IC.block 0
            ((IC.region [IOper.mk (some 9) (IOp.bin .lss (Opd.t 8) (Opd.t 7)) none]).seq
                ((IC.cond (Opd.t 9) IC.skip (IC.exit 0)).seq
                  ((IC.block 1
                        ((IC.region
                              [IOper.mk (some 10) (IOp.iaddr 11 (Opd.t 6) (Opd.t 8)) none, IOper.mk (some 11) (IOp.load (some 11) (Opd.t 10)) none,
                                IOper.mk (some 5)
                                  (IOp.alloc 69
                                    [KV.int .i64 (0), KV.int .u64 (0), KV.int .u32 (0), KV.int .u32 (0), KV.int .i64 (0), KV.bool false,
                                      KV.int .i64 (0), KV.int .i64 (0), KV.int .u64 (0), KV.nils, KV.nils])
                                  none,
                                IOper.mk none (IOp.store 11 (Opd.t 5) (Opd.t 11)) none]).seq
                          ((IC.region
                                [IOper.mk (some 12) (IOp.faddr 9 (Opd.t 5)) none, IOper.mk (some 13) (IOp.load none (Opd.t 12)) none, IOper.mk (some 14) (IOp.call 50 [Opd.t 13]) none, IOper.mk (some 15) (IOp.faddr 9 (Opd.t 5)) none,
                                  IOper.mk none (IOp.store 1 (Opd.t 15) (Opd.t 14)) none]).seq
                            ((IC.region
                                  [IOper.mk (some 16) (IOp.faddr 10 (Opd.t 5)) none, IOper.mk (some 17) (IOp.load none (Opd.t 16)) none, IOper.mk (some 18) (IOp.call 50 [Opd.t 17]) none, IOper.mk (some 19) (IOp.faddr 10 (Opd.t 5)) none,
                                    IOper.mk none (IOp.store 1 (Opd.t 19) (Opd.t 18)) none]).seq
                              (IC.region
                                [IOper.mk (some 20) (IOp.mv (Opd.t 3)) none, IOper.mk (some 21) (IOp.load (some 11) (Opd.t 5)) none,
                                  IOper.mk (some 22)
                                    (IOp.bslice 69 11 1
                                      [KV.int .i64 (0), KV.int .u64 (0), KV.int .u32 (0), KV.int .u32 (0), KV.int .i64 (0), KV.bool false,
                                        KV.int .i64 (0), KV.int .i64 (0), KV.int .u64 (0), KV.nils, KV.nils]
                                      [(0, 11, Opd.t 21)])
                                    none,
                                  IOper.mk (some 23) (IOp.append 69 11 112 (Opd.t 20) (Opd.t 22)) none, IOper.mk (some 3) (IOp.mv (Opd.t 23)) none]))))).seq
                    (IC.region [IOper.mk (some 24) (IOp.bin .add (Opd.t 8) (Opd.c (KV.int .i64 (1)))) none, IOper.mk (some 8) (IOp.mv (Opd.t 24)) none])))).loop)).seq
      ((IC.region [IOper.mk (some 25) (IOp.mv (Opd.t 3)) none, IOper.mk (some 2) (IOp.mv (Opd.t 25)) none]).seq IC.ret)))
theorem spec44 {args : List AV} {h : List AO} {post : AV → List AO → Prop} (hb : AX Go.Proofs.Try.prog h.length c44 [] (aend h.length [RV.tmp 2] post) ⟨mkT 26 (argsT 0 args), h⟩) (hl : args.length ≤ 26 := by simp) : ASpec Go.Proofs.Try.prog 44 args h post :=
  aspec_T hmix Go.Proofs.Try.func44 rfl (by kernel_rfl) rfl rfl hl hb
def c11 : IC :=
  (IC.region
      [IOper.mk (some 5) (IOp.box 32 (Opd.t 2)) none, IOper.mk (some 6) (IOp.mv (Opd.c KV.nils)) none, IOper.mk (some 7) (IOp.mv (Opd.c (KV.int .u32 (0)))) none,
        IOper.mk (some 8)
          (IOp.alloc 32
            [KV.int .i64 (0), KV.int .u32 (0), KV.int .u32 (0), KV.int .u64 (0), KV.int .u64 (0), KV.int .u32 (0), KV.int .i64 (0),
              KV.bool false, KV.int .i64 (0), KV.nils, KV.nils])
          none,
        IOper.mk (some 9) (IOp.mv (Opd.c (KV.int .i64 (0)))) none]).seq
  ((IC.region
        [IOper.mk (some 15) (IOp.load (some 11) (Opd.t 5)) none, IOper.mk (some 16) (IOp.call 43 [Opd.t 15]) none, IOper.mk (some 14) (IOp.mv (Opd.t 16)) none, IOper.mk (some 17) (IOp.ext (Opd.t 14) 0) none,
          IOper.mk (some 18) (IOp.ext (Opd.t 14) 1) none,
          IOper.mk (some 10)
            (IOp.alloc 69
              [KV.int .i64 (0), KV.int .u64 (0), KV.int .u32 (0), KV.int .u32 (0), KV.int .i64 (0), KV.bool false, KV.int .i64 (0),
                KV.int .i64 (0), KV.int .u64 (0), KV.nils, KV.nils])
            none,
          IOper.mk none (IOp.store 11 (Opd.t 10) (Opd.t 17)) none, IOper.mk (some 11) (IOp.mv (Opd.t 18)) none]).seq
    ((IC.block 0
          ((IC.region
                [IOper.mk (some 20) (IOp.mv (Opd.t 11)) none, IOper.mk (some 21) (IOp.not (Opd.t 20)) none, IOper.mk (some 22) (IOp.mv (Opd.t 21)) none, IOper.mk (some 23) (IOp.mv (Opd.t 0)) (some (some 22, false)),
                  IOper.mk (some 24) (IOp.call 37 [Opd.t 23]) (some (some 22, false)), IOper.mk (some 25) (IOp.not (Opd.t 24)) (some (some 22, false)), IOper.mk (some 26) (IOp.pick (Opd.t 22) (Opd.c (KV.bool true)) (Opd.t 25)) none,
                  IOper.mk (some 19) (IOp.mv (Opd.t 26)) none]).seq
            (IC.cond (Opd.t 19)
              ((IC.region
                    [IOper.mk (some 27)
                        (IOp.build
                          [KV.int .i64 (0), KV.int .u32 (0), KV.int .u32 (0), KV.int .u64 (0), KV.int .u64 (0), KV.int .u32 (0),
                            KV.int .i64 (0), KV.bool false, KV.int .i64 (0), KV.nils, KV.nils]
                          [])
                        none,
                      IOper.mk (some 6) (IOp.mv (Opd.c KV.nils)) none, IOper.mk (some 7) (IOp.mv (Opd.c (KV.int .u32 (0)))) none, IOper.mk none (IOp.store 11 (Opd.t 8) (Opd.t 27)) none,
                      IOper.mk (some 9) (IOp.mv (Opd.c (KV.int .i64 (2)))) none]).seq
                IC.ret)
              ((IC.region
                    [IOper.mk (some 29) (IOp.faddr 1 (Opd.t 5)) none, IOper.mk (some 30) (IOp.load none (Opd.t 29)) none, IOper.mk (some 31) (IOp.mv (Opd.t 1)) none, IOper.mk (some 32) (IOp.bin .lss (Opd.t 30) (Opd.t 31)) none,
                      IOper.mk (some 28) (IOp.mv (Opd.t 32)) none]).seq
                (IC.cond (Opd.t 28)
                  ((IC.region
                        [IOper.mk (some 33) (IOp.mv (Opd.t 0)) none, IOper.mk (some 34) (IOp.call 44 [Opd.t 33]) none, IOper.mk (some 35) (IOp.mv (Opd.t 1)) none, IOper.mk (some 36) (IOp.mv (Opd.t 1)) none,
                          IOper.mk (some 37)
                            (IOp.build
                              [KV.int .i64 (0), KV.int .u32 (0), KV.int .u32 (0), KV.int .u64 (0), KV.int .u64 (0), KV.int .u32 (0),
                                KV.int .i64 (0), KV.bool false, KV.int .i64 (0), KV.nils, KV.nils]
                              [(0, 1, Opd.c (KV.int .i64 (6))), (1, 1, Opd.t 36), (8, 1, Opd.c (KV.int .i64 (3)))])
                            none,
                          IOper.mk (some 6) (IOp.mv (Opd.t 34)) none, IOper.mk (some 7) (IOp.mv (Opd.t 35)) none, IOper.mk none (IOp.store 11 (Opd.t 8) (Opd.t 37)) none, IOper.mk (some 9) (IOp.mv (Opd.c (KV.int .i64 (0)))) none]).seq
                    IC.ret)
                  ((IC.draw
                        [IOper.mk (some 39) (IOp.faddr 3 (Opd.t 5)) none, IOper.mk (some 40) (IOp.load none (Opd.t 39)) none, IOper.mk (some 41) (IOp.mv (Opd.t 0)) none, IOper.mk (some 42) (IOp.call 39 [Opd.t 41]) none,
                          IOper.mk (some 43) (IOp.bin .gtr (Opd.t 40) (Opd.t 42)) none, IOper.mk (some 38) (IOp.mv (Opd.t 43)) none]
                        [(0, true), (1, true), (2, true), (3, false), (4, true), (5, true)] [5] []).seq
                    (IC.cond (Opd.t 38)
                      ((IC.draw
                            [IOper.mk (some 44) (IOp.mv (Opd.t 0)) none, IOper.mk (some 45) (IOp.call 44 [Opd.t 44]) none, IOper.mk (some 46) (IOp.faddr 1 (Opd.t 5)) none, IOper.mk (some 47) (IOp.load none (Opd.t 46)) none,
                              IOper.mk (some 48) (IOp.faddr 1 (Opd.t 5)) none, IOper.mk (some 49) (IOp.load none (Opd.t 48)) none, IOper.mk (some 50) (IOp.mv (Opd.t 0)) none, IOper.mk (some 51) (IOp.call 39 [Opd.t 50]) none,
                              IOper.mk (some 52)
                                (IOp.build
                                  [KV.int .i64 (0), KV.int .u32 (0), KV.int .u32 (0), KV.int .u64 (0), KV.int .u64 (0), KV.int .u32 (0),
                                    KV.int .i64 (0), KV.bool false, KV.int .i64 (0), KV.nils, KV.nils]
                                  [(0, 1, Opd.c (KV.int .i64 (3))), (1, 1, Opd.t 49), (3, 1, Opd.t 51)])
                                none,
                              IOper.mk (some 6) (IOp.mv (Opd.t 45)) none, IOper.mk (some 7) (IOp.mv (Opd.t 47)) none, IOper.mk none (IOp.store 11 (Opd.t 8) (Opd.t 52)) none, IOper.mk (some 9) (IOp.mv (Opd.c (KV.int .i64 (0)))) none]
                            [(0, true), (2, true), (3, true), (4, true), (5, true), (6, true), (1, false), (7, false), (8, true), (9, true), (10, true), (11, false), (12, true)] [5] [11]).seq
                        IC.ret)
                      ((IC.draw
                            [IOper.mk (some 54) (IOp.faddr 3 (Opd.t 5)) none, IOper.mk (some 55) (IOp.load none (Opd.t 54)) none, IOper.mk (some 56) (IOp.mv (Opd.t 0)) none, IOper.mk (some 57) (IOp.call 38 [Opd.t 56]) none,
                              IOper.mk (some 58) (IOp.bin .sub (Opd.t 57) (Opd.c (KV.int .u64 (1)))) none, IOper.mk (some 59) (IOp.bin .lss (Opd.t 55) (Opd.t 58)) none, IOper.mk (some 53) (IOp.mv (Opd.t 59)) none]
                            [(0, true), (1, true), (2, true), (3, false), (4, true), (5, true), (6, true)] [5] []).seq
                        (IC.cond (Opd.t 53)
                          ((IC.draw
                                [IOper.mk (some 60) (IOp.mv (Opd.t 0)) none, IOper.mk (some 61) (IOp.call 44 [Opd.t 60]) none, IOper.mk (some 62) (IOp.faddr 1 (Opd.t 5)) none, IOper.mk (some 63) (IOp.load none (Opd.t 62)) none,
                                  IOper.mk (some 64) (IOp.faddr 1 (Opd.t 5)) none, IOper.mk (some 65) (IOp.load none (Opd.t 64)) none, IOper.mk (some 66) (IOp.mv (Opd.t 0)) none, IOper.mk (some 67) (IOp.call 38 [Opd.t 66]) none,
                                  IOper.mk (some 68) (IOp.bin .sub (Opd.t 67) (Opd.c (KV.int .u64 (1)))) none,
                                  IOper.mk (some 69)
                                    (IOp.build
                                      [KV.int .i64 (0), KV.int .u32 (0), KV.int .u32 (0), KV.int .u64 (0), KV.int .u64 (0), KV.int .u32 (0),
                                        KV.int .i64 (0), KV.bool false, KV.int .i64 (0), KV.nils, KV.nils]
                                      [(0, 1, Opd.c (KV.int .i64 (2))), (1, 1, Opd.t 65), (3, 1, Opd.t 68)])
                                    none,
                                  IOper.mk (some 6) (IOp.mv (Opd.t 61)) none, IOper.mk (some 7) (IOp.mv (Opd.t 63)) none, IOper.mk none (IOp.store 11 (Opd.t 8) (Opd.t 69)) none,
                                  IOper.mk (some 9) (IOp.mv (Opd.c (KV.int .i64 (0)))) none]
                                [(0, true), (2, true), (3, true), (4, true), (5, true), (6, true), (1, false), (7, false), (8, true), (9, true), (10, true), (11, true), (12, false), (13, true)] [5] [12]).seq
                            IC.ret)
                          ((IC.draw
                                [IOper.mk (some 71) (IOp.faddr 3 (Opd.t 5)) none, IOper.mk (some 72) (IOp.load none (Opd.t 71)) none, IOper.mk (some 73) (IOp.mv (Opd.t 0)) none, IOper.mk (some 74) (IOp.call 38 [Opd.t 73]) none,
                                  IOper.mk (some 75) (IOp.bin .geq (Opd.t 72) (Opd.t 74)) none, IOper.mk (some 76) (IOp.mv (Opd.t 75)) none, IOper.mk (some 77) (IOp.mv (Opd.t 0)) (some (some 76, true)),
                                  IOper.mk (some 78) (IOp.faddr 3 (Opd.t 5)) (some (some 76, true)), IOper.mk (some 79) (IOp.load none (Opd.t 78)) (some (some 76, true)), IOper.mk (some 80) (IOp.call 41 [Opd.t 77, Opd.t 79]) (some (some 76, true)),
                                  IOper.mk (some 81) (IOp.faddr 2 (Opd.t 5)) (some (some 76, true)), IOper.mk (some 82) (IOp.load none (Opd.t 81)) (some (some 76, true)),
                                  IOper.mk (some 83) (IOp.bin .neq (Opd.t 80) (Opd.t 82)) (some (some 76, true)), IOper.mk (some 84) (IOp.pick (Opd.t 76) (Opd.t 83) (Opd.c (KV.bool false))) none, IOper.mk (some 70) (IOp.mv (Opd.t 84)) none]
                                [(0, true), (1, true), (2, true), (3, false), (4, true), (5, true), (6, true), (7, true), (10, true), (8, true), (11, true), (9, false), (12, true), (13, true), (14, true)] [5] []).seq
                            (IC.cond (Opd.t 70)
                              ((IC.draw
                                    [IOper.mk (some 85) (IOp.mv (Opd.t 0)) none, IOper.mk (some 86) (IOp.call 44 [Opd.t 85]) none, IOper.mk (some 87) (IOp.faddr 1 (Opd.t 5)) none, IOper.mk (some 88) (IOp.load none (Opd.t 87)) none,
                                      IOper.mk (some 89) (IOp.faddr 1 (Opd.t 5)) none, IOper.mk (some 90) (IOp.load none (Opd.t 89)) none, IOper.mk (some 91) (IOp.mv (Opd.t 0)) none, IOper.mk (some 92) (IOp.load (some 11) (Opd.t 5)) none,
                                      IOper.mk (some 93) (IOp.call 45 [Opd.t 91, Opd.t 92]) none,
                                      IOper.mk (some 94)
                                        (IOp.build
                                          [KV.int .i64 (0), KV.int .u32 (0), KV.int .u32 (0), KV.int .u64 (0), KV.int .u64 (0), KV.int .u32 (0),
                                            KV.int .i64 (0), KV.bool false, KV.int .i64 (0), KV.nils, KV.nils]
                                          [(0, 1, Opd.c (KV.int .i64 (3))), (1, 1, Opd.t 90), (3, 1, Opd.t 93)])
                                        none,
                                      IOper.mk (some 6) (IOp.mv (Opd.t 86)) none, IOper.mk (some 7) (IOp.mv (Opd.t 88)) none, IOper.mk none (IOp.store 11 (Opd.t 8) (Opd.t 94)) none,
                                      IOper.mk (some 9) (IOp.mv (Opd.c (KV.int .i64 (0)))) none]
                                    [(0, true), (2, true), (3, true), (4, true), (5, true), (6, true), (7, true), (1, false), (8, false), (9, true), (10, true), (11, true), (12, false), (13, true)] [5] [12]).seq
                                IC.ret)
                              IC.skip))))))))))).seq
      ((IC.draw
            [IOper.mk (some 95) (IOp.faddr 3 (Opd.t 5)) none, IOper.mk (some 96) (IOp.load none (Opd.t 95)) none, IOper.mk (some 97) (IOp.mv (Opd.t 0)) none, IOper.mk (some 98) (IOp.call 38 [Opd.t 97]) none,
              IOper.mk (some 99) (IOp.bin .sub (Opd.t 98) (Opd.c (KV.int .u64 (1)))) none, IOper.mk (some 100) (IOp.bin .sub (Opd.t 96) (Opd.t 99)) none, IOper.mk (some 101) (IOp.conv .i64 (Opd.t 100)) none,
              IOper.mk (some 12) (IOp.mv (Opd.t 101)) none]
            [(0, true), (1, true), (2, true), (3, false), (4, true), (5, true), (6, true), (7, true)] [5] []).seq
        ((IC.region [IOper.mk (some 102) (IOp.mv (Opd.t 0)) none, IOper.mk (some 103) (IOp.call 44 [Opd.t 102]) none, IOper.mk (some 13) (IOp.mv (Opd.t 103)) none]).seq
          (((IC.draw
                    [IOper.mk (some 104) (IOp.mv (Opd.t 12)) none, IOper.mk (some 105) (IOp.mv (Opd.t 0)) none, IOper.mk (some 106) (IOp.len (Opd.t 105)) none, IOper.mk (some 107) (IOp.bin .eql (Opd.t 104) (Opd.t 106)) none,
                      IOper.mk (some 108) (IOp.mv (Opd.t 107)) none, IOper.mk (some 109) (IOp.mv (Opd.t 0)) (some (some 108, false)), IOper.mk (some 110) (IOp.mv (Opd.t 12)) (some (some 108, false)),
                      IOper.mk (some 111) (IOp.iaddr 11 (Opd.t 109) (Opd.t 110)) (some (some 108, false)), IOper.mk (some 112) (IOp.load (some 11) (Opd.t 111)) (some (some 108, false)),
                      IOper.mk (some 113) (IOp.load (some 11) (Opd.t 5)) (some (some 108, false)), IOper.mk (some 114) (IOp.call 46 [Opd.t 112, Opd.t 113]) (some (some 108, false)), IOper.mk (some 115) (IOp.not (Opd.t 114)) (some (some 108, false)),
                      IOper.mk (some 116) (IOp.pick (Opd.t 108) (Opd.c (KV.bool true)) (Opd.t 115)) none]
                    [(0, true), (1, true), (2, true), (3, true), (4, true), (5, true), (6, true), (7, true), (8, true), (9, true), (10, false), (11, true), (12, true)] [0, 5] [10]).seq
                (IC.cond (Opd.t 116)
                  ((IC.draw
                        [IOper.mk (some 117) (IOp.mv (Opd.t 13)) none, IOper.mk (some 118) (IOp.mv (Opd.t 12)) none, IOper.mk (some 119) (IOp.slice 11 (Opd.t 117) none (some (Opd.t 118))) none,
                          IOper.mk (some 120) (IOp.load (some 11) (Opd.t 10)) none,
                          IOper.mk (some 121)
                            (IOp.bslice 69 11 1
                              [KV.int .i64 (0), KV.int .u64 (0), KV.int .u32 (0), KV.int .u32 (0), KV.int .i64 (0), KV.bool false, KV.int .i64 (0),
                                KV.int .i64 (0), KV.int .u64 (0), KV.nils, KV.nils]
                              [(0, 11, Opd.t 120)])
                            none,
                          IOper.mk (some 122) (IOp.append 69 11 112 (Opd.t 119) (Opd.t 121)) none, IOper.mk (some 13) (IOp.mv (Opd.t 122)) none]
                        [(0, true), (1, true), (2, true), (3, true), (4, false), (5, false), (6, true)] [10] [4]).seq
                    ((IC.region [IOper.mk (some 123) (IOp.mv (Opd.t 13)) none, IOper.mk (some 124) (IOp.call 37 [Opd.t 123]) none, IOper.mk (some 125) (IOp.not (Opd.t 124)) none]).seq
                      (IC.cond (Opd.t 125)
                        ((IC.region
                              [IOper.mk (some 126)
                                  (IOp.build
                                    [KV.int .i64 (0), KV.int .u32 (0), KV.int .u32 (0), KV.int .u64 (0), KV.int .u64 (0), KV.int .u32 (0),
                                      KV.int .i64 (0), KV.bool false, KV.int .i64 (0), KV.nils, KV.nils]
                                    [])
                                  none,
                                IOper.mk (some 6) (IOp.mv (Opd.c KV.nils)) none, IOper.mk (some 7) (IOp.mv (Opd.c (KV.int .u32 (0)))) none, IOper.mk none (IOp.store 11 (Opd.t 8) (Opd.t 126)) none,
                                IOper.mk (some 9) (IOp.mv (Opd.c (KV.int .i64 (41)))) none]).seq
                          IC.ret)
                        IC.skip)))
                  IC.skip)).seq
            ((IC.draw
                  [IOper.mk (some 127) (IOp.mv (Opd.t 13)) none, IOper.mk (some 128) (IOp.faddr 1 (Opd.t 5)) none, IOper.mk (some 129) (IOp.load none (Opd.t 128)) none, IOper.mk (some 130) (IOp.faddr 1 (Opd.t 5)) none,
                    IOper.mk (some 131) (IOp.load none (Opd.t 130)) none, IOper.mk (some 132) (IOp.faddr 1 (Opd.t 10)) none, IOper.mk (some 133) (IOp.load none (Opd.t 132)) none,
                    IOper.mk (some 134)
                      (IOp.build
                        [KV.int .i64 (0), KV.int .u32 (0), KV.int .u32 (0), KV.int .u64 (0), KV.int .u64 (0), KV.int .u32 (0),
                          KV.int .i64 (0), KV.bool false, KV.int .i64 (0), KV.nils, KV.nils]
                        [(0, 1, Opd.c (KV.int .i64 (2))), (1, 1, Opd.t 131), (3, 1, Opd.t 133)])
                      none,
                    IOper.mk (some 6) (IOp.mv (Opd.t 127)) none, IOper.mk (some 7) (IOp.mv (Opd.t 129)) none, IOper.mk none (IOp.store 11 (Opd.t 8) (Opd.t 134)) none, IOper.mk (some 9) (IOp.mv (Opd.c (KV.int .i64 (0)))) none]
                  [(0, true), (1, true), (2, true), (3, true), (4, true), (5, true), (6, true), (7, true), (8, true), (9, true), (10, false), (11, true)] [5, 10] [10]).seq
              IC.ret))))))
theorem spec11 {args : List AV} {h : List AO} {post : AV → List AO → Prop} (hb : AX Go.Proofs.Try.prog h.length c11 [] (aend h.length [RV.tmp 6, RV.tmp 7, RV.cell 8 (some 11), RV.tmp 9] post) ⟨mkT 135 (argsT 0 args), h⟩) (hl : args.length ≤ 135 := by simp) : ASpec Go.Proofs.Try.prog 11 args h post :=
  aspec_T hmix Go.Proofs.Try.func11 rfl (by kernel_rfl) rfl rfl hl hb
def c15 : IC :=
  (IC.region [IOper.mk (some 3) (IOp.box 32 (Opd.t 1)) none, IOper.mk (some 4) (IOp.mv (Opd.c (KV.int .u64 (0)))) none]).seq
  ((IC.region [IOper.mk (some 6) (IOp.faddr 3 (Opd.t 3)) none, IOper.mk (some 7) (IOp.load none (Opd.t 6)) none, IOper.mk (some 5) (IOp.mv (Opd.t 7)) none]).seq
    (((IC.region [IOper.mk (some 8) (IOp.mv (Opd.t 5)) none, IOper.mk (some 9) (IOp.bin .lss (Opd.t 8) (Opd.c (KV.int .u64 (18446744073709551615)))) none]).seq
          (IC.cond (Opd.t 9) (IC.region [IOper.mk (some 10) (IOp.mv (Opd.t 5)) none, IOper.mk (some 11) (IOp.bin .add (Opd.t 10) (Opd.c (KV.int .u64 (1)))) none, IOper.mk (some 5) (IOp.mv (Opd.t 11)) none]) IC.skip)).seq
      (((IC.region [IOper.mk (some 12) (IOp.faddr 0 (Opd.t 3)) none, IOper.mk (some 13) (IOp.load none (Opd.t 12)) none]).seq
            (IC.block 0
              ((IC.region [IOper.mk (some 15) (IOp.bin .eql (Opd.t 13) (Opd.c (KV.int .i64 (2)))) none, IOper.mk (some 14) (IOp.mv (Opd.t 15)) none]).seq
                (IC.cond (Opd.t 14) ((IC.region [IOper.mk (some 16) (IOp.mv (Opd.t 0)) none, IOper.mk (some 17) (IOp.mv (Opd.t 5)) none, IOper.mk (some 18) (IOp.mx (Opd.t 16) (Opd.t 17)) none, IOper.mk (some 4) (IOp.mv (Opd.t 18)) none]).seq IC.ret)
                  ((IC.region [IOper.mk (some 20) (IOp.bin .eql (Opd.t 13) (Opd.c (KV.int .i64 (3)))) none, IOper.mk (some 19) (IOp.mv (Opd.t 20)) none]).seq
                    (IC.cond (Opd.t 19)
                      ((IC.region [IOper.mk (some 21) (IOp.mv (Opd.t 0)) none, IOper.mk (some 22) (IOp.mv (Opd.t 5)) none, IOper.mk (some 23) (IOp.mn (Opd.t 21) (Opd.t 22)) none, IOper.mk (some 4) (IOp.mv (Opd.t 23)) none]).seq IC.ret)
                      IC.skip)))))).seq
        ((IC.region [IOper.mk (some 24) (IOp.mv (Opd.t 0)) none, IOper.mk (some 4) (IOp.mv (Opd.t 24)) none]).seq IC.ret))))
theorem spec15 {args : List AV} {h : List AO} {post : AV → List AO → Prop} (hb : AX Go.Proofs.Try.prog h.length c15 [] (aend h.length [RV.tmp 4] post) ⟨mkT 25 (argsT 0 args), h⟩) (hl : args.length ≤ 25 := by simp) : ASpec Go.Proofs.Try.prog 15 args h post :=
  aspec_T hmix Go.Proofs.Try.func15 rfl (by kernel_rfl) rfl rfl hl hb
def c36 : IC :=
  (IC.region [IOper.mk (some 6) (IOp.mv (Opd.c (KV.int .u64 (0)))) none]).seq
  (((IC.region [IOper.mk (some 7) (IOp.mv (Opd.t 0)) none]).seq
        (IC.block 0
          ((IC.region [IOper.mk (some 9) (IOp.bin .eql (Opd.t 7) (Opd.c (KV.int .i64 (2)))) none, IOper.mk (some 8) (IOp.mv (Opd.t 9)) none]).seq
            (IC.cond (Opd.t 8) ((IC.region [IOper.mk (some 10) (IOp.mv (Opd.t 1)) none, IOper.mk (some 6) (IOp.mv (Opd.t 10)) none]).seq IC.ret)
              ((IC.region [IOper.mk (some 12) (IOp.bin .eql (Opd.t 7) (Opd.c (KV.int .i64 (1)))) none, IOper.mk (some 11) (IOp.mv (Opd.t 12)) none]).seq
                (IC.cond (Opd.t 11) ((IC.region [IOper.mk (some 13) (IOp.mv (Opd.t 1)) none, IOper.mk (some 14) (IOp.mv (Opd.t 2)) none, IOper.mk (some 15) (IOp.mn (Opd.t 13) (Opd.t 14)) none, IOper.mk (some 6) (IOp.mv (Opd.t 15)) none]).seq IC.ret)
                  IC.skip)))))).seq
    ((IC.region [IOper.mk (some 6) (IOp.mv (Opd.c (KV.int .u64 (0)))) none]).seq IC.ret))
theorem spec36 {args : List AV} {h : List AO} {post : AV → List AO → Prop} (hb : AX Go.Proofs.Try.prog h.length c36 [] (aend h.length [RV.tmp 6] post) ⟨mkT 16 (argsT 0 args), h⟩) (hl : args.length ≤ 16 := by simp) : ASpec Go.Proofs.Try.prog 36 args h post :=
  aspec_T hmix Go.Proofs.Try.func36 rfl (by kernel_rfl) rfl rfl hl hb
def c35 : IC :=
  (IC.region [IOper.mk (some 4) (IOp.mv (Opd.c KV.nils)) none]).seq
  ((IC.region [IOper.mk (some 5) (IOp.mv (Opd.c KV.nils)) none]).seq
    (((IC.region [IOper.mk (some 6) (IOp.mv (Opd.c (KV.int .i64 (0)))) none]).seq
          (IC.block 0
            (((IC.region [IOper.mk (some 8) (IOp.mv (Opd.t 6)) none, IOper.mk (some 9) (IOp.mv (Opd.t 0)) none, IOper.mk (some 10) (IOp.len (Opd.t 9)) none, IOper.mk (some 11) (IOp.bin .lss (Opd.t 8) (Opd.t 10)) none]).seq
                    (IC.cond (Opd.t 11) IC.skip (IC.exit 0))).seq
                ((IC.block 1
                      ((IC.region
                            [IOper.mk (some 14) (IOp.mv (Opd.t 6)) none, IOper.mk (some 15) (IOp.bin .add (Opd.t 14) (Opd.c (KV.int .i64 (1)))) none, IOper.mk (some 16) (IOp.conv .u64 (Opd.t 15)) none,
                              IOper.mk (some 17) (IOp.mv (Opd.t 0)) none, IOper.mk (some 18) (IOp.mv (Opd.t 6)) none, IOper.mk (some 19) (IOp.iaddr 1 (Opd.t 17) (Opd.t 18)) none, IOper.mk (some 20) (IOp.load none (Opd.t 19)) none,
                              IOper.mk (some 21) (IOp.bslice 5 1 1 [KV.int .u8 (0)] [(0, 1, Opd.c (KV.int .u8 (107)))]) none, IOper.mk (some 22) (IOp.frz (Opd.t 21)) none, IOper.mk (some 23) (IOp.mv (Opd.t 1)) none,
                              IOper.mk (some 24) (IOp.bslice 5 1 1 [KV.int .u8 (0)] [(0, 1, Opd.t 23)]) none,
                              IOper.mk (some 25)
                                (IOp.build
                                  [KV.int .i64 (0), KV.int .u64 (0), KV.int .u32 (0), KV.int .u32 (0), KV.int .i64 (0), KV.bool false,
                                    KV.int .i64 (0), KV.int .i64 (0), KV.int .u64 (0), KV.nils, KV.nils]
                                  [(0, 1, Opd.c (KV.int .i64 (2))), (1, 1, Opd.t 16), (2, 1, Opd.t 20), (3, 1, Opd.c (KV.int .u32 (1))), (9, 1, Opd.t 22), (10, 1, Opd.t 24)])
                                none,
                              IOper.mk (some 7)
                                (IOp.alloc 69
                                  [KV.int .i64 (0), KV.int .u64 (0), KV.int .u32 (0), KV.int .u32 (0), KV.int .i64 (0), KV.bool false,
                                    KV.int .i64 (0), KV.int .i64 (0), KV.int .u64 (0), KV.nils, KV.nils])
                                none,
                              IOper.mk none (IOp.store 11 (Opd.t 7) (Opd.t 25)) none]).seq
                        (((IC.draw
                                  [IOper.mk (some 26) (IOp.mv (Opd.t 6)) none, IOper.mk (some 27) (IOp.bin .gtr (Opd.t 26) (Opd.c (KV.int .i64 (0)))) none, IOper.mk (some 28) (IOp.mv (Opd.t 27)) none,
                                    IOper.mk (some 29) (IOp.mv (Opd.t 0)) (some (some 28, true)), IOper.mk (some 30) (IOp.mv (Opd.t 6)) (some (some 28, true)), IOper.mk (some 31) (IOp.iaddr 1 (Opd.t 29) (Opd.t 30)) (some (some 28, true)),
                                    IOper.mk (some 32) (IOp.load none (Opd.t 31)) (some (some 28, true)), IOper.mk (some 33) (IOp.mv (Opd.t 0)) (some (some 28, true)), IOper.mk (some 34) (IOp.mv (Opd.t 6)) (some (some 28, true)),
                                    IOper.mk (some 35) (IOp.bin .sub (Opd.t 34) (Opd.c (KV.int .i64 (1)))) (some (some 28, true)), IOper.mk (some 36) (IOp.iaddr 1 (Opd.t 33) (Opd.t 35)) (some (some 28, true)),
                                    IOper.mk (some 37) (IOp.load none (Opd.t 36)) (some (some 28, true)), IOper.mk (some 38) (IOp.bin .neq (Opd.t 32) (Opd.t 37)) (some (some 28, true)),
                                    IOper.mk (some 39) (IOp.pick (Opd.t 28) (Opd.t 38) (Opd.c (KV.bool false))) none]
                                  [(0, true), (1, true), (2, true), (3, true), (4, true), (5, true), (6, true), (7, true), (8, true), (9, true), (10, true), (11, true), (12, true), (13, true)] [0] []).seq
                              (IC.cond (Opd.t 39)
                                (IC.region
                                  [IOper.mk (some 40) (IOp.mv (Opd.t 6)) none, IOper.mk (some 41) (IOp.bin .add (Opd.t 40) (Opd.c (KV.int .i64 (1)))) none, IOper.mk (some 42) (IOp.conv .u64 (Opd.t 41)) none,
                                    IOper.mk (some 43) (IOp.mv (Opd.t 0)) none, IOper.mk (some 44) (IOp.mv (Opd.t 6)) none, IOper.mk (some 45) (IOp.iaddr 1 (Opd.t 43) (Opd.t 44)) none, IOper.mk (some 46) (IOp.load none (Opd.t 45)) none,
                                    IOper.mk (some 47)
                                      (IOp.build
                                        [KV.int .i64 (0), KV.int .u64 (0), KV.int .u32 (0), KV.int .u32 (0), KV.int .i64 (0), KV.bool false,
                                          KV.int .i64 (0), KV.int .i64 (0), KV.int .u64 (0), KV.nils, KV.nils]
                                        [(0, 1, Opd.c (KV.int .i64 (1))), (1, 1, Opd.t 42), (2, 1, Opd.t 46)])
                                      none,
                                    IOper.mk none (IOp.store 11 (Opd.t 7) (Opd.t 47)) none])
                                IC.skip)).seq
                          (IC.region
                            [IOper.mk (some 48) (IOp.mv (Opd.t 5)) none, IOper.mk (some 49) (IOp.load (some 11) (Opd.t 7)) none,
                              IOper.mk (some 50)
                                (IOp.bslice 69 11 1
                                  [KV.int .i64 (0), KV.int .u64 (0), KV.int .u32 (0), KV.int .u32 (0), KV.int .i64 (0), KV.bool false,
                                    KV.int .i64 (0), KV.int .i64 (0), KV.int .u64 (0), KV.nils, KV.nils]
                                  [(0, 11, Opd.t 49)])
                                none,
                              IOper.mk (some 51) (IOp.append 69 11 112 (Opd.t 48) (Opd.t 50)) none, IOper.mk (some 5) (IOp.mv (Opd.t 51)) none])))).seq
                  (IC.region [IOper.mk (some 12) (IOp.mv (Opd.t 6)) none, IOper.mk (some 13) (IOp.bin .add (Opd.t 12) (Opd.c (KV.int .i64 (1)))) none, IOper.mk (some 6) (IOp.mv (Opd.t 13)) none]))).loop)).seq
      ((IC.region [IOper.mk (some 52) (IOp.mv (Opd.t 5)) none, IOper.mk (some 4) (IOp.mv (Opd.t 52)) none]).seq IC.ret)))
theorem spec35 {args : List AV} {h : List AO} {post : AV → List AO → Prop} (hb : AX Go.Proofs.Try.prog h.length c35 [] (aend h.length [RV.tmp 4] post) ⟨mkT 53 (argsT 0 args), h⟩) (hl : args.length ≤ 53 := by simp) : ASpec Go.Proofs.Try.prog 35 args h post :=
  aspec_T hmix Go.Proofs.Try.func35 rfl (by kernel_rfl) rfl rfl hl hb
def c8 : IC :=
  (IC.region [IOper.mk (some 1) (IOp.box 24 (Opd.t 0)) none, IOper.mk (some 2) (IOp.mv (Opd.c KV.nils)) none, IOper.mk (some 3) (IOp.mv (Opd.c KV.nils)) none, IOper.mk (some 4) (IOp.mv (Opd.c (KV.int .u32 (0)))) none]).seq
  ((IC.region [IOper.mk (some 5) (IOp.mv (Opd.c KV.nils)) none]).seq
    ((IC.region [IOper.mk (some 6) (IOp.mv (Opd.c (KV.int .u32 (1)))) none]).seq
      (((IC.region [IOper.mk (some 7) (IOp.mv (Opd.c (KV.int .i64 (0)))) none]).seq
            (IC.block 0
              (((IC.region
                          [IOper.mk (some 16) (IOp.mv (Opd.t 7)) none, IOper.mk (some 17) (IOp.faddr 0 (Opd.t 1)) none, IOper.mk (some 18) (IOp.load none (Opd.t 17)) none, IOper.mk (some 19) (IOp.len (Opd.t 18)) none,
                            IOper.mk (some 20) (IOp.bin .lss (Opd.t 16) (Opd.t 19)) none, IOper.mk (some 21) (IOp.mv (Opd.t 20)) none, IOper.mk (some 22) (IOp.mv (Opd.t 7)) (some (some 21, true)),
                            IOper.mk (some 23) (IOp.bin .lss (Opd.t 22) (Opd.c (KV.int .i64 (20)))) (some (some 21, true)), IOper.mk (some 24) (IOp.pick (Opd.t 21) (Opd.t 23) (Opd.c (KV.bool false))) none]).seq
                      (IC.cond (Opd.t 24) IC.skip (IC.exit 0))).seq
                  ((IC.block 1
                        ((IC.region
                              [IOper.mk (some 27) (IOp.mv (Opd.t 6)) none, IOper.mk (some 28) (IOp.faddr 0 (Opd.t 1)) none, IOper.mk (some 29) (IOp.load none (Opd.t 28)) none, IOper.mk (some 30) (IOp.mv (Opd.t 7)) none,
                                IOper.mk (some 31) (IOp.iaddr 1 (Opd.t 29) (Opd.t 30)) none, IOper.mk (some 32) (IOp.load none (Opd.t 31)) none, IOper.mk (some 33) (IOp.bin .rem (Opd.t 32) (Opd.c (KV.int .u8 (2)))) none,
                                IOper.mk (some 34) (IOp.conv .u32 (Opd.t 33)) none, IOper.mk (some 35) (IOp.bin .add (Opd.t 27) (Opd.t 34)) none, IOper.mk (some 6) (IOp.mv (Opd.t 35)) none]).seq
                          (IC.region
                            [IOper.mk (some 36) (IOp.mv (Opd.t 5)) none, IOper.mk (some 37) (IOp.mv (Opd.t 6)) none, IOper.mk (some 38) (IOp.bslice 26 1 1 [KV.int .u32 (0)] [(0, 1, Opd.t 37)]) none,
                              IOper.mk (some 39) (IOp.append 26 1 4 (Opd.t 36) (Opd.t 38)) none, IOper.mk (some 5) (IOp.mv (Opd.t 39)) none]))).seq
                    (IC.region [IOper.mk (some 25) (IOp.mv (Opd.t 7)) none, IOper.mk (some 26) (IOp.bin .add (Opd.t 25) (Opd.c (KV.int .i64 (1)))) none, IOper.mk (some 7) (IOp.mv (Opd.t 26)) none]))).loop)).seq
        ((IC.region [IOper.mk (some 8) (IOp.mv (Opd.c KV.nils)) none]).seq
          ((IC.region [IOper.mk (some 40) (IOp.mv (Opd.t 8)) none, IOper.mk (some 41) (IOp.mv (Opd.t 5)) none, IOper.mk (some 42) (IOp.append 26 1 4 (Opd.t 40) (Opd.t 41)) none, IOper.mk (some 8) (IOp.mv (Opd.t 42)) none]).seq
            ((IC.region
                  [IOper.mk (some 43) (IOp.mv (Opd.t 6)) none, IOper.mk (some 44) (IOp.bin .add (Opd.t 43) (Opd.c (KV.int .u32 (2)))) none, IOper.mk (some 45) (IOp.mv (Opd.t 6)) none,
                    IOper.mk (some 46) (IOp.bin .rem (Opd.t 45) (Opd.c (KV.int .u32 (2)))) none, IOper.mk (some 47) (IOp.bin .sub (Opd.t 44) (Opd.t 46)) none, IOper.mk (some 9) (IOp.mv (Opd.t 47)) none]).seq
              (((IC.region [IOper.mk (some 10) (IOp.mv (Opd.c (KV.int .i64 (0)))) none]).seq
                    (IC.block 2
                      (((IC.region
                                  [IOper.mk (some 48) (IOp.mv (Opd.t 10)) none, IOper.mk (some 49) (IOp.faddr 1 (Opd.t 1)) none, IOper.mk (some 50) (IOp.load none (Opd.t 49)) none, IOper.mk (some 51) (IOp.len (Opd.t 50)) none,
                                    IOper.mk (some 52) (IOp.bin .lss (Opd.t 48) (Opd.t 51)) none, IOper.mk (some 53) (IOp.mv (Opd.t 52)) none, IOper.mk (some 54) (IOp.mv (Opd.t 10)) (some (some 53, true)),
                                    IOper.mk (some 55) (IOp.bin .lss (Opd.t 54) (Opd.c (KV.int .i64 (20)))) (some (some 53, true)), IOper.mk (some 56) (IOp.pick (Opd.t 53) (Opd.t 55) (Opd.c (KV.bool false))) none]).seq
                              (IC.cond (Opd.t 56) IC.skip (IC.exit 2))).seq
                          ((IC.block 3
                                (((IC.region
                                          [IOper.mk (some 59) (IOp.mv (Opd.t 10)) none, IOper.mk (some 60) (IOp.bin .eql (Opd.t 59) (Opd.c (KV.int .i64 (0)))) none, IOper.mk (some 61) (IOp.mv (Opd.t 60)) none,
                                            IOper.mk (some 62) (IOp.faddr 1 (Opd.t 1)) (some (some 61, false)), IOper.mk (some 63) (IOp.load none (Opd.t 62)) (some (some 61, false)), IOper.mk (some 64) (IOp.mv (Opd.t 10)) (some (some 61, false)),
                                            IOper.mk (some 65) (IOp.iaddr 1 (Opd.t 63) (Opd.t 64)) (some (some 61, false)), IOper.mk (some 66) (IOp.load none (Opd.t 65)) (some (some 61, false)),
                                            IOper.mk (some 67) (IOp.bin .rem (Opd.t 66) (Opd.c (KV.int .u8 (3)))) (some (some 61, false)),
                                            IOper.mk (some 68) (IOp.bin .eql (Opd.t 67) (Opd.c (KV.int .u8 (0)))) (some (some 61, false)), IOper.mk (some 69) (IOp.pick (Opd.t 61) (Opd.c (KV.bool true)) (Opd.t 68)) none]).seq
                                      (IC.cond (Opd.t 69)
                                        (IC.region [IOper.mk (some 70) (IOp.mv (Opd.t 9)) none, IOper.mk (some 71) (IOp.bin .add (Opd.t 70) (Opd.c (KV.int .u32 (2)))) none, IOper.mk (some 9) (IOp.mv (Opd.t 71)) none])
                                        IC.skip)).seq
                                  (IC.region
                                    [IOper.mk (some 72) (IOp.mv (Opd.t 5)) none, IOper.mk (some 73) (IOp.mv (Opd.t 9)) none, IOper.mk (some 74) (IOp.bslice 26 1 1 [KV.int .u32 (0)] [(0, 1, Opd.t 73)]) none,
                                      IOper.mk (some 75) (IOp.append 26 1 4 (Opd.t 72) (Opd.t 74)) none, IOper.mk (some 5) (IOp.mv (Opd.t 75)) none]))).seq
                            (IC.region [IOper.mk (some 57) (IOp.mv (Opd.t 10)) none, IOper.mk (some 58) (IOp.bin .add (Opd.t 57) (Opd.c (KV.int .i64 (1)))) none, IOper.mk (some 10) (IOp.mv (Opd.t 58)) none]))).loop)).seq
                ((IC.region
                      [IOper.mk (some 76) (IOp.mv (Opd.t 6)) none, IOper.mk (some 77) (IOp.bin .add (Opd.t 76) (Opd.c (KV.int .u32 (1)))) none, IOper.mk (some 78) (IOp.mv (Opd.t 6)) none,
                        IOper.mk (some 79) (IOp.bin .rem (Opd.t 78) (Opd.c (KV.int .u32 (2)))) none, IOper.mk (some 80) (IOp.bin .add (Opd.t 77) (Opd.t 79)) none, IOper.mk (some 11) (IOp.mv (Opd.t 80)) none]).seq
                  (((IC.region [IOper.mk (some 12) (IOp.mv (Opd.c (KV.int .i64 (0)))) none]).seq
                        (IC.block 4
                          (((IC.region
                                      [IOper.mk (some 81) (IOp.mv (Opd.t 12)) none, IOper.mk (some 82) (IOp.faddr 2 (Opd.t 1)) none, IOper.mk (some 83) (IOp.load none (Opd.t 82)) none, IOper.mk (some 84) (IOp.len (Opd.t 83)) none,
                                        IOper.mk (some 85) (IOp.bin .lss (Opd.t 81) (Opd.t 84)) none, IOper.mk (some 86) (IOp.mv (Opd.t 85)) none, IOper.mk (some 87) (IOp.mv (Opd.t 12)) (some (some 86, true)),
                                        IOper.mk (some 88) (IOp.bin .lss (Opd.t 87) (Opd.c (KV.int .i64 (20)))) (some (some 86, true)), IOper.mk (some 89) (IOp.pick (Opd.t 86) (Opd.t 88) (Opd.c (KV.bool false))) none]).seq
                                  (IC.cond (Opd.t 89) IC.skip (IC.exit 4))).seq
                              ((IC.block 5
                                    (((IC.region
                                              [IOper.mk (some 92) (IOp.mv (Opd.t 12)) none, IOper.mk (some 93) (IOp.bin .eql (Opd.t 92) (Opd.c (KV.int .i64 (0)))) none, IOper.mk (some 94) (IOp.mv (Opd.t 93)) none,
                                                IOper.mk (some 95) (IOp.faddr 2 (Opd.t 1)) (some (some 94, false)), IOper.mk (some 96) (IOp.load none (Opd.t 95)) (some (some 94, false)), IOper.mk (some 97) (IOp.mv (Opd.t 12)) (some (some 94, false)),
                                                IOper.mk (some 98) (IOp.iaddr 1 (Opd.t 96) (Opd.t 97)) (some (some 94, false)), IOper.mk (some 99) (IOp.load none (Opd.t 98)) (some (some 94, false)),
                                                IOper.mk (some 100) (IOp.bin .rem (Opd.t 99) (Opd.c (KV.int .u8 (3)))) (some (some 94, false)),
                                                IOper.mk (some 101) (IOp.bin .eql (Opd.t 100) (Opd.c (KV.int .u8 (0)))) (some (some 94, false)),
                                                IOper.mk (some 102) (IOp.pick (Opd.t 94) (Opd.c (KV.bool true)) (Opd.t 101)) none]).seq
                                          (IC.cond (Opd.t 102)
                                            (IC.region [IOper.mk (some 103) (IOp.mv (Opd.t 11)) none, IOper.mk (some 104) (IOp.bin .add (Opd.t 103) (Opd.c (KV.int .u32 (2)))) none, IOper.mk (some 11) (IOp.mv (Opd.t 104)) none])
                                            IC.skip)).seq
                                      (IC.region
                                        [IOper.mk (some 105) (IOp.mv (Opd.t 8)) none, IOper.mk (some 106) (IOp.mv (Opd.t 11)) none, IOper.mk (some 107) (IOp.bslice 26 1 1 [KV.int .u32 (0)] [(0, 1, Opd.t 106)]) none,
                                          IOper.mk (some 108) (IOp.append 26 1 4 (Opd.t 105) (Opd.t 107)) none, IOper.mk (some 8) (IOp.mv (Opd.t 108)) none]))).seq
                                (IC.region [IOper.mk (some 90) (IOp.mv (Opd.t 12)) none, IOper.mk (some 91) (IOp.bin .add (Opd.t 90) (Opd.c (KV.int .i64 (1)))) none, IOper.mk (some 12) (IOp.mv (Opd.t 91)) none]))).loop)).seq
                    ((IC.region [IOper.mk (some 109) (IOp.mv (Opd.t 5)) none, IOper.mk (some 110) (IOp.call 35 [Opd.t 109, Opd.c (KV.int .u8 (1))]) none, IOper.mk (some 13) (IOp.mv (Opd.t 110)) none]).seq
                      ((IC.region [IOper.mk (some 111) (IOp.mv (Opd.t 8)) none, IOper.mk (some 112) (IOp.call 35 [Opd.t 111, Opd.c (KV.int .u8 (1))]) none, IOper.mk (some 14) (IOp.mv (Opd.t 112)) none]).seq
                        (((IC.region [IOper.mk (some 113) (IOp.faddr 0 (Opd.t 1)) none, IOper.mk (some 114) (IOp.load none (Opd.t 113)) none, IOper.mk (some 115) (IOp.len (Opd.t 114)) none, IOper.mk (some 15) (IOp.mv (Opd.t 115)) none]).seq
                              (IC.block 6
                                (((IC.region
                                            [IOper.mk (some 116) (IOp.mv (Opd.t 15)) none, IOper.mk (some 117) (IOp.mv (Opd.t 14)) none, IOper.mk (some 118) (IOp.len (Opd.t 117)) none,
                                              IOper.mk (some 119) (IOp.bin .lss (Opd.t 116) (Opd.t 118)) none, IOper.mk (some 120) (IOp.mv (Opd.t 119)) none, IOper.mk (some 121) (IOp.mv (Opd.t 15)) (some (some 120, true)),
                                              IOper.mk (some 122) (IOp.bin .lss (Opd.t 121) (Opd.c (KV.int .i64 (40)))) (some (some 120, true)),
                                              IOper.mk (some 123) (IOp.pick (Opd.t 120) (Opd.t 122) (Opd.c (KV.bool false))) none]).seq
                                        (IC.cond (Opd.t 123) IC.skip (IC.exit 6))).seq
                                    ((IC.block 7
                                          ((IC.region
                                                [IOper.mk (some 126) (IOp.mv (Opd.t 14)) none, IOper.mk (some 127) (IOp.mv (Opd.t 15)) none, IOper.mk (some 128) (IOp.iaddr 11 (Opd.t 126) (Opd.t 127)) none,
                                                  IOper.mk (some 129) (IOp.faddr 10 (Opd.t 128)) none, IOper.mk (some 130) (IOp.load none (Opd.t 129)) none, IOper.mk (some 131) (IOp.len (Opd.t 130)) none,
                                                  IOper.mk (some 132) (IOp.bin .gtr (Opd.t 131) (Opd.c (KV.int .i64 (0)))) none]).seq
                                            (IC.cond (Opd.t 132)
                                              (IC.region
                                                [IOper.mk (some 133) (IOp.mv (Opd.t 14)) none, IOper.mk (some 134) (IOp.mv (Opd.t 15)) none,
                                                  IOper.mk (some 135) (IOp.bslice 5 1 1 [KV.int .u8 (0)] [(0, 1, Opd.c (KV.int .u8 (2)))]) none, IOper.mk (some 136) (IOp.iaddr 11 (Opd.t 133) (Opd.t 134)) none,
                                                  IOper.mk (some 137) (IOp.faddr 10 (Opd.t 136)) none, IOper.mk none (IOp.store 1 (Opd.t 137) (Opd.t 135)) none])
                                              IC.skip))).seq
                                      (IC.region
                                        [IOper.mk (some 124) (IOp.mv (Opd.t 15)) none, IOper.mk (some 125) (IOp.bin .add (Opd.t 124) (Opd.c (KV.int .i64 (1)))) none, IOper.mk (some 15) (IOp.mv (Opd.t 125)) none]))).loop)).seq
                          ((IC.region
                                [IOper.mk (some 138) (IOp.mv (Opd.t 13)) none, IOper.mk (some 139) (IOp.mv (Opd.t 14)) none, IOper.mk (some 140) (IOp.mv (Opd.t 9)) none, IOper.mk (some 141) (IOp.mv (Opd.t 11)) none,
                                  IOper.mk (some 142) (IOp.mx (Opd.t 140) (Opd.t 141)) none, IOper.mk (some 143) (IOp.bin .add (Opd.t 142) (Opd.c (KV.int .u32 (1)))) none, IOper.mk (some 2) (IOp.mv (Opd.t 138)) none,
                                  IOper.mk (some 3) (IOp.mv (Opd.t 139)) none, IOper.mk (some 4) (IOp.mv (Opd.t 143)) none]).seq
                            IC.ret)))))))))))))
theorem spec8 {args : List AV} {h : List AO} {post : AV → List AO → Prop} (hb : AX Go.Proofs.Try.prog h.length c8 [] (aend h.length [RV.tmp 2, RV.tmp 3, RV.tmp 4] post) ⟨mkT 144 (argsT 0 args), h⟩) (hl : args.length ≤ 144 := by simp) : ASpec Go.Proofs.Try.prog 8 args h post :=
  aspec_T hmix Go.Proofs.Try.func8 rfl (by kernel_rfl) rfl rfl hl hb
def c14 : IC :=
  (IC.region [IOper.mk (some 4) (IOp.mv (Opd.c (KV.int .i64 (0)))) none]).seq
  ((IC.region [IOper.mk (some 5) (IOp.mv (Opd.c (KV.int .i64 (0)))) none]).seq
    ((IC.block 0
          (((IC.draw
                      [IOper.mk (some 6) (IOp.mv (Opd.t 5)) none, IOper.mk (some 7) (IOp.mv (Opd.t 0)) none, IOper.mk (some 8) (IOp.len (Opd.t 7)) none, IOper.mk (some 9) (IOp.bin .lss (Opd.t 6) (Opd.t 8)) none,
                        IOper.mk (some 10) (IOp.mv (Opd.t 9)) none, IOper.mk (some 11) (IOp.mv (Opd.t 5)) (some (some 10, true)), IOper.mk (some 12) (IOp.mv (Opd.t 1)) (some (some 10, true)),
                        IOper.mk (some 13) (IOp.len (Opd.t 12)) (some (some 10, true)), IOper.mk (some 14) (IOp.bin .lss (Opd.t 11) (Opd.t 13)) (some (some 10, true)),
                        IOper.mk (some 15) (IOp.pick (Opd.t 10) (Opd.t 14) (Opd.c (KV.bool false))) none, IOper.mk (some 16) (IOp.mv (Opd.t 15)) none, IOper.mk (some 17) (IOp.mv (Opd.t 0)) (some (some 16, true)),
                        IOper.mk (some 18) (IOp.mv (Opd.t 5)) (some (some 16, true)), IOper.mk (some 19) (IOp.iaddr 11 (Opd.t 17) (Opd.t 18)) (some (some 16, true)), IOper.mk (some 20) (IOp.load (some 11) (Opd.t 19)) (some (some 16, true)),
                        IOper.mk (some 21) (IOp.mv (Opd.t 1)) (some (some 16, true)), IOper.mk (some 22) (IOp.mv (Opd.t 5)) (some (some 16, true)), IOper.mk (some 23) (IOp.iaddr 11 (Opd.t 21) (Opd.t 22)) (some (some 16, true)),
                        IOper.mk (some 24) (IOp.load (some 11) (Opd.t 23)) (some (some 16, true)), IOper.mk (some 25) (IOp.call 47 [Opd.t 20, Opd.t 24]) (some (some 16, true)),
                        IOper.mk (some 26) (IOp.pick (Opd.t 16) (Opd.t 25) (Opd.c (KV.bool false))) none]
                      [(0, true), (1, true), (2, true), (3, true), (4, true), (5, true), (6, true), (7, true), (8, true), (9, true), (10, true), (11, true), (12, true), (13, true), (14, true), (15, true), (16, true), (17, true), (18, true),
                        (19, false), (20, true)]
                      [0, 1] [19]).seq
                  (IC.cond (Opd.t 26) IC.skip (IC.exit 0))).seq
              (IC.block 1 (IC.region [IOper.mk (some 27) (IOp.mv (Opd.t 5)) none, IOper.mk (some 28) (IOp.bin .add (Opd.t 27) (Opd.c (KV.int .i64 (1)))) none, IOper.mk (some 5) (IOp.mv (Opd.t 28)) none]))).loop).seq
      ((IC.region [IOper.mk (some 29) (IOp.mv (Opd.t 5)) none, IOper.mk (some 4) (IOp.mv (Opd.t 29)) none]).seq IC.ret)))
theorem spec14 {args : List AV} {h : List AO} {post : AV → List AO → Prop} (hb : AX Go.Proofs.Try.prog h.length c14 [] (aend h.length [RV.tmp 4] post) ⟨mkT 30 (argsT 0 args), h⟩) (hl : args.length ≤ 30 := by simp) : ASpec Go.Proofs.Try.prog 14 args h post :=
  aspec_T hmix Go.Proofs.Try.func14 rfl (by kernel_rfl) rfl rfl hl hb
def c9 : IC :=
  (IC.region [IOper.mk (some 0) (IOp.mv (Opd.c (KV.bool false))) none]).seq
  ((IC.region
        [IOper.mk (some 15) (IOp.bslice 26 1 3 [KV.int .u32 (0)] [(0, 1, Opd.c (KV.int .u32 (1))), (1, 1, Opd.c (KV.int .u32 (1))), (2, 1, Opd.c (KV.int .u32 (3)))]) none,
          IOper.mk (some 16) (IOp.call 35 [Opd.t 15, Opd.c (KV.int .u8 (0))]) none, IOper.mk (some 1) (IOp.mv (Opd.t 16)) none]).seq
    ((IC.region
          [IOper.mk (some 17) (IOp.bslice 26 1 2 [KV.int .u32 (0)] [(0, 1, Opd.c (KV.int .u32 (1))), (1, 1, Opd.c (KV.int .u32 (2)))]) none,
            IOper.mk (some 18) (IOp.call 35 [Opd.t 17, Opd.c (KV.int .u8 (0))]) none, IOper.mk (some 2) (IOp.mv (Opd.t 18)) none]).seq
      ((IC.region
            [IOper.mk (some 20) (IOp.mv (Opd.t 1)) none, IOper.mk (some 21) (IOp.call 10 [Opd.t 20, Opd.c (KV.int .u32 (3)), Opd.c (KV.int .u64 (3))]) none, IOper.mk (some 19) (IOp.mv (Opd.t 21)) none,
              IOper.mk (some 22) (IOp.ext (Opd.t 19) 0) none, IOper.mk (some 23) (IOp.ext (Opd.t 19) 1) none,
              IOper.mk (some 3)
                (IOp.alloc 32
                  [KV.int .i64 (0), KV.int .u32 (0), KV.int .u32 (0), KV.int .u64 (0), KV.int .u64 (0), KV.int .u32 (0),
                    KV.int .i64 (0), KV.bool false, KV.int .i64 (0), KV.nils, KV.nils])
                none,
              IOper.mk none (IOp.store 11 (Opd.t 3) (Opd.t 22)) none, IOper.mk (some 4) (IOp.mv (Opd.t 23)) none]).seq
        ((IC.region
              [IOper.mk (some 25) (IOp.mv (Opd.t 2)) none, IOper.mk (some 26) (IOp.load (some 11) (Opd.t 3)) none, IOper.mk (some 27) (IOp.call 11 [Opd.t 25, Opd.c (KV.int .u32 (2)), Opd.t 26]) none,
                IOper.mk (some 24) (IOp.mv (Opd.t 27)) none, IOper.mk (some 28) (IOp.ext (Opd.t 24) 0) none, IOper.mk (some 29) (IOp.ext (Opd.t 24) 1) none, IOper.mk (some 30) (IOp.ext (Opd.t 24) 2) none,
                IOper.mk (some 31) (IOp.ext (Opd.t 24) 3) none,
                IOper.mk (some 7)
                  (IOp.alloc 32
                    [KV.int .i64 (0), KV.int .u32 (0), KV.int .u32 (0), KV.int .u64 (0), KV.int .u64 (0), KV.int .u32 (0),
                      KV.int .i64 (0), KV.bool false, KV.int .i64 (0), KV.nils, KV.nils])
                  none,
                IOper.mk (some 5) (IOp.mv (Opd.t 28)) none, IOper.mk (some 6) (IOp.mv (Opd.t 29)) none, IOper.mk none (IOp.store 11 (Opd.t 7) (Opd.t 30)) none, IOper.mk (some 8) (IOp.mv (Opd.t 31)) none]).seq
          ((IC.region
                [IOper.mk (some 33) (IOp.mv (Opd.t 1)) none, IOper.mk (some 34) (IOp.load (some 11) (Opd.t 7)) none, IOper.mk (some 35) (IOp.call 15 [Opd.c (KV.int .u64 (3)), Opd.t 34]) none,
                  IOper.mk (some 36) (IOp.call 10 [Opd.t 33, Opd.c (KV.int .u32 (3)), Opd.t 35]) none, IOper.mk (some 32) (IOp.mv (Opd.t 36)) none, IOper.mk (some 37) (IOp.ext (Opd.t 32) 0) none,
                  IOper.mk (some 38) (IOp.ext (Opd.t 32) 1) none,
                  IOper.mk (some 9)
                    (IOp.alloc 32
                      [KV.int .i64 (0), KV.int .u32 (0), KV.int .u32 (0), KV.int .u64 (0), KV.int .u64 (0), KV.int .u32 (0),
                        KV.int .i64 (0), KV.bool false, KV.int .i64 (0), KV.nils, KV.nils])
                    none,
                  IOper.mk none (IOp.store 11 (Opd.t 9) (Opd.t 37)) none, IOper.mk (some 10) (IOp.mv (Opd.t 38)) none]).seq
            ((IC.region
                  [IOper.mk (some 40) (IOp.mv (Opd.t 5)) none, IOper.mk (some 41) (IOp.mv (Opd.t 6)) none, IOper.mk (some 42) (IOp.load (some 11) (Opd.t 9)) none, IOper.mk (some 43) (IOp.call 11 [Opd.t 40, Opd.t 41, Opd.t 42]) none,
                    IOper.mk (some 39) (IOp.mv (Opd.t 43)) none, IOper.mk (some 44) (IOp.ext (Opd.t 39) 0) none, IOper.mk (some 45) (IOp.ext (Opd.t 39) 1) none, IOper.mk (some 46) (IOp.ext (Opd.t 39) 2) none,
                    IOper.mk (some 47) (IOp.ext (Opd.t 39) 3) none,
                    IOper.mk (some 13)
                      (IOp.alloc 32
                        [KV.int .i64 (0), KV.int .u32 (0), KV.int .u32 (0), KV.int .u64 (0), KV.int .u64 (0), KV.int .u32 (0),
                          KV.int .i64 (0), KV.bool false, KV.int .i64 (0), KV.nils, KV.nils])
                      none,
                    IOper.mk (some 11) (IOp.mv (Opd.t 44)) none, IOper.mk (some 12) (IOp.mv (Opd.t 45)) none, IOper.mk none (IOp.store 11 (Opd.t 13) (Opd.t 46)) none, IOper.mk (some 14) (IOp.mv (Opd.t 47)) none]).seq
              ((IC.region
                    [IOper.mk (some 48) (IOp.mv (Opd.t 4)) none, IOper.mk (some 49) (IOp.mv (Opd.t 48)) none, IOper.mk (some 50) (IOp.faddr 2 (Opd.t 3)) (some (some 49, true)), IOper.mk (some 51) (IOp.load none (Opd.t 50)) (some (some 49, true)),
                      IOper.mk (some 52) (IOp.bin .eql (Opd.t 51) (Opd.c (KV.int .u32 (1)))) (some (some 49, true)), IOper.mk (some 53) (IOp.pick (Opd.t 49) (Opd.t 52) (Opd.c (KV.bool false))) none,
                      IOper.mk (some 54) (IOp.mv (Opd.t 53)) none, IOper.mk (some 55) (IOp.faddr 3 (Opd.t 3)) (some (some 54, true)), IOper.mk (some 56) (IOp.load none (Opd.t 55)) (some (some 54, true)),
                      IOper.mk (some 57) (IOp.bin .eql (Opd.t 56) (Opd.c (KV.int .u64 (2)))) (some (some 54, true)), IOper.mk (some 58) (IOp.pick (Opd.t 54) (Opd.t 57) (Opd.c (KV.bool false))) none,
                      IOper.mk (some 59) (IOp.mv (Opd.t 58)) none, IOper.mk (some 60) (IOp.mv (Opd.t 8)) (some (some 59, true)), IOper.mk (some 61) (IOp.bin .eql (Opd.t 60) (Opd.c (KV.int .i64 (0)))) (some (some 59, true)),
                      IOper.mk (some 62) (IOp.pick (Opd.t 59) (Opd.t 61) (Opd.c (KV.bool false))) none, IOper.mk (some 63) (IOp.mv (Opd.t 62)) none, IOper.mk (some 64) (IOp.faddr 0 (Opd.t 7)) (some (some 63, true)),
                      IOper.mk (some 65) (IOp.load none (Opd.t 64)) (some (some 63, true)), IOper.mk (some 66) (IOp.bin .eql (Opd.t 65) (Opd.c (KV.int .i64 (3)))) (some (some 63, true)),
                      IOper.mk (some 67) (IOp.pick (Opd.t 63) (Opd.t 66) (Opd.c (KV.bool false))) none, IOper.mk (some 68) (IOp.mv (Opd.t 67)) none, IOper.mk (some 69) (IOp.faddr 3 (Opd.t 7)) (some (some 68, true)),
                      IOper.mk (some 70) (IOp.load none (Opd.t 69)) (some (some 68, true)), IOper.mk (some 71) (IOp.bin .eql (Opd.t 70) (Opd.c (KV.int .u64 (1)))) (some (some 68, true)),
                      IOper.mk (some 72) (IOp.pick (Opd.t 68) (Opd.t 71) (Opd.c (KV.bool false))) none, IOper.mk (some 73) (IOp.mv (Opd.t 72)) none, IOper.mk (some 74) (IOp.mv (Opd.t 6)) (some (some 73, true)),
                      IOper.mk (some 75) (IOp.bin .eql (Opd.t 74) (Opd.c (KV.int .u32 (3)))) (some (some 73, true)), IOper.mk (some 76) (IOp.pick (Opd.t 73) (Opd.t 75) (Opd.c (KV.bool false))) none,
                      IOper.mk (some 77) (IOp.mv (Opd.t 76)) none, IOper.mk (some 78) (IOp.mv (Opd.t 10)) (some (some 77, true)), IOper.mk (some 79) (IOp.pick (Opd.t 77) (Opd.t 78) (Opd.c (KV.bool false))) none,
                      IOper.mk (some 80) (IOp.mv (Opd.t 79)) none, IOper.mk (some 81) (IOp.faddr 3 (Opd.t 9)) (some (some 80, true)), IOper.mk (some 82) (IOp.load none (Opd.t 81)) (some (some 80, true)),
                      IOper.mk (some 83) (IOp.bin .eql (Opd.t 82) (Opd.c (KV.int .u64 (1)))) (some (some 80, true)), IOper.mk (some 84) (IOp.pick (Opd.t 80) (Opd.t 83) (Opd.c (KV.bool false))) none,
                      IOper.mk (some 85) (IOp.mv (Opd.t 84)) none, IOper.mk (some 86) (IOp.mv (Opd.t 14)) (some (some 85, true)), IOper.mk (some 87) (IOp.bin .eql (Opd.t 86) (Opd.c (KV.int .i64 (0)))) (some (some 85, true)),
                      IOper.mk (some 88) (IOp.pick (Opd.t 85) (Opd.t 87) (Opd.c (KV.bool false))) none, IOper.mk (some 89) (IOp.mv (Opd.t 88)) none, IOper.mk (some 90) (IOp.faddr 0 (Opd.t 13)) (some (some 89, true)),
                      IOper.mk (some 91) (IOp.load none (Opd.t 90)) (some (some 89, true)), IOper.mk (some 92) (IOp.bin .eql (Opd.t 91) (Opd.c (KV.int .i64 (2)))) (some (some 89, true)),
                      IOper.mk (some 93) (IOp.pick (Opd.t 89) (Opd.t 92) (Opd.c (KV.bool false))) none, IOper.mk (some 94) (IOp.mv (Opd.t 93)) none, IOper.mk (some 95) (IOp.faddr 3 (Opd.t 13)) (some (some 94, true)),
                      IOper.mk (some 96) (IOp.load none (Opd.t 95)) (some (some 94, true)), IOper.mk (some 97) (IOp.bin .eql (Opd.t 96) (Opd.c (KV.int .u64 (2)))) (some (some 94, true)),
                      IOper.mk (some 98) (IOp.pick (Opd.t 94) (Opd.t 97) (Opd.c (KV.bool false))) none, IOper.mk (some 99) (IOp.mv (Opd.t 98)) none, IOper.mk (some 100) (IOp.mv (Opd.t 11)) (some (some 99, true)),
                      IOper.mk (some 101) (IOp.len (Opd.t 100)) (some (some 99, true)), IOper.mk (some 102) (IOp.bin .eql (Opd.t 101) (Opd.c (KV.int .i64 (2)))) (some (some 99, true)),
                      IOper.mk (some 103) (IOp.pick (Opd.t 99) (Opd.t 102) (Opd.c (KV.bool false))) none, IOper.mk (some 104) (IOp.mv (Opd.t 103)) none, IOper.mk (some 105) (IOp.mv (Opd.t 11)) (some (some 104, true)),
                      IOper.mk (some 106) (IOp.iaddr 11 (Opd.t 105) (Opd.c (KV.int .i64 (1)))) (some (some 104, true)), IOper.mk (some 107) (IOp.faddr 2 (Opd.t 106)) (some (some 104, true)),
                      IOper.mk (some 108) (IOp.load none (Opd.t 107)) (some (some 104, true)), IOper.mk (some 109) (IOp.bin .eql (Opd.t 108) (Opd.c (KV.int .u32 (1)))) (some (some 104, true)),
                      IOper.mk (some 110) (IOp.pick (Opd.t 104) (Opd.t 109) (Opd.c (KV.bool false))) none, IOper.mk (some 111) (IOp.mv (Opd.t 110)) none,
                      IOper.mk (some 112) (IOp.call 36 [Opd.c (KV.int .i64 (1)), Opd.c (KV.int .u64 (5)), Opd.c (KV.int .u64 (3))]) (some (some 111, true)),
                      IOper.mk (some 113) (IOp.bin .eql (Opd.t 112) (Opd.c (KV.int .u64 (3)))) (some (some 111, true)), IOper.mk (some 114) (IOp.pick (Opd.t 111) (Opd.t 113) (Opd.c (KV.bool false))) none,
                      IOper.mk (some 0) (IOp.mv (Opd.t 114)) none]).seq
                IC.ret)))))))
theorem spec9 {args : List AV} {h : List AO} {post : AV → List AO → Prop} (hb : AX Go.Proofs.Try.prog h.length c9 [] (aend h.length [RV.tmp 0] post) ⟨mkT 115 (argsT 0 args), h⟩) (hl : args.length ≤ 115 := by simp) : ASpec Go.Proofs.Try.prog 9 args h post :=
  aspec_T hmix Go.Proofs.Try.func9 rfl (by kernel_rfl) rfl rfl hl hb
def c12 : IC :=
  (IC.region [IOper.mk (some 4) (IOp.mv (Opd.c (KV.bool false))) none]).seq
  (((IC.region
            [IOper.mk (some 6) (IOp.mv (Opd.t 0)) none, IOper.mk (some 7) (IOp.len (Opd.t 6)) none, IOper.mk (some 8) (IOp.mv (Opd.t 1)) none, IOper.mk (some 9) (IOp.len (Opd.t 8)) none,
              IOper.mk (some 10) (IOp.bin .neq (Opd.t 7) (Opd.t 9)) none]).seq
        (IC.cond (Opd.t 10) ((IC.region [IOper.mk (some 4) (IOp.mv (Opd.c (KV.bool false))) none]).seq IC.ret) IC.skip)).seq
    (((IC.region [IOper.mk (some 5) (IOp.mv (Opd.c (KV.int .i64 (0)))) none]).seq
          (IC.block 0
            (((IC.region [IOper.mk (some 11) (IOp.mv (Opd.t 5)) none, IOper.mk (some 12) (IOp.mv (Opd.t 0)) none, IOper.mk (some 13) (IOp.len (Opd.t 12)) none, IOper.mk (some 14) (IOp.bin .lss (Opd.t 11) (Opd.t 13)) none]).seq
                    (IC.cond (Opd.t 14) IC.skip (IC.exit 0))).seq
                ((IC.block 1
                      ((IC.draw
                            [IOper.mk (some 17) (IOp.mv (Opd.t 0)) none, IOper.mk (some 18) (IOp.mv (Opd.t 5)) none, IOper.mk (some 19) (IOp.iaddr 11 (Opd.t 17) (Opd.t 18)) none, IOper.mk (some 20) (IOp.load (some 11) (Opd.t 19)) none,
                              IOper.mk (some 21) (IOp.mv (Opd.t 1)) none, IOper.mk (some 22) (IOp.mv (Opd.t 5)) none, IOper.mk (some 23) (IOp.iaddr 11 (Opd.t 21) (Opd.t 22)) none, IOper.mk (some 24) (IOp.load (some 11) (Opd.t 23)) none,
                              IOper.mk (some 25) (IOp.call 47 [Opd.t 20, Opd.t 24]) none, IOper.mk (some 26) (IOp.not (Opd.t 25)) none]
                            [(0, true), (1, true), (2, true), (3, true), (4, true), (5, true), (6, true), (7, true), (8, false), (9, true)] [0, 1] [8]).seq
                        (IC.cond (Opd.t 26) ((IC.region [IOper.mk (some 4) (IOp.mv (Opd.c (KV.bool false))) none]).seq IC.ret) IC.skip))).seq
                  (IC.region [IOper.mk (some 15) (IOp.mv (Opd.t 5)) none, IOper.mk (some 16) (IOp.bin .add (Opd.t 15) (Opd.c (KV.int .i64 (1)))) none, IOper.mk (some 5) (IOp.mv (Opd.t 16)) none]))).loop)).seq
      ((IC.region [IOper.mk (some 4) (IOp.mv (Opd.c (KV.bool true))) none]).seq IC.ret)))
theorem spec12 {args : List AV} {h : List AO} {post : AV → List AO → Prop} (hb : AX Go.Proofs.Try.prog h.length c12 [] (aend h.length [RV.tmp 4] post) ⟨mkT 27 (argsT 0 args), h⟩) (hl : args.length ≤ 27 := by simp) : ASpec Go.Proofs.Try.prog 12 args h post :=
  aspec_T hmix Go.Proofs.Try.func12 rfl (by kernel_rfl) rfl rfl hl hb
def c47 : IC :=
  (IC.region [IOper.mk (some 2) (IOp.box 69 (Opd.t 0)) none, IOper.mk (some 3) (IOp.box 69 (Opd.t 1)) none, IOper.mk (some 4) (IOp.mv (Opd.c (KV.bool false))) none]).seq
  ((IC.region
        [IOper.mk (some 5) (IOp.faddr 0 (Opd.t 2)) none, IOper.mk (some 6) (IOp.load none (Opd.t 5)) none, IOper.mk (some 7) (IOp.faddr 0 (Opd.t 3)) none, IOper.mk (some 8) (IOp.load none (Opd.t 7)) none,
          IOper.mk (some 9) (IOp.bin .eql (Opd.t 6) (Opd.t 8)) none, IOper.mk (some 10) (IOp.mv (Opd.t 9)) none, IOper.mk (some 11) (IOp.faddr 1 (Opd.t 2)) (some (some 10, true)),
          IOper.mk (some 12) (IOp.load none (Opd.t 11)) (some (some 10, true)), IOper.mk (some 13) (IOp.faddr 1 (Opd.t 3)) (some (some 10, true)), IOper.mk (some 14) (IOp.load none (Opd.t 13)) (some (some 10, true)),
          IOper.mk (some 15) (IOp.bin .eql (Opd.t 12) (Opd.t 14)) (some (some 10, true)), IOper.mk (some 16) (IOp.pick (Opd.t 10) (Opd.t 15) (Opd.c (KV.bool false))) none, IOper.mk (some 17) (IOp.mv (Opd.t 16)) none,
          IOper.mk (some 18) (IOp.faddr 2 (Opd.t 2)) (some (some 17, true)), IOper.mk (some 19) (IOp.load none (Opd.t 18)) (some (some 17, true)), IOper.mk (some 20) (IOp.faddr 2 (Opd.t 3)) (some (some 17, true)),
          IOper.mk (some 21) (IOp.load none (Opd.t 20)) (some (some 17, true)), IOper.mk (some 22) (IOp.bin .eql (Opd.t 19) (Opd.t 21)) (some (some 17, true)), IOper.mk (some 23) (IOp.pick (Opd.t 17) (Opd.t 22) (Opd.c (KV.bool false))) none,
          IOper.mk (some 24) (IOp.mv (Opd.t 23)) none, IOper.mk (some 25) (IOp.faddr 3 (Opd.t 2)) (some (some 24, true)), IOper.mk (some 26) (IOp.load none (Opd.t 25)) (some (some 24, true)),
          IOper.mk (some 27) (IOp.faddr 3 (Opd.t 3)) (some (some 24, true)), IOper.mk (some 28) (IOp.load none (Opd.t 27)) (some (some 24, true)), IOper.mk (some 29) (IOp.bin .eql (Opd.t 26) (Opd.t 28)) (some (some 24, true)),
          IOper.mk (some 30) (IOp.pick (Opd.t 24) (Opd.t 29) (Opd.c (KV.bool false))) none, IOper.mk (some 31) (IOp.mv (Opd.t 30)) none, IOper.mk (some 32) (IOp.faddr 4 (Opd.t 2)) (some (some 31, true)),
          IOper.mk (some 33) (IOp.load none (Opd.t 32)) (some (some 31, true)), IOper.mk (some 34) (IOp.faddr 4 (Opd.t 3)) (some (some 31, true)), IOper.mk (some 35) (IOp.load none (Opd.t 34)) (some (some 31, true)),
          IOper.mk (some 36) (IOp.bin .eql (Opd.t 33) (Opd.t 35)) (some (some 31, true)), IOper.mk (some 37) (IOp.pick (Opd.t 31) (Opd.t 36) (Opd.c (KV.bool false))) none, IOper.mk (some 38) (IOp.mv (Opd.t 37)) none,
          IOper.mk (some 39) (IOp.faddr 5 (Opd.t 2)) (some (some 38, true)), IOper.mk (some 40) (IOp.load none (Opd.t 39)) (some (some 38, true)), IOper.mk (some 41) (IOp.faddr 5 (Opd.t 3)) (some (some 38, true)),
          IOper.mk (some 42) (IOp.load none (Opd.t 41)) (some (some 38, true)), IOper.mk (some 43) (IOp.eqb false (Opd.t 40) (Opd.t 42)) (some (some 38, true)), IOper.mk (some 44) (IOp.pick (Opd.t 38) (Opd.t 43) (Opd.c (KV.bool false))) none,
          IOper.mk (some 45) (IOp.mv (Opd.t 44)) none, IOper.mk (some 46) (IOp.faddr 6 (Opd.t 2)) (some (some 45, true)), IOper.mk (some 47) (IOp.load none (Opd.t 46)) (some (some 45, true)),
          IOper.mk (some 48) (IOp.faddr 6 (Opd.t 3)) (some (some 45, true)), IOper.mk (some 49) (IOp.load none (Opd.t 48)) (some (some 45, true)), IOper.mk (some 50) (IOp.bin .eql (Opd.t 47) (Opd.t 49)) (some (some 45, true)),
          IOper.mk (some 51) (IOp.pick (Opd.t 45) (Opd.t 50) (Opd.c (KV.bool false))) none, IOper.mk (some 52) (IOp.mv (Opd.t 51)) none, IOper.mk (some 53) (IOp.faddr 7 (Opd.t 2)) (some (some 52, true)),
          IOper.mk (some 54) (IOp.load none (Opd.t 53)) (some (some 52, true)), IOper.mk (some 55) (IOp.faddr 7 (Opd.t 3)) (some (some 52, true)), IOper.mk (some 56) (IOp.load none (Opd.t 55)) (some (some 52, true)),
          IOper.mk (some 57) (IOp.bin .eql (Opd.t 54) (Opd.t 56)) (some (some 52, true)), IOper.mk (some 58) (IOp.pick (Opd.t 52) (Opd.t 57) (Opd.c (KV.bool false))) none, IOper.mk (some 59) (IOp.mv (Opd.t 58)) none,
          IOper.mk (some 60) (IOp.faddr 8 (Opd.t 2)) (some (some 59, true)), IOper.mk (some 61) (IOp.load none (Opd.t 60)) (some (some 59, true)), IOper.mk (some 62) (IOp.faddr 8 (Opd.t 3)) (some (some 59, true)),
          IOper.mk (some 63) (IOp.load none (Opd.t 62)) (some (some 59, true)), IOper.mk (some 64) (IOp.bin .eql (Opd.t 61) (Opd.t 63)) (some (some 59, true)), IOper.mk (some 65) (IOp.pick (Opd.t 59) (Opd.t 64) (Opd.c (KV.bool false))) none,
          IOper.mk (some 66) (IOp.mv (Opd.t 65)) none, IOper.mk (some 67) (IOp.faddr 9 (Opd.t 2)) (some (some 66, true)), IOper.mk (some 68) (IOp.load none (Opd.t 67)) (some (some 66, true)),
          IOper.mk (some 69) (IOp.b2s (Opd.t 68)) (some (some 66, true)), IOper.mk (some 70) (IOp.faddr 9 (Opd.t 3)) (some (some 66, true)), IOper.mk (some 71) (IOp.load none (Opd.t 70)) (some (some 66, true)),
          IOper.mk (some 72) (IOp.b2s (Opd.t 71)) (some (some 66, true)), IOper.mk (some 73) (IOp.bin .eql (Opd.t 69) (Opd.t 72)) (some (some 66, true)), IOper.mk (some 74) (IOp.pick (Opd.t 66) (Opd.t 73) (Opd.c (KV.bool false))) none,
          IOper.mk (some 75) (IOp.mv (Opd.t 74)) none, IOper.mk (some 76) (IOp.faddr 10 (Opd.t 2)) (some (some 75, true)), IOper.mk (some 77) (IOp.load none (Opd.t 76)) (some (some 75, true)),
          IOper.mk (some 78) (IOp.b2s (Opd.t 77)) (some (some 75, true)), IOper.mk (some 79) (IOp.faddr 10 (Opd.t 3)) (some (some 75, true)), IOper.mk (some 80) (IOp.load none (Opd.t 79)) (some (some 75, true)),
          IOper.mk (some 81) (IOp.b2s (Opd.t 80)) (some (some 75, true)), IOper.mk (some 82) (IOp.bin .eql (Opd.t 78) (Opd.t 81)) (some (some 75, true)), IOper.mk (some 83) (IOp.pick (Opd.t 75) (Opd.t 82) (Opd.c (KV.bool false))) none,
          IOper.mk (some 4) (IOp.mv (Opd.t 83)) none]).seq
    IC.ret)
theorem spec47 {args : List AV} {h : List AO} {post : AV → List AO → Prop} (hb : AX Go.Proofs.Try.prog h.length c47 [] (aend h.length [RV.tmp 4] post) ⟨mkT 84 (argsT 0 args), h⟩) (hl : args.length ≤ 84 := by simp) : ASpec Go.Proofs.Try.prog 47 args h post :=
  aspec_T hmix Go.Proofs.Try.func47 rfl (by kernel_rfl) rfl rfl hl hb
def c13 : IC :=
  (IC.region [IOper.mk (some 2) (IOp.box 32 (Opd.t 0)) none, IOper.mk (some 3) (IOp.box 32 (Opd.t 1)) none, IOper.mk (some 4) (IOp.mv (Opd.c (KV.bool false))) none]).seq
  ((IC.region
        [IOper.mk (some 5) (IOp.faddr 0 (Opd.t 2)) none, IOper.mk (some 6) (IOp.load none (Opd.t 5)) none, IOper.mk (some 7) (IOp.faddr 0 (Opd.t 3)) none, IOper.mk (some 8) (IOp.load none (Opd.t 7)) none,
          IOper.mk (some 9) (IOp.bin .eql (Opd.t 6) (Opd.t 8)) none, IOper.mk (some 10) (IOp.mv (Opd.t 9)) none, IOper.mk (some 11) (IOp.faddr 1 (Opd.t 2)) (some (some 10, true)),
          IOper.mk (some 12) (IOp.load none (Opd.t 11)) (some (some 10, true)), IOper.mk (some 13) (IOp.faddr 1 (Opd.t 3)) (some (some 10, true)), IOper.mk (some 14) (IOp.load none (Opd.t 13)) (some (some 10, true)),
          IOper.mk (some 15) (IOp.bin .eql (Opd.t 12) (Opd.t 14)) (some (some 10, true)), IOper.mk (some 16) (IOp.pick (Opd.t 10) (Opd.t 15) (Opd.c (KV.bool false))) none, IOper.mk (some 17) (IOp.mv (Opd.t 16)) none,
          IOper.mk (some 18) (IOp.faddr 2 (Opd.t 2)) (some (some 17, true)), IOper.mk (some 19) (IOp.load none (Opd.t 18)) (some (some 17, true)), IOper.mk (some 20) (IOp.faddr 2 (Opd.t 3)) (some (some 17, true)),
          IOper.mk (some 21) (IOp.load none (Opd.t 20)) (some (some 17, true)), IOper.mk (some 22) (IOp.bin .eql (Opd.t 19) (Opd.t 21)) (some (some 17, true)), IOper.mk (some 23) (IOp.pick (Opd.t 17) (Opd.t 22) (Opd.c (KV.bool false))) none,
          IOper.mk (some 24) (IOp.mv (Opd.t 23)) none, IOper.mk (some 25) (IOp.faddr 3 (Opd.t 2)) (some (some 24, true)), IOper.mk (some 26) (IOp.load none (Opd.t 25)) (some (some 24, true)),
          IOper.mk (some 27) (IOp.faddr 3 (Opd.t 3)) (some (some 24, true)), IOper.mk (some 28) (IOp.load none (Opd.t 27)) (some (some 24, true)), IOper.mk (some 29) (IOp.bin .eql (Opd.t 26) (Opd.t 28)) (some (some 24, true)),
          IOper.mk (some 30) (IOp.pick (Opd.t 24) (Opd.t 29) (Opd.c (KV.bool false))) none, IOper.mk (some 31) (IOp.mv (Opd.t 30)) none, IOper.mk (some 32) (IOp.faddr 4 (Opd.t 2)) (some (some 31, true)),
          IOper.mk (some 33) (IOp.load none (Opd.t 32)) (some (some 31, true)), IOper.mk (some 34) (IOp.faddr 4 (Opd.t 3)) (some (some 31, true)), IOper.mk (some 35) (IOp.load none (Opd.t 34)) (some (some 31, true)),
          IOper.mk (some 36) (IOp.bin .eql (Opd.t 33) (Opd.t 35)) (some (some 31, true)), IOper.mk (some 37) (IOp.pick (Opd.t 31) (Opd.t 36) (Opd.c (KV.bool false))) none, IOper.mk (some 38) (IOp.mv (Opd.t 37)) none,
          IOper.mk (some 39) (IOp.faddr 5 (Opd.t 2)) (some (some 38, true)), IOper.mk (some 40) (IOp.load none (Opd.t 39)) (some (some 38, true)), IOper.mk (some 41) (IOp.faddr 5 (Opd.t 3)) (some (some 38, true)),
          IOper.mk (some 42) (IOp.load none (Opd.t 41)) (some (some 38, true)), IOper.mk (some 43) (IOp.bin .eql (Opd.t 40) (Opd.t 42)) (some (some 38, true)), IOper.mk (some 44) (IOp.pick (Opd.t 38) (Opd.t 43) (Opd.c (KV.bool false))) none,
          IOper.mk (some 45) (IOp.mv (Opd.t 44)) none, IOper.mk (some 46) (IOp.faddr 6 (Opd.t 2)) (some (some 45, true)), IOper.mk (some 47) (IOp.load none (Opd.t 46)) (some (some 45, true)),
          IOper.mk (some 48) (IOp.faddr 6 (Opd.t 3)) (some (some 45, true)), IOper.mk (some 49) (IOp.load none (Opd.t 48)) (some (some 45, true)), IOper.mk (some 50) (IOp.bin .eql (Opd.t 47) (Opd.t 49)) (some (some 45, true)),
          IOper.mk (some 51) (IOp.pick (Opd.t 45) (Opd.t 50) (Opd.c (KV.bool false))) none, IOper.mk (some 52) (IOp.mv (Opd.t 51)) none, IOper.mk (some 53) (IOp.faddr 7 (Opd.t 2)) (some (some 52, true)),
          IOper.mk (some 54) (IOp.load none (Opd.t 53)) (some (some 52, true)), IOper.mk (some 55) (IOp.faddr 7 (Opd.t 3)) (some (some 52, true)), IOper.mk (some 56) (IOp.load none (Opd.t 55)) (some (some 52, true)),
          IOper.mk (some 57) (IOp.eqb false (Opd.t 54) (Opd.t 56)) (some (some 52, true)), IOper.mk (some 58) (IOp.pick (Opd.t 52) (Opd.t 57) (Opd.c (KV.bool false))) none, IOper.mk (some 59) (IOp.mv (Opd.t 58)) none,
          IOper.mk (some 60) (IOp.faddr 8 (Opd.t 2)) (some (some 59, true)), IOper.mk (some 61) (IOp.load none (Opd.t 60)) (some (some 59, true)), IOper.mk (some 62) (IOp.faddr 8 (Opd.t 3)) (some (some 59, true)),
          IOper.mk (some 63) (IOp.load none (Opd.t 62)) (some (some 59, true)), IOper.mk (some 64) (IOp.bin .eql (Opd.t 61) (Opd.t 63)) (some (some 59, true)), IOper.mk (some 65) (IOp.pick (Opd.t 59) (Opd.t 64) (Opd.c (KV.bool false))) none,
          IOper.mk (some 66) (IOp.mv (Opd.t 65)) none, IOper.mk (some 67) (IOp.faddr 9 (Opd.t 2)) (some (some 66, true)), IOper.mk (some 68) (IOp.load none (Opd.t 67)) (some (some 66, true)),
          IOper.mk (some 69) (IOp.b2s (Opd.t 68)) (some (some 66, true)), IOper.mk (some 70) (IOp.faddr 9 (Opd.t 3)) (some (some 66, true)), IOper.mk (some 71) (IOp.load none (Opd.t 70)) (some (some 66, true)),
          IOper.mk (some 72) (IOp.b2s (Opd.t 71)) (some (some 66, true)), IOper.mk (some 73) (IOp.bin .eql (Opd.t 69) (Opd.t 72)) (some (some 66, true)), IOper.mk (some 74) (IOp.pick (Opd.t 66) (Opd.t 73) (Opd.c (KV.bool false))) none,
          IOper.mk (some 75) (IOp.mv (Opd.t 74)) none, IOper.mk (some 76) (IOp.faddr 10 (Opd.t 2)) (some (some 75, true)), IOper.mk (some 77) (IOp.load none (Opd.t 76)) (some (some 75, true)),
          IOper.mk (some 78) (IOp.b2s (Opd.t 77)) (some (some 75, true)), IOper.mk (some 79) (IOp.faddr 10 (Opd.t 3)) (some (some 75, true)), IOper.mk (some 80) (IOp.load none (Opd.t 79)) (some (some 75, true)),
          IOper.mk (some 81) (IOp.b2s (Opd.t 80)) (some (some 75, true)), IOper.mk (some 82) (IOp.bin .eql (Opd.t 78) (Opd.t 81)) (some (some 75, true)), IOper.mk (some 83) (IOp.pick (Opd.t 75) (Opd.t 82) (Opd.c (KV.bool false))) none,
          IOper.mk (some 4) (IOp.mv (Opd.t 83)) none]).seq
    IC.ret)
theorem spec13 {args : List AV} {h : List AO} {post : AV → List AO → Prop} (hb : AX Go.Proofs.Try.prog h.length c13 [] (aend h.length [RV.tmp 4] post) ⟨mkT 84 (argsT 0 args), h⟩) (hl : args.length ≤ 84 := by simp) : ASpec Go.Proofs.Try.prog 13 args h post :=
  aspec_T hmix Go.Proofs.Try.func13 rfl (by kernel_rfl) rfl rfl hl hb
def c3 : IC :=
  (IC.region [IOper.mk (some 3) (IOp.box 24 (Opd.t 0)) none, IOper.mk (some 6) (IOp.mv (Opd.c (KV.bool false))) none]).seq
  ((IC.region
        [IOper.mk (some 21) (IOp.load (some 3) (Opd.t 3)) none, IOper.mk (some 22) (IOp.call 8 [Opd.t 21]) none, IOper.mk (some 20) (IOp.mv (Opd.t 22)) none, IOper.mk (some 23) (IOp.ext (Opd.t 20) 0) none,
          IOper.mk (some 24) (IOp.ext (Opd.t 20) 1) none, IOper.mk (some 25) (IOp.ext (Opd.t 20) 2) none, IOper.mk (some 7) (IOp.mv (Opd.t 23)) none, IOper.mk (some 8) (IOp.mv (Opd.t 24)) none, IOper.mk (some 9) (IOp.mv (Opd.t 25)) none]).seq
    (((IC.region [IOper.mk (some 26) (IOp.mv (Opd.t 7)) none, IOper.mk (some 27) (IOp.len (Opd.t 26)) none, IOper.mk (some 28) (IOp.bin .eql (Opd.t 27) (Opd.c (KV.int .i64 (0)))) none]).seq
          (IC.cond (Opd.t 28) ((IC.region [IOper.mk (some 29) (IOp.call 9 []) none, IOper.mk (some 6) (IOp.mv (Opd.t 29)) none]).seq IC.ret) IC.skip)).seq
      ((IC.region
            [IOper.mk (some 31) (IOp.mv (Opd.t 7)) none, IOper.mk (some 32) (IOp.mv (Opd.t 9)) none, IOper.mk (some 33) (IOp.mv (Opd.t 1)) none, IOper.mk (some 34) (IOp.mv (Opd.t 7)) none, IOper.mk (some 35) (IOp.len (Opd.t 34)) none,
              IOper.mk (some 36) (IOp.conv .u64 (Opd.t 35)) none, IOper.mk (some 37) (IOp.bin .rem (Opd.t 33) (Opd.t 36)) none, IOper.mk (some 38) (IOp.bin .add (Opd.c (KV.int .u64 (1))) (Opd.t 37)) none,
              IOper.mk (some 39) (IOp.call 10 [Opd.t 31, Opd.t 32, Opd.t 38]) none, IOper.mk (some 30) (IOp.mv (Opd.t 39)) none, IOper.mk (some 40) (IOp.ext (Opd.t 30) 0) none, IOper.mk (some 41) (IOp.ext (Opd.t 30) 1) none,
              IOper.mk (some 10)
                (IOp.alloc 32
                  [KV.int .i64 (0), KV.int .u32 (0), KV.int .u32 (0), KV.int .u64 (0), KV.int .u64 (0), KV.int .u32 (0),
                    KV.int .i64 (0), KV.bool false, KV.int .i64 (0), KV.nils, KV.nils])
                none,
              IOper.mk none (IOp.store 11 (Opd.t 10) (Opd.t 40)) none, IOper.mk (some 11) (IOp.mv (Opd.t 41)) none]).seq
        (((IC.region [IOper.mk (some 42) (IOp.mv (Opd.t 11)) none, IOper.mk (some 43) (IOp.not (Opd.t 42)) none]).seq (IC.cond (Opd.t 43) ((IC.region [IOper.mk (some 6) (IOp.mv (Opd.c (KV.bool false))) none]).seq IC.ret) IC.skip)).seq
          ((IC.region
                [IOper.mk (some 45) (IOp.mv (Opd.t 8)) none, IOper.mk (some 46) (IOp.mv (Opd.t 2)) none, IOper.mk (some 47) (IOp.load (some 11) (Opd.t 10)) none, IOper.mk (some 48) (IOp.call 11 [Opd.t 45, Opd.t 46, Opd.t 47]) none,
                  IOper.mk (some 44) (IOp.mv (Opd.t 48)) none, IOper.mk (some 49) (IOp.ext (Opd.t 44) 0) none, IOper.mk (some 50) (IOp.ext (Opd.t 44) 1) none, IOper.mk (some 51) (IOp.ext (Opd.t 44) 2) none,
                  IOper.mk (some 52) (IOp.ext (Opd.t 44) 3) none,
                  IOper.mk (some 14)
                    (IOp.alloc 32
                      [KV.int .i64 (0), KV.int .u32 (0), KV.int .u32 (0), KV.int .u64 (0), KV.int .u64 (0), KV.int .u32 (0),
                        KV.int .i64 (0), KV.bool false, KV.int .i64 (0), KV.nils, KV.nils])
                    none,
                  IOper.mk (some 12) (IOp.mv (Opd.t 49)) none, IOper.mk (some 13) (IOp.mv (Opd.t 50)) none, IOper.mk none (IOp.store 11 (Opd.t 14) (Opd.t 51)) none, IOper.mk (some 15) (IOp.mv (Opd.t 52)) none]).seq
            (((IC.region [IOper.mk (some 53) (IOp.mv (Opd.t 15)) none, IOper.mk (some 54) (IOp.bin .neq (Opd.t 53) (Opd.c (KV.int .i64 (0)))) none]).seq
                  (IC.cond (Opd.t 54) ((IC.region [IOper.mk (some 6) (IOp.mv (Opd.c (KV.bool false))) none]).seq IC.ret) IC.skip)).seq
              (((IC.region [IOper.mk (some 55) (IOp.mv (Opd.t 2)) none, IOper.mk (some 56) (IOp.mv (Opd.t 9)) none, IOper.mk (some 57) (IOp.bin .gtr (Opd.t 55) (Opd.t 56)) none]).seq
                    (IC.cond (Opd.t 57)
                      ((IC.region
                            [IOper.mk (some 58) (IOp.mv (Opd.t 12)) none, IOper.mk (some 59) (IOp.mv (Opd.t 8)) none, IOper.mk (some 60) (IOp.call 12 [Opd.t 58, Opd.t 59]) none, IOper.mk (some 61) (IOp.mv (Opd.t 60)) none,
                              IOper.mk (some 62) (IOp.mv (Opd.t 13)) (some (some 61, true)), IOper.mk (some 63) (IOp.mv (Opd.t 2)) (some (some 61, true)), IOper.mk (some 64) (IOp.bin .eql (Opd.t 62) (Opd.t 63)) (some (some 61, true)),
                              IOper.mk (some 65) (IOp.pick (Opd.t 61) (Opd.t 64) (Opd.c (KV.bool false))) none, IOper.mk (some 66) (IOp.mv (Opd.t 65)) none, IOper.mk (some 67) (IOp.faddr 0 (Opd.t 14)) (some (some 66, true)),
                              IOper.mk (some 68) (IOp.load none (Opd.t 67)) (some (some 66, true)), IOper.mk (some 69) (IOp.bin .eql (Opd.t 68) (Opd.c (KV.int .i64 (6)))) (some (some 66, true)),
                              IOper.mk (some 70) (IOp.pick (Opd.t 66) (Opd.t 69) (Opd.c (KV.bool false))) none, IOper.mk (some 71) (IOp.mv (Opd.t 70)) none, IOper.mk (some 72) (IOp.faddr 8 (Opd.t 14)) (some (some 71, true)),
                              IOper.mk (some 73) (IOp.load none (Opd.t 72)) (some (some 71, true)), IOper.mk (some 74) (IOp.bin .eql (Opd.t 73) (Opd.c (KV.int .i64 (3)))) (some (some 71, true)),
                              IOper.mk (some 75) (IOp.pick (Opd.t 71) (Opd.t 74) (Opd.c (KV.bool false))) none, IOper.mk (some 76) (IOp.mv (Opd.t 75)) none, IOper.mk (some 77) (IOp.faddr 1 (Opd.t 14)) (some (some 76, true)),
                              IOper.mk (some 78) (IOp.load none (Opd.t 77)) (some (some 76, true)), IOper.mk (some 79) (IOp.mv (Opd.t 2)) (some (some 76, true)), IOper.mk (some 80) (IOp.bin .eql (Opd.t 78) (Opd.t 79)) (some (some 76, true)),
                              IOper.mk (some 81) (IOp.pick (Opd.t 76) (Opd.t 80) (Opd.c (KV.bool false))) none, IOper.mk (some 82) (IOp.mv (Opd.t 81)) none, IOper.mk (some 83) (IOp.call 9 []) (some (some 82, true)),
                              IOper.mk (some 84) (IOp.pick (Opd.t 82) (Opd.t 83) (Opd.c (KV.bool false))) none, IOper.mk (some 6) (IOp.mv (Opd.t 84)) none]).seq
                        IC.ret)
                      IC.skip)).seq
                ((IC.region
                      [IOper.mk (some 86) (IOp.mv (Opd.t 12)) none, IOper.mk (some 87) (IOp.mv (Opd.t 13)) none, IOper.mk (some 88) (IOp.load (some 11) (Opd.t 10)) none, IOper.mk (some 89) (IOp.call 11 [Opd.t 86, Opd.t 87, Opd.t 88]) none,
                        IOper.mk (some 85) (IOp.mv (Opd.t 89)) none, IOper.mk (some 90) (IOp.ext (Opd.t 85) 0) none, IOper.mk (some 91) (IOp.ext (Opd.t 85) 1) none, IOper.mk (some 92) (IOp.ext (Opd.t 85) 2) none,
                        IOper.mk (some 93) (IOp.ext (Opd.t 85) 3) none,
                        IOper.mk (some 18)
                          (IOp.alloc 32
                            [KV.int .i64 (0), KV.int .u32 (0), KV.int .u32 (0), KV.int .u64 (0), KV.int .u64 (0), KV.int .u32 (0),
                              KV.int .i64 (0), KV.bool false, KV.int .i64 (0), KV.nils, KV.nils])
                          none,
                        IOper.mk (some 16) (IOp.mv (Opd.t 90)) none, IOper.mk (some 17) (IOp.mv (Opd.t 91)) none, IOper.mk none (IOp.store 11 (Opd.t 18) (Opd.t 92)) none, IOper.mk (some 19) (IOp.mv (Opd.t 93)) none]).seq
                  ((IC.region
                        [IOper.mk (some 94) (IOp.mv (Opd.t 13)) none, IOper.mk (some 95) (IOp.mv (Opd.t 9)) none, IOper.mk (some 96) (IOp.bin .eql (Opd.t 94) (Opd.t 95)) none, IOper.mk (some 97) (IOp.mv (Opd.t 96)) none,
                          IOper.mk (some 98) (IOp.mv (Opd.t 19)) (some (some 97, true)), IOper.mk (some 99) (IOp.bin .eql (Opd.t 98) (Opd.c (KV.int .i64 (0)))) (some (some 97, true)),
                          IOper.mk (some 100) (IOp.pick (Opd.t 97) (Opd.t 99) (Opd.c (KV.bool false))) none, IOper.mk (some 101) (IOp.mv (Opd.t 100)) none, IOper.mk (some 102) (IOp.mv (Opd.t 17)) (some (some 101, true)),
                          IOper.mk (some 103) (IOp.mv (Opd.t 13)) (some (some 101, true)), IOper.mk (some 104) (IOp.bin .eql (Opd.t 102) (Opd.t 103)) (some (some 101, true)),
                          IOper.mk (some 105) (IOp.pick (Opd.t 101) (Opd.t 104) (Opd.c (KV.bool false))) none, IOper.mk (some 106) (IOp.mv (Opd.t 105)) none, IOper.mk (some 107) (IOp.mv (Opd.t 16)) (some (some 106, true)),
                          IOper.mk (some 108) (IOp.mv (Opd.t 12)) (some (some 106, true)), IOper.mk (some 109) (IOp.call 12 [Opd.t 107, Opd.t 108]) (some (some 106, true)),
                          IOper.mk (some 110) (IOp.pick (Opd.t 106) (Opd.t 109) (Opd.c (KV.bool false))) none, IOper.mk (some 111) (IOp.mv (Opd.t 110)) none, IOper.mk (some 112) (IOp.load (some 11) (Opd.t 14)) (some (some 111, true)),
                          IOper.mk (some 113) (IOp.load (some 11) (Opd.t 18)) (some (some 111, true)), IOper.mk (some 114) (IOp.call 13 [Opd.t 112, Opd.t 113]) (some (some 111, true)),
                          IOper.mk (some 115) (IOp.pick (Opd.t 111) (Opd.t 114) (Opd.c (KV.bool false))) none, IOper.mk (some 116) (IOp.mv (Opd.t 115)) none, IOper.mk (some 117) (IOp.call 9 []) (some (some 116, true)),
                          IOper.mk (some 118) (IOp.pick (Opd.t 116) (Opd.t 117) (Opd.c (KV.bool false))) none, IOper.mk (some 6) (IOp.mv (Opd.t 118)) none]).seq
                    IC.ret)))))))))
theorem spec3 {args : List AV} {h : List AO} {post : AV → List AO → Prop} (hb : AX Go.Proofs.Try.prog h.length c3 [] (aend h.length [RV.tmp 6] post) ⟨mkT 119 (argsT 0 args), h⟩) (hl : args.length ≤ 119 := by simp) : ASpec Go.Proofs.Try.prog 3 args h post :=
  aspec_T hmix Go.Proofs.Try.func3 rfl (by kernel_rfl) rfl rfl hl hb
def c4 : IC :=
  (IC.region [IOper.mk (some 2) (IOp.box 24 (Opd.t 0)) none, IOper.mk (some 4) (IOp.mv (Opd.c (KV.bool false))) none]).seq
  ((IC.region
        [IOper.mk (some 20) (IOp.load (some 3) (Opd.t 2)) none, IOper.mk (some 21) (IOp.call 8 [Opd.t 20]) none, IOper.mk (some 19) (IOp.mv (Opd.t 21)) none, IOper.mk (some 22) (IOp.ext (Opd.t 19) 0) none,
          IOper.mk (some 23) (IOp.ext (Opd.t 19) 1) none, IOper.mk (some 24) (IOp.ext (Opd.t 19) 2) none, IOper.mk (some 5) (IOp.mv (Opd.t 22)) none, IOper.mk (some 6) (IOp.mv (Opd.t 23)) none, IOper.mk (some 7) (IOp.mv (Opd.t 24)) none]).seq
    (((IC.region [IOper.mk (some 25) (IOp.mv (Opd.t 5)) none, IOper.mk (some 26) (IOp.len (Opd.t 25)) none, IOper.mk (some 27) (IOp.bin .eql (Opd.t 26) (Opd.c (KV.int .i64 (0)))) none]).seq
          (IC.cond (Opd.t 27) ((IC.region [IOper.mk (some 28) (IOp.call 9 []) none, IOper.mk (some 4) (IOp.mv (Opd.t 28)) none]).seq IC.ret) IC.skip)).seq
      ((IC.region [IOper.mk (some 29) (IOp.mv (Opd.t 6)) none, IOper.mk (some 8) (IOp.mv (Opd.t 29)) none]).seq
        ((IC.region [IOper.mk (some 9) (IOp.mv (Opd.c (KV.int .u32 (1)))) none]).seq
          ((IC.region [IOper.mk (some 30) (IOp.mv (Opd.t 5)) none, IOper.mk (some 31) (IOp.mv (Opd.t 8)) none, IOper.mk (some 32) (IOp.call 14 [Opd.t 30, Opd.t 31]) none, IOper.mk (some 10) (IOp.mv (Opd.t 32)) none]).seq
            (((IC.region [IOper.mk (some 11) (IOp.mv (Opd.c (KV.int .i64 (0)))) none]).seq
                  (IC.block 0
                    (((IC.region
                                [IOper.mk (some 33) (IOp.mv (Opd.t 11)) none, IOper.mk (some 34) (IOp.mv (Opd.t 1)) none, IOper.mk (some 35) (IOp.len (Opd.t 34)) none, IOper.mk (some 36) (IOp.bin .lss (Opd.t 33) (Opd.t 35)) none,
                                  IOper.mk (some 37) (IOp.mv (Opd.t 36)) none, IOper.mk (some 38) (IOp.mv (Opd.t 11)) (some (some 37, true)),
                                  IOper.mk (some 39) (IOp.bin .lss (Opd.t 38) (Opd.c (KV.int .i64 (60)))) (some (some 37, true)), IOper.mk (some 40) (IOp.pick (Opd.t 37) (Opd.t 39) (Opd.c (KV.bool false))) none]).seq
                            (IC.cond (Opd.t 40) IC.skip (IC.exit 0))).seq
                        ((IC.block 1
                              ((IC.region
                                    [IOper.mk (some 44) (IOp.mv (Opd.t 5)) none, IOper.mk (some 45) (IOp.mv (Opd.t 7)) none, IOper.mk (some 46) (IOp.mv (Opd.t 1)) none, IOper.mk (some 47) (IOp.mv (Opd.t 11)) none,
                                      IOper.mk (some 48) (IOp.iaddr 1 (Opd.t 46) (Opd.t 47)) none, IOper.mk (some 49) (IOp.load none (Opd.t 48)) none, IOper.mk (some 50) (IOp.conv .u64 (Opd.t 49)) none,
                                      IOper.mk (some 51) (IOp.mv (Opd.t 5)) none, IOper.mk (some 52) (IOp.len (Opd.t 51)) none, IOper.mk (some 53) (IOp.conv .u64 (Opd.t 52)) none,
                                      IOper.mk (some 54) (IOp.bin .rem (Opd.t 50) (Opd.t 53)) none, IOper.mk (some 55) (IOp.bin .add (Opd.c (KV.int .u64 (1))) (Opd.t 54)) none,
                                      IOper.mk (some 56) (IOp.call 10 [Opd.t 44, Opd.t 45, Opd.t 55]) none, IOper.mk (some 43) (IOp.mv (Opd.t 56)) none, IOper.mk (some 57) (IOp.ext (Opd.t 43) 0) none, IOper.mk (some 58) (IOp.ext (Opd.t 43) 1) none,
                                      IOper.mk (some 12)
                                        (IOp.alloc 32
                                          [KV.int .i64 (0), KV.int .u32 (0), KV.int .u32 (0), KV.int .u64 (0), KV.int .u64 (0), KV.int .u32 (0),
                                            KV.int .i64 (0), KV.bool false, KV.int .i64 (0), KV.nils, KV.nils])
                                        none,
                                      IOper.mk none (IOp.store 11 (Opd.t 12) (Opd.t 57)) none, IOper.mk (some 13) (IOp.mv (Opd.t 58)) none]).seq
                                (((IC.region [IOper.mk (some 59) (IOp.mv (Opd.t 13)) none, IOper.mk (some 60) (IOp.not (Opd.t 59)) none]).seq
                                      (IC.cond (Opd.t 60) ((IC.region [IOper.mk (some 4) (IOp.mv (Opd.c (KV.bool false))) none]).seq IC.ret) IC.skip)).seq
                                  ((IC.region
                                        [IOper.mk (some 62) (IOp.mv (Opd.t 8)) none, IOper.mk (some 63) (IOp.mv (Opd.t 9)) none, IOper.mk (some 64) (IOp.load (some 11) (Opd.t 12)) none,
                                          IOper.mk (some 65) (IOp.call 11 [Opd.t 62, Opd.t 63, Opd.t 64]) none, IOper.mk (some 61) (IOp.mv (Opd.t 65)) none, IOper.mk (some 66) (IOp.ext (Opd.t 61) 0) none,
                                          IOper.mk (some 67) (IOp.ext (Opd.t 61) 1) none, IOper.mk (some 68) (IOp.ext (Opd.t 61) 2) none, IOper.mk (some 69) (IOp.ext (Opd.t 61) 3) none,
                                          IOper.mk (some 16)
                                            (IOp.alloc 32
                                              [KV.int .i64 (0), KV.int .u32 (0), KV.int .u32 (0), KV.int .u64 (0), KV.int .u64 (0), KV.int .u32 (0),
                                                KV.int .i64 (0), KV.bool false, KV.int .i64 (0), KV.nils, KV.nils])
                                            none,
                                          IOper.mk (some 14) (IOp.mv (Opd.t 66)) none, IOper.mk (some 15) (IOp.mv (Opd.t 67)) none, IOper.mk none (IOp.store 11 (Opd.t 16) (Opd.t 68)) none, IOper.mk (some 17) (IOp.mv (Opd.t 69)) none]).seq
                                    (((IC.region [IOper.mk (some 70) (IOp.mv (Opd.t 17)) none, IOper.mk (some 71) (IOp.bin .neq (Opd.t 70) (Opd.c (KV.int .i64 (0)))) none]).seq
                                          (IC.cond (Opd.t 71) ((IC.region [IOper.mk (some 4) (IOp.mv (Opd.c (KV.bool false))) none]).seq IC.ret) IC.skip)).seq
                                      ((IC.region [IOper.mk (some 72) (IOp.mv (Opd.t 5)) none, IOper.mk (some 73) (IOp.mv (Opd.t 14)) none, IOper.mk (some 74) (IOp.call 14 [Opd.t 72, Opd.t 73]) none, IOper.mk (some 18) (IOp.mv (Opd.t 74)) none]).seq
                                        (((IC.region
                                                  [IOper.mk (some 75) (IOp.mv (Opd.t 18)) none, IOper.mk (some 76) (IOp.mv (Opd.t 10)) none, IOper.mk (some 77) (IOp.bin .lss (Opd.t 75) (Opd.t 76)) none,
                                                    IOper.mk (some 78) (IOp.mv (Opd.t 77)) none, IOper.mk (some 79) (IOp.faddr 0 (Opd.t 16)) (some (some 78, false)), IOper.mk (some 80) (IOp.load none (Opd.t 79)) (some (some 78, false)),
                                                    IOper.mk (some 81) (IOp.bin .eql (Opd.t 80) (Opd.c (KV.int .i64 (2)))) (some (some 78, false)), IOper.mk (some 82) (IOp.mv (Opd.t 81)) (some (some 78, false)),
                                                    IOper.mk (some 83) (IOp.faddr 3 (Opd.t 16)) (some (some 82, true)), IOper.mk (some 84) (IOp.load none (Opd.t 83)) (some (some 82, true)),
                                                    IOper.mk (some 85) (IOp.mv (Opd.t 18)) (some (some 82, true)), IOper.mk (some 86) (IOp.conv .u64 (Opd.t 85)) (some (some 82, true)),
                                                    IOper.mk (some 87) (IOp.bin .gtr (Opd.t 84) (Opd.t 86)) (some (some 82, true)), IOper.mk (some 88) (IOp.pick (Opd.t 82) (Opd.t 87) (Opd.c (KV.bool false))) (some (some 78, false)),
                                                    IOper.mk (some 89) (IOp.pick (Opd.t 78) (Opd.c (KV.bool true)) (Opd.t 88)) none, IOper.mk (some 90) (IOp.mv (Opd.t 89)) none, IOper.mk (some 91) (IOp.faddr 0 (Opd.t 16)) (some (some 90, false)),
                                                    IOper.mk (some 92) (IOp.load none (Opd.t 91)) (some (some 90, false)), IOper.mk (some 93) (IOp.bin .eql (Opd.t 92) (Opd.c (KV.int .i64 (3)))) (some (some 90, false)),
                                                    IOper.mk (some 94) (IOp.mv (Opd.t 93)) (some (some 90, false)), IOper.mk (some 95) (IOp.faddr 3 (Opd.t 16)) (some (some 94, true)),
                                                    IOper.mk (some 96) (IOp.load none (Opd.t 95)) (some (some 94, true)), IOper.mk (some 97) (IOp.faddr 3 (Opd.t 12)) (some (some 94, true)),
                                                    IOper.mk (some 98) (IOp.load none (Opd.t 97)) (some (some 94, true)), IOper.mk (some 99) (IOp.bin .geq (Opd.t 96) (Opd.t 98)) (some (some 94, true)),
                                                    IOper.mk (some 100) (IOp.pick (Opd.t 94) (Opd.t 99) (Opd.c (KV.bool false))) (some (some 90, false)), IOper.mk (some 101) (IOp.pick (Opd.t 90) (Opd.c (KV.bool true)) (Opd.t 100)) none]).seq
                                              (IC.cond (Opd.t 101) ((IC.region [IOper.mk (some 4) (IOp.mv (Opd.c (KV.bool false))) none]).seq IC.ret) IC.skip)).seq
                                          ((IC.region [IOper.mk (some 102) (IOp.mv (Opd.t 14)) none, IOper.mk (some 8) (IOp.mv (Opd.t 102)) none]).seq
                                            ((IC.region [IOper.mk (some 103) (IOp.mv (Opd.t 15)) none, IOper.mk (some 9) (IOp.mv (Opd.t 103)) none]).seq
                                              (IC.region [IOper.mk (some 104) (IOp.mv (Opd.t 18)) none, IOper.mk (some 10) (IOp.mv (Opd.t 104)) none])))))))))).seq
                          (IC.region [IOper.mk (some 41) (IOp.mv (Opd.t 11)) none, IOper.mk (some 42) (IOp.bin .add (Opd.t 41) (Opd.c (KV.int .i64 (1)))) none, IOper.mk (some 11) (IOp.mv (Opd.t 42)) none]))).loop)).seq
              ((IC.region [IOper.mk (some 105) (IOp.call 9 []) none, IOper.mk (some 4) (IOp.mv (Opd.t 105)) none]).seq IC.ret)))))))
theorem spec4 {args : List AV} {h : List AO} {post : AV → List AO → Prop} (hb : AX Go.Proofs.Try.prog h.length c4 [] (aend h.length [RV.tmp 4] post) ⟨mkT 106 (argsT 0 args), h⟩) (hl : args.length ≤ 106 := by simp) : ASpec Go.Proofs.Try.prog 4 args h post :=
  aspec_T hmix Go.Proofs.Try.func4 rfl (by kernel_rfl) rfl rfl hl hb
def c5 : IC :=
  (IC.region [IOper.mk (some 2) (IOp.box 24 (Opd.t 0)) none, IOper.mk (some 4) (IOp.mv (Opd.c (KV.bool false))) none]).seq
  ((IC.region
        [IOper.mk (some 25) (IOp.load (some 3) (Opd.t 2)) none, IOper.mk (some 26) (IOp.call 8 [Opd.t 25]) none, IOper.mk (some 24) (IOp.mv (Opd.t 26)) none, IOper.mk (some 27) (IOp.ext (Opd.t 24) 0) none,
          IOper.mk (some 28) (IOp.ext (Opd.t 24) 1) none, IOper.mk (some 29) (IOp.ext (Opd.t 24) 2) none, IOper.mk (some 5) (IOp.mv (Opd.t 27)) none, IOper.mk (some 6) (IOp.mv (Opd.t 28)) none, IOper.mk (some 7) (IOp.mv (Opd.t 29)) none]).seq
    (((IC.region [IOper.mk (some 30) (IOp.mv (Opd.t 5)) none, IOper.mk (some 31) (IOp.len (Opd.t 30)) none, IOper.mk (some 32) (IOp.bin .lss (Opd.t 31) (Opd.c (KV.int .i64 (2)))) none]).seq
          (IC.cond (Opd.t 32) ((IC.region [IOper.mk (some 33) (IOp.call 9 []) none, IOper.mk (some 4) (IOp.mv (Opd.t 33)) none]).seq IC.ret) IC.skip)).seq
      ((IC.region
            [IOper.mk (some 34) (IOp.mv (Opd.t 1)) none, IOper.mk (some 35) (IOp.conv .u64 (Opd.t 34)) none, IOper.mk (some 36) (IOp.mv (Opd.t 5)) none, IOper.mk (some 37) (IOp.len (Opd.t 36)) none,
              IOper.mk (some 38) (IOp.bin .sub (Opd.t 37) (Opd.c (KV.int .i64 (1)))) none, IOper.mk (some 39) (IOp.conv .u64 (Opd.t 38)) none, IOper.mk (some 40) (IOp.bin .rem (Opd.t 35) (Opd.t 39)) none,
              IOper.mk (some 41) (IOp.conv .i64 (Opd.t 40)) none, IOper.mk (some 42) (IOp.bin .add (Opd.c (KV.int .i64 (1))) (Opd.t 41)) none, IOper.mk (some 8) (IOp.mv (Opd.t 42)) none]).seq
        ((IC.region
              [IOper.mk (some 43) (IOp.mv (Opd.t 5)) none, IOper.mk (some 44) (IOp.mv (Opd.t 8)) none, IOper.mk (some 45) (IOp.bin .sub (Opd.t 44) (Opd.c (KV.int .i64 (1)))) none, IOper.mk (some 46) (IOp.mv (Opd.t 8)) none,
                IOper.mk (some 47) (IOp.slice 11 (Opd.t 43) (some (Opd.t 45)) (some (Opd.t 46))) none, IOper.mk (some 9) (IOp.mv (Opd.t 47)) none]).seq
          ((IC.region
                [IOper.mk (some 48) (IOp.mv (Opd.t 8)) none, IOper.mk (some 49) (IOp.bin .add (Opd.t 48) (Opd.c (KV.int .i64 (1)))) none, IOper.mk (some 50) (IOp.conv .u64 (Opd.t 49)) none,
                  IOper.mk (some 10) (IOp.mv (Opd.t 50)) none]).seq
            (((IC.region [IOper.mk (some 11) (IOp.mv (Opd.c (KV.int .i64 (0)))) none]).seq
                  (IC.block 0
                    (((IC.region
                                [IOper.mk (some 51) (IOp.mv (Opd.t 11)) none, IOper.mk (some 52) (IOp.mv (Opd.t 5)) none, IOper.mk (some 53) (IOp.len (Opd.t 52)) none,
                                  IOper.mk (some 54) (IOp.bin .mul (Opd.c (KV.int .i64 (2))) (Opd.t 53)) none, IOper.mk (some 55) (IOp.bin .lss (Opd.t 51) (Opd.t 54)) none]).seq
                            (IC.cond (Opd.t 55) IC.skip (IC.exit 0))).seq
                        ((IC.block 1
                              ((IC.region
                                    [IOper.mk (some 59) (IOp.mv (Opd.t 5)) none, IOper.mk (some 60) (IOp.mv (Opd.t 7)) none, IOper.mk (some 61) (IOp.mv (Opd.t 10)) none, IOper.mk (some 62) (IOp.call 10 [Opd.t 59, Opd.t 60, Opd.t 61]) none,
                                      IOper.mk (some 58) (IOp.mv (Opd.t 62)) none, IOper.mk (some 63) (IOp.ext (Opd.t 58) 0) none, IOper.mk (some 64) (IOp.ext (Opd.t 58) 1) none,
                                      IOper.mk (some 12)
                                        (IOp.alloc 32
                                          [KV.int .i64 (0), KV.int .u32 (0), KV.int .u32 (0), KV.int .u64 (0), KV.int .u64 (0), KV.int .u32 (0),
                                            KV.int .i64 (0), KV.bool false, KV.int .i64 (0), KV.nils, KV.nils])
                                        none,
                                      IOper.mk none (IOp.store 11 (Opd.t 12) (Opd.t 63)) none, IOper.mk (some 13) (IOp.mv (Opd.t 64)) none]).seq
                                (((IC.region [IOper.mk (some 65) (IOp.mv (Opd.t 13)) none, IOper.mk (some 66) (IOp.not (Opd.t 65)) none]).seq (IC.cond (Opd.t 66) (IC.exit 0) IC.skip)).seq
                                  ((IC.region
                                        [IOper.mk (some 68) (IOp.mv (Opd.t 9)) none, IOper.mk (some 69) (IOp.load (some 11) (Opd.t 12)) none, IOper.mk (some 70) (IOp.call 11 [Opd.t 68, Opd.c (KV.int .u32 (1)), Opd.t 69]) none,
                                          IOper.mk (some 67) (IOp.mv (Opd.t 70)) none, IOper.mk (some 71) (IOp.ext (Opd.t 67) 0) none, IOper.mk (some 72) (IOp.ext (Opd.t 67) 1) none, IOper.mk (some 73) (IOp.ext (Opd.t 67) 2) none,
                                          IOper.mk (some 74) (IOp.ext (Opd.t 67) 3) none,
                                          IOper.mk (some 16)
                                            (IOp.alloc 32
                                              [KV.int .i64 (0), KV.int .u32 (0), KV.int .u32 (0), KV.int .u64 (0), KV.int .u64 (0), KV.int .u32 (0),
                                                KV.int .i64 (0), KV.bool false, KV.int .i64 (0), KV.nils, KV.nils])
                                            none,
                                          IOper.mk (some 14) (IOp.mv (Opd.t 71)) none, IOper.mk (some 15) (IOp.mv (Opd.t 72)) none, IOper.mk none (IOp.store 11 (Opd.t 16) (Opd.t 73)) none, IOper.mk (some 17) (IOp.mv (Opd.t 74)) none]).seq
                                    (((IC.region
                                              [IOper.mk (some 75) (IOp.mv (Opd.t 17)) none, IOper.mk (some 76) (IOp.bin .neq (Opd.t 75) (Opd.c (KV.int .i64 (0)))) none, IOper.mk (some 77) (IOp.mv (Opd.t 76)) none,
                                                IOper.mk (some 78) (IOp.faddr 0 (Opd.t 16)) (some (some 77, false)), IOper.mk (some 79) (IOp.load none (Opd.t 78)) (some (some 77, false)),
                                                IOper.mk (some 80) (IOp.bin .neq (Opd.t 79) (Opd.c (KV.int .i64 (2)))) (some (some 77, false)),
                                                IOper.mk (some 81) (IOp.pick (Opd.t 77) (Opd.c (KV.bool true)) (Opd.t 80)) none]).seq
                                          (IC.cond (Opd.t 81) ((IC.region [IOper.mk (some 4) (IOp.mv (Opd.c (KV.bool false))) none]).seq IC.ret) IC.skip)).seq
                                      ((IC.region [IOper.mk (some 82) (IOp.mv (Opd.t 14)) none, IOper.mk (some 9) (IOp.mv (Opd.t 82)) none]).seq
                                        (IC.region
                                          [IOper.mk (some 83) (IOp.mv (Opd.t 10)) none, IOper.mk (some 84) (IOp.load (some 11) (Opd.t 16)) none, IOper.mk (some 85) (IOp.call 15 [Opd.t 83, Opd.t 84]) none,
                                            IOper.mk (some 10) (IOp.mv (Opd.t 85)) none]))))))).seq
                          (IC.region [IOper.mk (some 56) (IOp.mv (Opd.t 11)) none, IOper.mk (some 57) (IOp.bin .add (Opd.t 56) (Opd.c (KV.int .i64 (1)))) none, IOper.mk (some 11) (IOp.mv (Opd.t 57)) none]))).loop)).seq
              ((IC.region
                    [IOper.mk (some 87) (IOp.mv (Opd.t 5)) none, IOper.mk (some 88) (IOp.mv (Opd.t 7)) none, IOper.mk (some 89) (IOp.call 10 [Opd.t 87, Opd.t 88, Opd.c (KV.int .u64 (1))]) none,
                      IOper.mk (some 86) (IOp.mv (Opd.t 89)) none, IOper.mk (some 90) (IOp.ext (Opd.t 86) 0) none, IOper.mk (some 91) (IOp.ext (Opd.t 86) 1) none,
                      IOper.mk (some 18)
                        (IOp.alloc 32
                          [KV.int .i64 (0), KV.int .u32 (0), KV.int .u32 (0), KV.int .u64 (0), KV.int .u64 (0), KV.int .u32 (0),
                            KV.int .i64 (0), KV.bool false, KV.int .i64 (0), KV.nils, KV.nils])
                        none,
                      IOper.mk none (IOp.store 11 (Opd.t 18) (Opd.t 90)) none, IOper.mk (some 19) (IOp.mv (Opd.t 91)) none]).seq
                ((IC.region
                      [IOper.mk (some 93) (IOp.mv (Opd.t 9)) none, IOper.mk (some 94) (IOp.load (some 11) (Opd.t 18)) none, IOper.mk (some 95) (IOp.call 11 [Opd.t 93, Opd.c (KV.int .u32 (1)), Opd.t 94]) none,
                        IOper.mk (some 92) (IOp.mv (Opd.t 95)) none, IOper.mk (some 96) (IOp.ext (Opd.t 92) 0) none, IOper.mk (some 97) (IOp.ext (Opd.t 92) 1) none, IOper.mk (some 98) (IOp.ext (Opd.t 92) 2) none,
                        IOper.mk (some 99) (IOp.ext (Opd.t 92) 3) none,
                        IOper.mk (some 22)
                          (IOp.alloc 32
                            [KV.int .i64 (0), KV.int .u32 (0), KV.int .u32 (0), KV.int .u64 (0), KV.int .u64 (0), KV.int .u32 (0),
                              KV.int .i64 (0), KV.bool false, KV.int .i64 (0), KV.nils, KV.nils])
                          none,
                        IOper.mk (some 20) (IOp.mv (Opd.t 96)) none, IOper.mk (some 21) (IOp.mv (Opd.t 97)) none, IOper.mk none (IOp.store 11 (Opd.t 22) (Opd.t 98)) none, IOper.mk (some 23) (IOp.mv (Opd.t 99)) none]).seq
                  (((IC.region
                            [IOper.mk (some 100) (IOp.mv (Opd.t 19)) none, IOper.mk (some 101) (IOp.not (Opd.t 100)) none, IOper.mk (some 102) (IOp.mv (Opd.t 101)) none, IOper.mk (some 103) (IOp.mv (Opd.t 23)) (some (some 102, false)),
                              IOper.mk (some 104) (IOp.bin .neq (Opd.t 103) (Opd.c (KV.int .i64 (0)))) (some (some 102, false)), IOper.mk (some 105) (IOp.pick (Opd.t 102) (Opd.c (KV.bool true)) (Opd.t 104)) none,
                              IOper.mk (some 106) (IOp.mv (Opd.t 105)) none, IOper.mk (some 107) (IOp.mv (Opd.t 20)) (some (some 106, false)), IOper.mk (some 108) (IOp.mv (Opd.t 9)) (some (some 106, false)),
                              IOper.mk (some 109) (IOp.call 12 [Opd.t 107, Opd.t 108]) (some (some 106, false)), IOper.mk (some 110) (IOp.not (Opd.t 109)) (some (some 106, false)),
                              IOper.mk (some 111) (IOp.pick (Opd.t 106) (Opd.c (KV.bool true)) (Opd.t 110)) none]).seq
                        (IC.cond (Opd.t 111) ((IC.region [IOper.mk (some 4) (IOp.mv (Opd.c (KV.bool false))) none]).seq IC.ret) IC.skip)).seq
                    ((IC.region
                          [IOper.mk (some 112) (IOp.mv (Opd.t 9)) none, IOper.mk (some 113) (IOp.mv (Opd.t 5)) none, IOper.mk (some 114) (IOp.mv (Opd.t 8)) none,
                            IOper.mk (some 115) (IOp.bin .sub (Opd.t 114) (Opd.c (KV.int .i64 (1)))) none, IOper.mk (some 116) (IOp.slice 11 (Opd.t 113) (some (Opd.t 115)) none) none,
                            IOper.mk (some 117) (IOp.call 12 [Opd.t 112, Opd.t 116]) none, IOper.mk (some 118) (IOp.mv (Opd.t 117)) none, IOper.mk (some 119) (IOp.faddr 0 (Opd.t 22)) (some (some 118, true)),
                            IOper.mk (some 120) (IOp.load none (Opd.t 119)) (some (some 118, true)), IOper.mk (some 121) (IOp.bin .eql (Opd.t 120) (Opd.c (KV.int .i64 (2)))) (some (some 118, true)),
                            IOper.mk (some 122) (IOp.pick (Opd.t 118) (Opd.t 121) (Opd.c (KV.bool false))) none, IOper.mk (some 123) (IOp.mv (Opd.t 122)) none, IOper.mk (some 124) (IOp.call 9 []) (some (some 123, true)),
                            IOper.mk (some 125) (IOp.pick (Opd.t 123) (Opd.t 124) (Opd.c (KV.bool false))) none, IOper.mk (some 4) (IOp.mv (Opd.t 125)) none]).seq
                      IC.ret))))))))))
theorem spec5 {args : List AV} {h : List AO} {post : AV → List AO → Prop} (hb : AX Go.Proofs.Try.prog h.length c5 [] (aend h.length [RV.tmp 4] post) ⟨mkT 126 (argsT 0 args), h⟩) (hl : args.length ≤ 126 := by simp) : ASpec Go.Proofs.Try.prog 5 args h post :=
  aspec_T hmix Go.Proofs.Try.func5 rfl (by kernel_rfl) rfl rfl hl hb
end
end Go.AM.S
