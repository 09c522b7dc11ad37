/- A part of the proof: lemmas. -/
import Derived.Test.YtdoekadmocabdaaAM17
import Derived.Test.YtdoekadmocabdaaProg
set_option linter.unusedVariables false
set_option maxHeartbeats 0
set_option maxRecDepth 100000
namespace Go.AM.S
open Go Go.AM
noncomputable section
theorem hmix : Go.Proofs.Try.prog.follows .mixedOrders = true := by kernel_rfl
def c66 : IC :=
  (IC.region [IOper.mk (some 0) (IOp.mv (Opd.c KV.nilp)) none]).seq ((IC.region [IOper.mk (some 1) (IOp.build [KV.nils, KV.bool false] []) none, IOper.mk (some 2) (IOp.box 174 (Opd.t 1)) none, IOper.mk (some 0) (IOp.mv (Opd.t 2)) none]).seq IC.ret)
theorem spec66 {args : List AV} {h : List AO} {post : AV → List AO → Prop} (hb : AX Go.Proofs.Try.prog h.length c66 [] (aend h.length [RV.tmp 0] post) ⟨mkT 3 (argsT 0 args), h⟩) (hl : args.length ≤ 3 := by simp) : ASpec Go.Proofs.Try.prog 66 args h post :=
  aspec_T hmix Go.Proofs.Try.func66 rfl (by kernel_rfl) rfl rfl hl hb
def c87 : IC :=
  (IC.region [IOper.mk (some 6) (IOp.mv (Opd.c KV.nilp)) none]).seq
  (((IC.region [IOper.mk (some 8) (IOp.mv (Opd.t 0)) none, IOper.mk (some 9) (IOp.eqp false (Opd.t 8) (Opd.c KV.nilp)) none]).seq (IC.cond (Opd.t 9) ((IC.region [IOper.mk (some 6) (IOp.mv (Opd.c KV.nilp)) none]).seq IC.ret) IC.skip)).seq
    (((IC.region [IOper.mk (some 10) (IOp.mv (Opd.t 2)) none, IOper.mk (some 11) (IOp.mv (Opd.c (KV.int .i64 (0)))) none]).seq
          (IC.block 0
            ((IC.region [IOper.mk (some 12) (IOp.bin .lss (Opd.t 11) (Opd.t 10)) none]).seq
                ((IC.cond (Opd.t 12) IC.skip (IC.exit 0)).seq
                  ((IC.block 1
                        ((IC.region [IOper.mk (some 13) (IOp.mv (Opd.t 11)) none, IOper.mk (some 7) (IOp.mv (Opd.t 13)) none]).seq
                          (IC.draw
                            [IOper.mk (some 14) (IOp.mv (Opd.t 0)) none, IOper.mk (some 15) (IOp.mv (Opd.t 0)) none, IOper.mk (some 16) (IOp.nilck (Opd.t 15)) none, IOper.mk (some 17) (IOp.faddr 0 (Opd.t 16)) none,
                              IOper.mk (some 18) (IOp.load none (Opd.t 17)) none, IOper.mk (some 19) (IOp.mv (Opd.t 1)) none, IOper.mk (some 20) (IOp.mv (Opd.t 2)) none,
                              IOper.mk (some 21) (IOp.bin .sub (Opd.t 20) (Opd.c (KV.int .i64 (1)))) none, IOper.mk (some 22) (IOp.mv (Opd.t 7)) none, IOper.mk (some 23) (IOp.bin .sub (Opd.t 21) (Opd.t 22)) none,
                              IOper.mk (some 24) (IOp.bin .mul (Opd.c (KV.int .i64 (8))) (Opd.t 23)) none, IOper.mk (some 25) (IOp.bin .shr (Opd.t 19) (Opd.t 24)) none,
                              IOper.mk (some 26) (IOp.conv .u8 (Opd.t 25)) none, IOper.mk (some 27) (IOp.bslice 5 1 1 [KV.int .u8 (0)] [(0, 1, Opd.t 26)]) none, IOper.mk (some 28) (IOp.append 5 1 1 (Opd.t 18) (Opd.t 27)) none,
                              IOper.mk (some 29) (IOp.nilck (Opd.t 14)) none, IOper.mk (some 30) (IOp.faddr 0 (Opd.t 29)) none, IOper.mk none (IOp.store 1 (Opd.t 30) (Opd.t 28)) none]
                            [(0, true), (1, true), (2, true), (3, true), (4, true), (5, true), (6, true), (7, true), (8, true), (9, true), (10, true), (11, true), (12, true), (13, false), (14, false), (15, true), (16, true), (17, false)] [0]
                            [14, 17]))).seq
                    (IC.region [IOper.mk (some 31) (IOp.bin .add (Opd.t 11) (Opd.c (KV.int .i64 (1)))) none, IOper.mk (some 11) (IOp.mv (Opd.t 31)) none])))).loop)).seq
      ((IC.region [IOper.mk (some 32) (IOp.mv (Opd.t 0)) none, IOper.mk (some 6) (IOp.mv (Opd.t 32)) none]).seq IC.ret)))
theorem spec87 {args : List AV} {h : List AO} {post : AV → List AO → Prop} (hb : AX Go.Proofs.Try.prog h.length c87 [] (aend h.length [RV.tmp 6] post) ⟨mkT 33 (argsT 0 args), h⟩) (hl : args.length ≤ 33 := by simp) : ASpec Go.Proofs.Try.prog 87 args h post :=
  aspec_T hmix Go.Proofs.Try.func87 rfl (by kernel_rfl) rfl rfl hl hb
def c67 : IC :=
  (IC.region [IOper.mk (some 4) (IOp.mv (Opd.c KV.nilp)) none]).seq
  ((IC.region
        [IOper.mk (some 5) (IOp.mv (Opd.t 0)) none, IOper.mk (some 6) (IOp.mv (Opd.t 1)) none, IOper.mk (some 7) (IOp.conv .u64 (Opd.t 6)) none, IOper.mk (some 8) (IOp.call 87 [Opd.t 5, Opd.t 7, Opd.c (KV.int .i64 (1))]) none,
          IOper.mk (some 4) (IOp.mv (Opd.t 8)) none]).seq
    IC.ret)
theorem spec67 {args : List AV} {h : List AO} {post : AV → List AO → Prop} (hb : AX Go.Proofs.Try.prog h.length c67 [] (aend h.length [RV.tmp 4] post) ⟨mkT 9 (argsT 0 args), h⟩) (hl : args.length ≤ 9 := by simp) : ASpec Go.Proofs.Try.prog 67 args h post :=
  aspec_T hmix Go.Proofs.Try.func67 rfl (by kernel_rfl) rfl rfl hl hb
def c68 : IC :=
  (IC.region [IOper.mk (some 4) (IOp.mv (Opd.c KV.nilp)) none]).seq
  ((IC.region [IOper.mk (some 5) (IOp.mv (Opd.t 0)) none, IOper.mk (some 6) (IOp.mv (Opd.t 1)) none, IOper.mk (some 7) (IOp.call 87 [Opd.t 5, Opd.t 6, Opd.c (KV.int .i64 (8))]) none, IOper.mk (some 4) (IOp.mv (Opd.t 7)) none]).seq
    IC.ret)
theorem spec68 {args : List AV} {h : List AO} {post : AV → List AO → Prop} (hb : AX Go.Proofs.Try.prog h.length c68 [] (aend h.length [RV.tmp 4] post) ⟨mkT 8 (argsT 0 args), h⟩) (hl : args.length ≤ 8 := by simp) : ASpec Go.Proofs.Try.prog 68 args h post :=
  aspec_T hmix Go.Proofs.Try.func68 rfl (by kernel_rfl) rfl rfl hl hb
def c69 : IC :=
  (IC.region [IOper.mk (some 4) (IOp.mv (Opd.c KV.nilp)) none]).seq
  ((IC.region
        [IOper.mk (some 5) (IOp.mv (Opd.t 0)) none, IOper.mk (some 6) (IOp.mv (Opd.t 1)) none, IOper.mk (some 7) (IOp.conv .u64 (Opd.t 6)) none, IOper.mk (some 8) (IOp.call 87 [Opd.t 5, Opd.t 7, Opd.c (KV.int .i64 (4))]) none,
          IOper.mk (some 4) (IOp.mv (Opd.t 8)) none]).seq
    IC.ret)
theorem spec69 {args : List AV} {h : List AO} {post : AV → List AO → Prop} (hb : AX Go.Proofs.Try.prog h.length c69 [] (aend h.length [RV.tmp 4] post) ⟨mkT 9 (argsT 0 args), h⟩) (hl : args.length ≤ 9 := by simp) : ASpec Go.Proofs.Try.prog 69 args h post :=
  aspec_T hmix Go.Proofs.Try.func69 rfl (by kernel_rfl) rfl rfl hl hb
def c70 : IC :=
  (IC.region [IOper.mk (some 4) (IOp.mv (Opd.c KV.nilp)) none]).seq
  ((IC.block 0
        ((IC.region [IOper.mk (some 6) (IOp.mv (Opd.t 0)) none, IOper.mk (some 7) (IOp.eqp false (Opd.t 6) (Opd.c KV.nilp)) none, IOper.mk (some 5) (IOp.mv (Opd.t 7)) none]).seq
          (IC.cond (Opd.t 5) ((IC.region [IOper.mk (some 4) (IOp.mv (Opd.c KV.nilp)) none]).seq IC.ret)
            ((IC.region
                  [IOper.mk (some 9) (IOp.mv (Opd.t 1)) none, IOper.mk (some 10) (IOp.len (Opd.t 9)) none, IOper.mk (some 11) (IOp.bin .gtr (Opd.t 10) (Opd.c (KV.int .i64 (255)))) none,
                    IOper.mk (some 8) (IOp.mv (Opd.t 11)) none]).seq
              (IC.cond (Opd.t 8)
                ((IC.region [IOper.mk (some 12) (IOp.mv (Opd.t 0)) none, IOper.mk (some 13) (IOp.nilck (Opd.t 12)) none, IOper.mk (some 14) (IOp.faddr 1 (Opd.t 13)) none, IOper.mk none (IOp.store 1 (Opd.t 14) (Opd.c (KV.bool true))) none]).seq
                  ((IC.region [IOper.mk (some 15) (IOp.mv (Opd.t 0)) none, IOper.mk (some 4) (IOp.mv (Opd.t 15)) none]).seq IC.ret))
                IC.skip))))).seq
    ((IC.region
          [IOper.mk (some 16) (IOp.mv (Opd.t 0)) none, IOper.mk (some 17) (IOp.mv (Opd.t 1)) none, IOper.mk (some 18) (IOp.len (Opd.t 17)) none, IOper.mk (some 19) (IOp.conv .u8 (Opd.t 18)) none,
            IOper.mk (some 20) (IOp.call 67 [Opd.t 16, Opd.t 19]) none]).seq
      ((IC.region
            [IOper.mk (some 21) (IOp.mv (Opd.t 0)) none, IOper.mk (some 22) (IOp.mv (Opd.t 0)) none, IOper.mk (some 23) (IOp.nilck (Opd.t 22)) none, IOper.mk (some 24) (IOp.faddr 0 (Opd.t 23)) none, IOper.mk (some 25) (IOp.load none (Opd.t 24)) none,
              IOper.mk (some 26) (IOp.mv (Opd.t 1)) none, IOper.mk (some 27) (IOp.append 5 1 1 (Opd.t 25) (Opd.t 26)) none, IOper.mk (some 28) (IOp.nilck (Opd.t 21)) none, IOper.mk (some 29) (IOp.faddr 0 (Opd.t 28)) none,
              IOper.mk none (IOp.store 1 (Opd.t 29) (Opd.t 27)) none]).seq
        ((IC.region [IOper.mk (some 30) (IOp.mv (Opd.t 0)) none, IOper.mk (some 4) (IOp.mv (Opd.t 30)) none]).seq IC.ret))))
theorem spec70 {args : List AV} {h : List AO} {post : AV → List AO → Prop} (hb : AX Go.Proofs.Try.prog h.length c70 [] (aend h.length [RV.tmp 4] post) ⟨mkT 31 (argsT 0 args), h⟩) (hl : args.length ≤ 31 := by simp) : ASpec Go.Proofs.Try.prog 70 args h post :=
  aspec_T hmix Go.Proofs.Try.func70 rfl (by kernel_rfl) rfl rfl hl hb
def c72 : IC :=
  (IC.region [IOper.mk (some 2) (IOp.mv (Opd.c KV.nils)) none, IOper.mk (some 3) (IOp.mv (Opd.c (KV.int .i64 (0)))) none]).seq
  ((IC.block 0
        ((IC.region [IOper.mk (some 5) (IOp.mv (Opd.t 0)) none, IOper.mk (some 6) (IOp.eqp false (Opd.t 5) (Opd.c KV.nilp)) none, IOper.mk (some 4) (IOp.mv (Opd.t 6)) none]).seq
          (IC.cond (Opd.t 4) ((IC.region [IOper.mk (some 2) (IOp.mv (Opd.c KV.nils)) none, IOper.mk (some 3) (IOp.mv (Opd.c (KV.int .i64 (1)))) none]).seq IC.ret)
            ((IC.region
                  [IOper.mk (some 8) (IOp.mv (Opd.t 0)) none, IOper.mk (some 9) (IOp.nilck (Opd.t 8)) none, IOper.mk (some 10) (IOp.faddr 1 (Opd.t 9)) none, IOper.mk (some 11) (IOp.load none (Opd.t 10)) none,
                    IOper.mk (some 7) (IOp.mv (Opd.t 11)) none]).seq
              (IC.cond (Opd.t 7) ((IC.region [IOper.mk (some 2) (IOp.mv (Opd.c KV.nils)) none, IOper.mk (some 3) (IOp.mv (Opd.c (KV.int .i64 (3)))) none]).seq IC.ret) IC.skip))))).seq
    ((IC.region
          [IOper.mk (some 12) (IOp.bslice 5 1 0 [KV.int .u8 (0)] []) none, IOper.mk (some 13) (IOp.mv (Opd.t 0)) none, IOper.mk (some 14) (IOp.nilck (Opd.t 13)) none, IOper.mk (some 15) (IOp.faddr 0 (Opd.t 14)) none,
            IOper.mk (some 16) (IOp.load none (Opd.t 15)) none, IOper.mk (some 17) (IOp.append 5 1 1 (Opd.t 12) (Opd.t 16)) none, IOper.mk (some 2) (IOp.mv (Opd.t 17)) none,
            IOper.mk (some 3) (IOp.mv (Opd.c (KV.int .i64 (0)))) none]).seq
      IC.ret))
theorem spec72 {args : List AV} {h : List AO} {post : AV → List AO → Prop} (hb : AX Go.Proofs.Try.prog h.length c72 [] (aend h.length [RV.tmp 2, RV.tmp 3] post) ⟨mkT 18 (argsT 0 args), h⟩) (hl : args.length ≤ 18 := by simp) : ASpec Go.Proofs.Try.prog 72 args h post :=
  aspec_T hmix Go.Proofs.Try.func72 rfl (by kernel_rfl) rfl rfl hl hb
def c88 : IC :=
  (IC.region [IOper.mk (some 2) (IOp.mv (Opd.c KV.nilp)) none]).seq
  ((IC.region
        [IOper.mk (some 3) (IOp.bslice 5 1 0 [KV.int .u8 (0)] []) none, IOper.mk (some 4) (IOp.mv (Opd.t 0)) none, IOper.mk (some 5) (IOp.append 5 1 1 (Opd.t 3) (Opd.t 4)) none,
          IOper.mk (some 6) (IOp.build [KV.nils, KV.bool false] [(0, 1, Opd.t 5)]) none, IOper.mk (some 7) (IOp.box 187 (Opd.t 6)) none, IOper.mk (some 2) (IOp.mv (Opd.t 7)) none]).seq
    IC.ret)
theorem spec88 {args : List AV} {h : List AO} {post : AV → List AO → Prop} (hb : AX Go.Proofs.Try.prog h.length c88 [] (aend h.length [RV.tmp 2] post) ⟨mkT 8 (argsT 0 args), h⟩) (hl : args.length ≤ 8 := by simp) : ASpec Go.Proofs.Try.prog 88 args h post :=
  aspec_T hmix Go.Proofs.Try.func88 rfl (by kernel_rfl) rfl rfl hl hb
def c101 : IC :=
  (IC.region [IOper.mk (some 4) (IOp.mv (Opd.c KV.nils)) none]).seq
  (((IC.region [IOper.mk (some 6) (IOp.mv (Opd.t 0)) none, IOper.mk (some 7) (IOp.eqp false (Opd.t 6) (Opd.c KV.nilp)) none]).seq (IC.cond (Opd.t 7) ((IC.region [IOper.mk (some 4) (IOp.mv (Opd.c KV.nils)) none]).seq IC.ret) IC.skip)).seq
    (((IC.region
              [IOper.mk (some 8) (IOp.mv (Opd.t 0)) none, IOper.mk (some 9) (IOp.mv (Opd.t 0)) none, IOper.mk (some 10) (IOp.nilck (Opd.t 9)) none, IOper.mk (some 11) (IOp.faddr 1 (Opd.t 10)) none, IOper.mk (some 12) (IOp.load none (Opd.t 11)) none,
                IOper.mk (some 13) (IOp.mv (Opd.t 12)) none, IOper.mk (some 14) (IOp.mv (Opd.t 0)) (some (some 13, false)), IOper.mk (some 15) (IOp.nilck (Opd.t 14)) (some (some 13, false)),
                IOper.mk (some 16) (IOp.faddr 0 (Opd.t 15)) (some (some 13, false)), IOper.mk (some 17) (IOp.load none (Opd.t 16)) (some (some 13, false)), IOper.mk (some 18) (IOp.len (Opd.t 17)) (some (some 13, false)),
                IOper.mk (some 19) (IOp.mv (Opd.t 1)) (some (some 13, false)), IOper.mk (some 20) (IOp.bin .lss (Opd.t 18) (Opd.t 19)) (some (some 13, false)), IOper.mk (some 21) (IOp.pick (Opd.t 13) (Opd.c (KV.bool true)) (Opd.t 20)) none,
                IOper.mk (some 22) (IOp.nilck (Opd.t 8)) none, IOper.mk (some 23) (IOp.faddr 1 (Opd.t 22)) none, IOper.mk none (IOp.store 1 (Opd.t 23) (Opd.t 21)) none]).seq
          ((IC.region [IOper.mk (some 24) (IOp.mv (Opd.t 0)) none, IOper.mk (some 25) (IOp.nilck (Opd.t 24)) none, IOper.mk (some 26) (IOp.faddr 1 (Opd.t 25)) none, IOper.mk (some 27) (IOp.load none (Opd.t 26)) none]).seq
            (IC.cond (Opd.t 27) ((IC.region [IOper.mk (some 4) (IOp.mv (Opd.c KV.nils)) none]).seq IC.ret) IC.skip))).seq
      ((IC.region
            [IOper.mk (some 28) (IOp.mv (Opd.t 0)) none, IOper.mk (some 29) (IOp.nilck (Opd.t 28)) none, IOper.mk (some 30) (IOp.faddr 0 (Opd.t 29)) none, IOper.mk (some 31) (IOp.load none (Opd.t 30)) none, IOper.mk (some 32) (IOp.mv (Opd.t 1)) none,
              IOper.mk (some 33) (IOp.slice 1 (Opd.t 31) none (some (Opd.t 32))) none, IOper.mk (some 5) (IOp.mv (Opd.t 33)) none]).seq
        ((IC.region
              [IOper.mk (some 34) (IOp.mv (Opd.t 0)) none, IOper.mk (some 35) (IOp.mv (Opd.t 0)) none, IOper.mk (some 36) (IOp.nilck (Opd.t 35)) none, IOper.mk (some 37) (IOp.faddr 0 (Opd.t 36)) none,
                IOper.mk (some 38) (IOp.load none (Opd.t 37)) none, IOper.mk (some 39) (IOp.mv (Opd.t 1)) none, IOper.mk (some 40) (IOp.slice 1 (Opd.t 38) (some (Opd.t 39)) none) none, IOper.mk (some 41) (IOp.nilck (Opd.t 34)) none,
                IOper.mk (some 42) (IOp.faddr 0 (Opd.t 41)) none, IOper.mk none (IOp.store 1 (Opd.t 42) (Opd.t 40)) none]).seq
          ((IC.region [IOper.mk (some 43) (IOp.mv (Opd.t 5)) none, IOper.mk (some 4) (IOp.mv (Opd.t 43)) none]).seq IC.ret)))))
theorem spec101 {args : List AV} {h : List AO} {post : AV → List AO → Prop} (hb : AX Go.Proofs.Try.prog h.length c101 [] (aend h.length [RV.tmp 4] post) ⟨mkT 44 (argsT 0 args), h⟩) (hl : args.length ≤ 44 := by simp) : ASpec Go.Proofs.Try.prog 101 args h post :=
  aspec_T hmix Go.Proofs.Try.func101 rfl (by kernel_rfl) rfl rfl hl hb
def c100 : IC :=
  (IC.region [IOper.mk (some 4) (IOp.mv (Opd.c (KV.int .u64 (0)))) none]).seq
  ((IC.region [IOper.mk (some 5) (IOp.mv (Opd.c (KV.int .u64 (0)))) none]).seq
    (((IC.region
              [IOper.mk (some 8) (IOp.mv (Opd.t 0)) none, IOper.mk (some 9) (IOp.mv (Opd.t 1)) none, IOper.mk (some 10) (IOp.call 101 [Opd.t 8, Opd.t 9]) none, IOper.mk (some 11) (IOp.len (Opd.t 10)) none,
                IOper.mk (some 12) (IOp.mv (Opd.c (KV.int .i64 (0)))) none]).seq
          (IC.block 0
            ((IC.region [IOper.mk (some 13) (IOp.bin .lss (Opd.t 12) (Opd.t 11)) none]).seq
                ((IC.cond (Opd.t 13) IC.skip (IC.exit 0)).seq
                  ((IC.block 1
                        ((IC.region [IOper.mk (some 14) (IOp.iaddr 1 (Opd.t 10) (Opd.t 12)) none, IOper.mk (some 15) (IOp.load none (Opd.t 14)) none, IOper.mk (some 7) (IOp.mv (Opd.t 15)) none]).seq
                          (IC.region
                            [IOper.mk (some 16) (IOp.mv (Opd.t 5)) none, IOper.mk (some 17) (IOp.bin .shl (Opd.t 16) (Opd.c (KV.int .u64 (8)))) none, IOper.mk (some 18) (IOp.mv (Opd.t 7)) none,
                              IOper.mk (some 19) (IOp.conv .u64 (Opd.t 18)) none, IOper.mk (some 20) (IOp.bin .or (Opd.t 17) (Opd.t 19)) none, IOper.mk (some 5) (IOp.mv (Opd.t 20)) none]))).seq
                    (IC.region [IOper.mk (some 21) (IOp.bin .add (Opd.t 12) (Opd.c (KV.int .i64 (1)))) none, IOper.mk (some 12) (IOp.mv (Opd.t 21)) none])))).loop)).seq
      ((IC.region [IOper.mk (some 22) (IOp.mv (Opd.t 5)) none, IOper.mk (some 4) (IOp.mv (Opd.t 22)) none]).seq IC.ret)))
theorem spec100 {args : List AV} {h : List AO} {post : AV → List AO → Prop} (hb : AX Go.Proofs.Try.prog h.length c100 [] (aend h.length [RV.tmp 4] post) ⟨mkT 23 (argsT 0 args), h⟩) (hl : args.length ≤ 23 := by simp) : ASpec Go.Proofs.Try.prog 100 args h post :=
  aspec_T hmix Go.Proofs.Try.func100 rfl (by kernel_rfl) rfl rfl hl hb
def c89 : IC :=
  (IC.region [IOper.mk (some 2) (IOp.mv (Opd.c (KV.int .u8 (0)))) none]).seq
  ((IC.region
        [IOper.mk (some 3) (IOp.mv (Opd.t 0)) none, IOper.mk (some 4) (IOp.call 100 [Opd.t 3, Opd.c (KV.int .i64 (1))]) none, IOper.mk (some 5) (IOp.conv .u8 (Opd.t 4)) none, IOper.mk (some 2) (IOp.mv (Opd.t 5)) none]).seq
    IC.ret)
theorem spec89 {args : List AV} {h : List AO} {post : AV → List AO → Prop} (hb : AX Go.Proofs.Try.prog h.length c89 [] (aend h.length [RV.tmp 2] post) ⟨mkT 6 (argsT 0 args), h⟩) (hl : args.length ≤ 6 := by simp) : ASpec Go.Proofs.Try.prog 89 args h post :=
  aspec_T hmix Go.Proofs.Try.func89 rfl (by kernel_rfl) rfl rfl hl hb
def c90 : IC :=
  (IC.region [IOper.mk (some 2) (IOp.mv (Opd.c (KV.int .u64 (0)))) none]).seq
  ((IC.region [IOper.mk (some 3) (IOp.mv (Opd.t 0)) none, IOper.mk (some 4) (IOp.call 100 [Opd.t 3, Opd.c (KV.int .i64 (8))]) none, IOper.mk (some 2) (IOp.mv (Opd.t 4)) none]).seq IC.ret)
theorem spec90 {args : List AV} {h : List AO} {post : AV → List AO → Prop} (hb : AX Go.Proofs.Try.prog h.length c90 [] (aend h.length [RV.tmp 2] post) ⟨mkT 5 (argsT 0 args), h⟩) (hl : args.length ≤ 5 := by simp) : ASpec Go.Proofs.Try.prog 90 args h post :=
  aspec_T hmix Go.Proofs.Try.func90 rfl (by kernel_rfl) rfl rfl hl hb
def c91 : IC :=
  (IC.region [IOper.mk (some 2) (IOp.mv (Opd.c (KV.int .u32 (0)))) none]).seq
  ((IC.region
        [IOper.mk (some 3) (IOp.mv (Opd.t 0)) none, IOper.mk (some 4) (IOp.call 100 [Opd.t 3, Opd.c (KV.int .i64 (4))]) none, IOper.mk (some 5) (IOp.conv .u32 (Opd.t 4)) none, IOper.mk (some 2) (IOp.mv (Opd.t 5)) none]).seq
    IC.ret)
theorem spec91 {args : List AV} {h : List AO} {post : AV → List AO → Prop} (hb : AX Go.Proofs.Try.prog h.length c91 [] (aend h.length [RV.tmp 2] post) ⟨mkT 6 (argsT 0 args), h⟩) (hl : args.length ≤ 6 := by simp) : ASpec Go.Proofs.Try.prog 91 args h post :=
  aspec_T hmix Go.Proofs.Try.func91 rfl (by kernel_rfl) rfl rfl hl hb
def c92 : IC :=
  (IC.region [IOper.mk (some 2) (IOp.mv (Opd.c KV.nils)) none]).seq
  (((IC.region [IOper.mk (some 5) (IOp.mv (Opd.t 0)) none, IOper.mk (some 6) (IOp.eqp false (Opd.t 5) (Opd.c KV.nilp)) none]).seq (IC.cond (Opd.t 6) ((IC.region [IOper.mk (some 2) (IOp.mv (Opd.c KV.nils)) none]).seq IC.ret) IC.skip)).seq
    ((IC.region [IOper.mk (some 3) (IOp.mv (Opd.c (KV.int .i64 (1)))) none]).seq
      (((IC.region
                [IOper.mk (some 7) (IOp.mv (Opd.t 0)) none, IOper.mk (some 8) (IOp.nilck (Opd.t 7)) none, IOper.mk (some 9) (IOp.faddr 0 (Opd.t 8)) none, IOper.mk (some 10) (IOp.load none (Opd.t 9)) none, IOper.mk (some 11) (IOp.len (Opd.t 10)) none,
                  IOper.mk (some 12) (IOp.bin .gtr (Opd.t 11) (Opd.c (KV.int .i64 (0)))) none]).seq
            (IC.cond (Opd.t 12)
              (IC.region
                [IOper.mk (some 13) (IOp.mv (Opd.t 3)) none, IOper.mk (some 14) (IOp.mv (Opd.t 0)) none, IOper.mk (some 15) (IOp.nilck (Opd.t 14)) none, IOper.mk (some 16) (IOp.faddr 0 (Opd.t 15)) none,
                  IOper.mk (some 17) (IOp.load none (Opd.t 16)) none, IOper.mk (some 18) (IOp.iaddr 1 (Opd.t 17) (Opd.c (KV.int .i64 (0)))) none, IOper.mk (some 19) (IOp.load none (Opd.t 18)) none,
                  IOper.mk (some 20) (IOp.conv .i64 (Opd.t 19)) none, IOper.mk (some 21) (IOp.bin .add (Opd.t 13) (Opd.t 20)) none, IOper.mk (some 3) (IOp.mv (Opd.t 21)) none])
              IC.skip)).seq
        ((IC.region [IOper.mk (some 22) (IOp.mv (Opd.t 0)) none, IOper.mk (some 23) (IOp.mv (Opd.t 3)) none, IOper.mk (some 24) (IOp.call 101 [Opd.t 22, Opd.t 23]) none, IOper.mk (some 4) (IOp.mv (Opd.t 24)) none]).seq
          (((IC.region [IOper.mk (some 25) (IOp.mv (Opd.t 4)) none, IOper.mk (some 26) (IOp.len (Opd.t 25)) none, IOper.mk (some 27) (IOp.bin .eql (Opd.t 26) (Opd.c (KV.int .i64 (0)))) none]).seq
                (IC.cond (Opd.t 27) ((IC.region [IOper.mk (some 2) (IOp.mv (Opd.c KV.nils)) none]).seq IC.ret) IC.skip)).seq
            ((IC.region
                  [IOper.mk (some 28) (IOp.bslice 5 1 0 [KV.int .u8 (0)] []) none, IOper.mk (some 29) (IOp.mv (Opd.t 4)) none, IOper.mk (some 30) (IOp.slice 1 (Opd.t 29) (some (Opd.c (KV.int .i64 (1)))) none) none,
                    IOper.mk (some 31) (IOp.append 5 1 1 (Opd.t 28) (Opd.t 30)) none, IOper.mk (some 2) (IOp.mv (Opd.t 31)) none]).seq
              IC.ret))))))
theorem spec92 {args : List AV} {h : List AO} {post : AV → List AO → Prop} (hb : AX Go.Proofs.Try.prog h.length c92 [] (aend h.length [RV.tmp 2] post) ⟨mkT 32 (argsT 0 args), h⟩) (hl : args.length ≤ 32 := by simp) : ASpec Go.Proofs.Try.prog 92 args h post :=
  aspec_T hmix Go.Proofs.Try.func92 rfl (by kernel_rfl) rfl rfl hl hb
def c93 : IC :=
  (IC.region [IOper.mk (some 2) (IOp.mv (Opd.c (KV.int .i64 (0)))) none]).seq
  ((IC.block 0
        ((IC.region [IOper.mk (some 4) (IOp.mv (Opd.t 0)) none, IOper.mk (some 5) (IOp.eqp false (Opd.t 4) (Opd.c KV.nilp)) none, IOper.mk (some 3) (IOp.mv (Opd.t 5)) none]).seq
          (IC.cond (Opd.t 3) ((IC.region [IOper.mk (some 2) (IOp.mv (Opd.c (KV.int .i64 (1)))) none]).seq IC.ret)
            ((IC.region
                  [IOper.mk (some 7) (IOp.mv (Opd.t 0)) none, IOper.mk (some 8) (IOp.nilck (Opd.t 7)) none, IOper.mk (some 9) (IOp.faddr 1 (Opd.t 8)) none, IOper.mk (some 10) (IOp.load none (Opd.t 9)) none,
                    IOper.mk (some 6) (IOp.mv (Opd.t 10)) none]).seq
              (IC.cond (Opd.t 6) ((IC.region [IOper.mk (some 2) (IOp.mv (Opd.c (KV.int .i64 (10)))) none]).seq IC.ret)
                ((IC.region
                      [IOper.mk (some 12) (IOp.mv (Opd.t 0)) none, IOper.mk (some 13) (IOp.nilck (Opd.t 12)) none, IOper.mk (some 14) (IOp.faddr 0 (Opd.t 13)) none, IOper.mk (some 15) (IOp.load none (Opd.t 14)) none,
                        IOper.mk (some 16) (IOp.len (Opd.t 15)) none, IOper.mk (some 17) (IOp.bin .gtr (Opd.t 16) (Opd.c (KV.int .i64 (0)))) none, IOper.mk (some 11) (IOp.mv (Opd.t 17)) none]).seq
                  (IC.cond (Opd.t 11) ((IC.region [IOper.mk (some 2) (IOp.mv (Opd.c (KV.int .i64 (11)))) none]).seq IC.ret) IC.skip))))))).seq
    ((IC.region [IOper.mk (some 2) (IOp.mv (Opd.c (KV.int .i64 (0)))) none]).seq IC.ret))
theorem spec93 {args : List AV} {h : List AO} {post : AV → List AO → Prop} (hb : AX Go.Proofs.Try.prog h.length c93 [] (aend h.length [RV.tmp 2] post) ⟨mkT 18 (argsT 0 args), h⟩) (hl : args.length ≤ 18 := by simp) : ASpec Go.Proofs.Try.prog 93 args h post :=
  aspec_T hmix Go.Proofs.Try.func93 rfl (by kernel_rfl) rfl rfl hl hb
def c71 : IC :=
  (IC.region [IOper.mk (some 2) (IOp.mv (Opd.c (KV.int .u8 (0)))) none]).seq
  (((IC.region [IOper.mk (some 3) (IOp.mv (Opd.t 0)) none]).seq (IC.cond (Opd.t 3) ((IC.region [IOper.mk (some 2) (IOp.mv (Opd.c (KV.int .u8 (1)))) none]).seq IC.ret) IC.skip)).seq
    ((IC.region [IOper.mk (some 2) (IOp.mv (Opd.c (KV.int .u8 (0)))) none]).seq IC.ret))
theorem spec71 {args : List AV} {h : List AO} {post : AV → List AO → Prop} (hb : AX Go.Proofs.Try.prog h.length c71 [] (aend h.length [RV.tmp 2] post) ⟨mkT 4 (argsT 0 args), h⟩) (hl : args.length ≤ 4 := by simp) : ASpec Go.Proofs.Try.prog 71 args h post :=
  aspec_T hmix Go.Proofs.Try.func71 rfl (by kernel_rfl) rfl rfl hl hb
def c84 : IC :=
  (IC.region
      [IOper.mk (some 1) (IOp.box 69 (Opd.t 0)) none,
        IOper.mk (some 2)
          (IOp.alloc 69
            [KV.int .i64 (0), KV.int .u64 (0), KV.int .u32 (0), KV.int .u32 (0), KV.int .i64 (0), KV.bool false, KV.int .i64 (0),
              KV.int .i64 (0), KV.int .u64 (0), KV.nils, KV.nils])
          none]).seq
  ((IC.region
        [IOper.mk (some 3) (IOp.faddr 0 (Opd.t 1)) none, IOper.mk none (IOp.store 1 (Opd.t 3) (Opd.c (KV.int .i64 (0)))) none, IOper.mk (some 4) (IOp.faddr 1 (Opd.t 1)) none,
          IOper.mk none (IOp.store 1 (Opd.t 4) (Opd.c (KV.int .u64 (0)))) none, IOper.mk (some 5) (IOp.faddr 2 (Opd.t 1)) none, IOper.mk none (IOp.store 1 (Opd.t 5) (Opd.c (KV.int .u32 (0)))) none]).seq
    ((IC.region [IOper.mk (some 6) (IOp.load (some 11) (Opd.t 1)) none, IOper.mk none (IOp.store 11 (Opd.t 2) (Opd.t 6)) none]).seq IC.ret))
theorem spec84 {args : List AV} {h : List AO} {post : AV → List AO → Prop} (hb : AX Go.Proofs.Try.prog h.length c84 [] (aend h.length [RV.cell 2 (some 11)] post) ⟨mkT 7 (argsT 0 args), h⟩) (hl : args.length ≤ 7 := by simp) : ASpec Go.Proofs.Try.prog 84 args h post :=
  aspec_T hmix Go.Proofs.Try.func84 rfl (by kernel_rfl) rfl rfl hl hb
def c85 : IC :=
  (IC.region [IOper.mk (some 1) (IOp.box 69 (Opd.t 0)) none, IOper.mk (some 2) (IOp.mv (Opd.c (KV.bool false))) none]).seq
  ((IC.region
        [IOper.mk (some 3) (IOp.faddr 0 (Opd.t 1)) none, IOper.mk (some 4) (IOp.load none (Opd.t 3)) none, IOper.mk (some 5) (IOp.bin .eql (Opd.t 4) (Opd.c (KV.int .i64 (0)))) none, IOper.mk (some 6) (IOp.mv (Opd.t 5)) none,
          IOper.mk (some 7) (IOp.faddr 1 (Opd.t 1)) (some (some 6, true)), IOper.mk (some 8) (IOp.load none (Opd.t 7)) (some (some 6, true)),
          IOper.mk (some 9) (IOp.bin .eql (Opd.t 8) (Opd.c (KV.int .u64 (0)))) (some (some 6, true)), IOper.mk (some 10) (IOp.pick (Opd.t 6) (Opd.t 9) (Opd.c (KV.bool false))) none, IOper.mk (some 11) (IOp.mv (Opd.t 10)) none,
          IOper.mk (some 12) (IOp.faddr 2 (Opd.t 1)) (some (some 11, true)), IOper.mk (some 13) (IOp.load none (Opd.t 12)) (some (some 11, true)),
          IOper.mk (some 14) (IOp.bin .eql (Opd.t 13) (Opd.c (KV.int .u32 (0)))) (some (some 11, true)), IOper.mk (some 15) (IOp.pick (Opd.t 11) (Opd.t 14) (Opd.c (KV.bool false))) none,
          IOper.mk (some 16) (IOp.mv (Opd.t 15)) none, IOper.mk (some 17) (IOp.faddr 3 (Opd.t 1)) (some (some 16, true)), IOper.mk (some 18) (IOp.load none (Opd.t 17)) (some (some 16, true)),
          IOper.mk (some 19) (IOp.bin .eql (Opd.t 18) (Opd.c (KV.int .u32 (0)))) (some (some 16, true)), IOper.mk (some 20) (IOp.pick (Opd.t 16) (Opd.t 19) (Opd.c (KV.bool false))) none,
          IOper.mk (some 21) (IOp.mv (Opd.t 20)) none, IOper.mk (some 22) (IOp.faddr 4 (Opd.t 1)) (some (some 21, true)), IOper.mk (some 23) (IOp.load none (Opd.t 22)) (some (some 21, true)),
          IOper.mk (some 24) (IOp.bin .eql (Opd.t 23) (Opd.c (KV.int .i64 (0)))) (some (some 21, true)), IOper.mk (some 25) (IOp.pick (Opd.t 21) (Opd.t 24) (Opd.c (KV.bool false))) none,
          IOper.mk (some 26) (IOp.mv (Opd.t 25)) none, IOper.mk (some 27) (IOp.faddr 5 (Opd.t 1)) (some (some 26, true)), IOper.mk (some 28) (IOp.load none (Opd.t 27)) (some (some 26, true)),
          IOper.mk (some 29) (IOp.not (Opd.t 28)) (some (some 26, true)), IOper.mk (some 30) (IOp.pick (Opd.t 26) (Opd.t 29) (Opd.c (KV.bool false))) none, IOper.mk (some 31) (IOp.mv (Opd.t 30)) none,
          IOper.mk (some 32) (IOp.faddr 6 (Opd.t 1)) (some (some 31, true)), IOper.mk (some 33) (IOp.load none (Opd.t 32)) (some (some 31, true)),
          IOper.mk (some 34) (IOp.bin .eql (Opd.t 33) (Opd.c (KV.int .i64 (0)))) (some (some 31, true)), IOper.mk (some 35) (IOp.pick (Opd.t 31) (Opd.t 34) (Opd.c (KV.bool false))) none,
          IOper.mk (some 36) (IOp.mv (Opd.t 35)) none, IOper.mk (some 37) (IOp.faddr 7 (Opd.t 1)) (some (some 36, true)), IOper.mk (some 38) (IOp.load none (Opd.t 37)) (some (some 36, true)),
          IOper.mk (some 39) (IOp.bin .eql (Opd.t 38) (Opd.c (KV.int .i64 (0)))) (some (some 36, true)), IOper.mk (some 40) (IOp.pick (Opd.t 36) (Opd.t 39) (Opd.c (KV.bool false))) none,
          IOper.mk (some 41) (IOp.mv (Opd.t 40)) none, IOper.mk (some 42) (IOp.faddr 8 (Opd.t 1)) (some (some 41, true)), IOper.mk (some 43) (IOp.load none (Opd.t 42)) (some (some 41, true)),
          IOper.mk (some 44) (IOp.bin .eql (Opd.t 43) (Opd.c (KV.int .u64 (0)))) (some (some 41, true)), IOper.mk (some 45) (IOp.pick (Opd.t 41) (Opd.t 44) (Opd.c (KV.bool false))) none,
          IOper.mk (some 46) (IOp.mv (Opd.t 45)) none, IOper.mk (some 47) (IOp.faddr 9 (Opd.t 1)) (some (some 46, true)), IOper.mk (some 48) (IOp.load none (Opd.t 47)) (some (some 46, true)),
          IOper.mk (some 49) (IOp.len (Opd.t 48)) (some (some 46, true)), IOper.mk (some 50) (IOp.bin .eql (Opd.t 49) (Opd.c (KV.int .i64 (0)))) (some (some 46, true)),
          IOper.mk (some 51) (IOp.pick (Opd.t 46) (Opd.t 50) (Opd.c (KV.bool false))) none, IOper.mk (some 52) (IOp.mv (Opd.t 51)) none, IOper.mk (some 53) (IOp.faddr 10 (Opd.t 1)) (some (some 52, true)),
          IOper.mk (some 54) (IOp.load none (Opd.t 53)) (some (some 52, true)), IOper.mk (some 55) (IOp.len (Opd.t 54)) (some (some 52, true)),
          IOper.mk (some 56) (IOp.bin .eql (Opd.t 55) (Opd.c (KV.int .i64 (0)))) (some (some 52, true)), IOper.mk (some 57) (IOp.pick (Opd.t 52) (Opd.t 56) (Opd.c (KV.bool false))) none,
          IOper.mk (some 2) (IOp.mv (Opd.t 57)) none]).seq
    IC.ret)
theorem spec85 {args : List AV} {h : List AO} {post : AV → List AO → Prop} (hb : AX Go.Proofs.Try.prog h.length c85 [] (aend h.length [RV.tmp 2] post) ⟨mkT 58 (argsT 0 args), h⟩) (hl : args.length ≤ 58 := by simp) : ASpec Go.Proofs.Try.prog 85 args h post :=
  aspec_T hmix Go.Proofs.Try.func85 rfl (by kernel_rfl) rfl rfl hl hb
def c58 : IC :=
  (IC.region [IOper.mk (some 1) (IOp.box 69 (Opd.t 0)) none, IOper.mk (some 2) (IOp.mv (Opd.c (KV.int .i64 (0)))) none]).seq
  (((IC.region
            [IOper.mk (some 5) (IOp.faddr 1 (Opd.t 1)) none, IOper.mk (some 6) (IOp.load none (Opd.t 5)) none, IOper.mk (some 7) (IOp.bin .eql (Opd.t 6) (Opd.c (KV.int .u64 (0)))) none, IOper.mk (some 8) (IOp.mv (Opd.t 7)) none,
              IOper.mk (some 9) (IOp.faddr 2 (Opd.t 1)) (some (some 8, false)), IOper.mk (some 10) (IOp.load none (Opd.t 9)) (some (some 8, false)),
              IOper.mk (some 11) (IOp.bin .eql (Opd.t 10) (Opd.c (KV.int .u32 (0)))) (some (some 8, false)), IOper.mk (some 12) (IOp.pick (Opd.t 8) (Opd.c (KV.bool true)) (Opd.t 11)) none]).seq
        (IC.cond (Opd.t 12) ((IC.region [IOper.mk (some 2) (IOp.mv (Opd.c (KV.int .i64 (40)))) none]).seq IC.ret) IC.skip)).seq
    ((IC.region
          [IOper.mk (some 13) (IOp.load (some 11) (Opd.t 1)) none, IOper.mk (some 14) (IOp.call 84 [Opd.t 13]) none,
            IOper.mk (some 3)
              (IOp.alloc 69
                [KV.int .i64 (0), KV.int .u64 (0), KV.int .u32 (0), KV.int .u32 (0), KV.int .i64 (0), KV.bool false, KV.int .i64 (0),
                  KV.int .i64 (0), KV.int .u64 (0), KV.nils, KV.nils])
              none,
            IOper.mk none (IOp.store 11 (Opd.t 3) (Opd.t 14)) none]).seq
      ((IC.region [IOper.mk (some 4) (IOp.mv (Opd.c (KV.bool false))) none]).seq
        (((IC.region [IOper.mk (some 15) (IOp.faddr 0 (Opd.t 1)) none, IOper.mk (some 16) (IOp.load none (Opd.t 15)) none]).seq
              (IC.block 0
                ((IC.block 7
                      ((IC.block 6
                            ((IC.block 5
                                  ((IC.block 4
                                        ((IC.block 3
                                              ((IC.block 2
                                                    ((IC.block 1
                                                          ((((IC.region [IOper.mk (some 18) (IOp.bin .eql (Opd.t 16) (Opd.c (KV.int .i64 (1)))) none, IOper.mk (some 17) (IOp.mv (Opd.t 18)) none]).seq
                                                                    (IC.cond (Opd.t 17) (IC.exit 1) IC.skip)).seq
                                                                (((IC.region [IOper.mk (some 20) (IOp.bin .eql (Opd.t 16) (Opd.c (KV.int .i64 (2)))) none, IOper.mk (some 19) (IOp.mv (Opd.t 20)) none]).seq
                                                                      (IC.cond (Opd.t 19) (IC.exit 2) IC.skip)).seq
                                                                  (((IC.region [IOper.mk (some 22) (IOp.bin .eql (Opd.t 16) (Opd.c (KV.int .i64 (4)))) none, IOper.mk (some 21) (IOp.mv (Opd.t 22)) none]).seq
                                                                        (IC.cond (Opd.t 21) (IC.exit 3) IC.skip)).seq
                                                                    (((IC.region [IOper.mk (some 24) (IOp.bin .eql (Opd.t 16) (Opd.c (KV.int .i64 (3)))) none, IOper.mk (some 23) (IOp.mv (Opd.t 24)) none]).seq
                                                                          (IC.cond (Opd.t 23) (IC.exit 4) IC.skip)).seq
                                                                      (((IC.region [IOper.mk (some 26) (IOp.bin .eql (Opd.t 16) (Opd.c (KV.int .i64 (5)))) none, IOper.mk (some 25) (IOp.mv (Opd.t 26)) none]).seq
                                                                            (IC.cond (Opd.t 25) (IC.exit 5) IC.skip)).seq
                                                                        (((IC.region [IOper.mk (some 28) (IOp.bin .eql (Opd.t 16) (Opd.c (KV.int .i64 (6)))) none, IOper.mk (some 27) (IOp.mv (Opd.t 28)) none]).seq
                                                                              (IC.cond (Opd.t 27) (IC.exit 6) IC.skip)).seq
                                                                          ((IC.region [IOper.mk (some 30) (IOp.bin .eql (Opd.t 16) (Opd.c (KV.int .i64 (7)))) none, IOper.mk (some 29) (IOp.mv (Opd.t 30)) none]).seq
                                                                            (IC.cond (Opd.t 29) (IC.exit 7) IC.skip)))))))).seq
                                                            (IC.exit 0))).seq
                                                      ((IC.region [IOper.mk (some 4) (IOp.mv (Opd.c (KV.bool true))) none]).seq (IC.exit 0)))).seq
                                                (((IC.region
                                                          [IOper.mk (some 31) (IOp.faddr 3 (Opd.t 1)) none, IOper.mk (some 32) (IOp.load none (Opd.t 31)) none,
                                                            IOper.mk (some 33) (IOp.bin .gtr (Opd.t 32) (Opd.c (KV.int .u32 (0)))) none, IOper.mk (some 34) (IOp.mv (Opd.t 33)) none,
                                                            IOper.mk (some 35) (IOp.faddr 9 (Opd.t 1)) (some (some 34, true)), IOper.mk (some 36) (IOp.load none (Opd.t 35)) (some (some 34, true)),
                                                            IOper.mk (some 37) (IOp.len (Opd.t 36)) (some (some 34, true)), IOper.mk (some 38) (IOp.bin .gtr (Opd.t 37) (Opd.c (KV.int .i64 (0)))) (some (some 34, true)),
                                                            IOper.mk (some 39) (IOp.pick (Opd.t 34) (Opd.t 38) (Opd.c (KV.bool false))) none, IOper.mk (some 40) (IOp.mv (Opd.t 39)) none,
                                                            IOper.mk (some 41) (IOp.faddr 9 (Opd.t 1)) (some (some 40, true)), IOper.mk (some 42) (IOp.load none (Opd.t 41)) (some (some 40, true)),
                                                            IOper.mk (some 43) (IOp.len (Opd.t 42)) (some (some 40, true)), IOper.mk (some 44) (IOp.bin .leq (Opd.t 43) (Opd.c (KV.int .i64 (32)))) (some (some 40, true)),
                                                            IOper.mk (some 45) (IOp.pick (Opd.t 40) (Opd.t 44) (Opd.c (KV.bool false))) none, IOper.mk (some 46) (IOp.mv (Opd.t 45)) none,
                                                            IOper.mk (some 47) (IOp.faddr 10 (Opd.t 1)) (some (some 46, true)), IOper.mk (some 48) (IOp.load none (Opd.t 47)) (some (some 46, true)),
                                                            IOper.mk (some 49) (IOp.len (Opd.t 48)) (some (some 46, true)), IOper.mk (some 50) (IOp.bin .leq (Opd.t 49) (Opd.c (KV.int .i64 (200)))) (some (some 46, true)),
                                                            IOper.mk (some 51) (IOp.pick (Opd.t 46) (Opd.t 50) (Opd.c (KV.bool false))) none, IOper.mk (some 4) (IOp.mv (Opd.t 51)) none]).seq
                                                      (IC.region
                                                        [IOper.mk (some 52) (IOp.faddr 3 (Opd.t 3)) none, IOper.mk none (IOp.store 1 (Opd.t 52) (Opd.c (KV.int .u32 (0)))) none, IOper.mk (some 53) (IOp.faddr 9 (Opd.t 3)) none,
                                                          IOper.mk none (IOp.store 1 (Opd.t 53) (Opd.c KV.nils)) none, IOper.mk (some 54) (IOp.faddr 10 (Opd.t 3)) none, IOper.mk none (IOp.store 1 (Opd.t 54) (Opd.c KV.nils)) none])).seq
                                                  (IC.exit 0)))).seq
                                          (((IC.region
                                                    [IOper.mk (some 55) (IOp.faddr 7 (Opd.t 1)) none, IOper.mk (some 56) (IOp.load none (Opd.t 55)) none,
                                                      IOper.mk (some 57) (IOp.bin .lss (Opd.t 56) (Opd.c (KV.int .i64 (1)))) none, IOper.mk (some 58) (IOp.mv (Opd.t 57)) none,
                                                      IOper.mk (some 59) (IOp.faddr 7 (Opd.t 1)) (some (some 58, false)), IOper.mk (some 60) (IOp.load none (Opd.t 59)) (some (some 58, false)),
                                                      IOper.mk (some 61) (IOp.bin .gtr (Opd.t 60) (Opd.c (KV.int .i64 (3)))) (some (some 58, false)),
                                                      IOper.mk (some 62) (IOp.pick (Opd.t 58) (Opd.c (KV.bool true)) (Opd.t 61)) none]).seq
                                                (IC.cond (Opd.t 62) ((IC.region [IOper.mk (some 2) (IOp.mv (Opd.c (KV.int .i64 (40)))) none]).seq IC.ret) IC.skip)).seq
                                            (IC.region [IOper.mk (some 63) (IOp.faddr 7 (Opd.t 3)) none, IOper.mk none (IOp.store 1 (Opd.t 63) (Opd.c (KV.int .i64 (0)))) none])))).seq
                                    (((IC.region
                                              [IOper.mk (some 64) (IOp.faddr 3 (Opd.t 1)) none, IOper.mk (some 65) (IOp.load none (Opd.t 64)) none, IOper.mk (some 66) (IOp.bin .gtr (Opd.t 65) (Opd.c (KV.int .u32 (0)))) none,
                                                IOper.mk (some 67) (IOp.mv (Opd.t 66)) none, IOper.mk (some 68) (IOp.faddr 4 (Opd.t 1)) (some (some 67, true)), IOper.mk (some 69) (IOp.load none (Opd.t 68)) (some (some 67, true)),
                                                IOper.mk (some 70) (IOp.bin .geq (Opd.t 69) (Opd.c (KV.int .i64 (0)))) (some (some 67, true)), IOper.mk (some 71) (IOp.pick (Opd.t 67) (Opd.t 70) (Opd.c (KV.bool false))) none,
                                                IOper.mk (some 72) (IOp.mv (Opd.t 71)) none, IOper.mk (some 73) (IOp.faddr 4 (Opd.t 1)) (some (some 72, true)), IOper.mk (some 74) (IOp.load none (Opd.t 73)) (some (some 72, true)),
                                                IOper.mk (some 75) (IOp.bin .lss (Opd.t 74) (Opd.c (KV.int .i64 (16)))) (some (some 72, true)), IOper.mk (some 76) (IOp.pick (Opd.t 72) (Opd.t 75) (Opd.c (KV.bool false))) none,
                                                IOper.mk (some 77) (IOp.mv (Opd.t 76)) none, IOper.mk (some 78) (IOp.faddr 6 (Opd.t 1)) (some (some 77, true)), IOper.mk (some 79) (IOp.load none (Opd.t 78)) (some (some 77, true)),
                                                IOper.mk (some 80) (IOp.bin .geq (Opd.t 79) (Opd.c (KV.int .i64 (1)))) (some (some 77, true)), IOper.mk (some 81) (IOp.pick (Opd.t 77) (Opd.t 80) (Opd.c (KV.bool false))) none,
                                                IOper.mk (some 82) (IOp.mv (Opd.t 81)) none, IOper.mk (some 83) (IOp.faddr 6 (Opd.t 1)) (some (some 82, true)), IOper.mk (some 84) (IOp.load none (Opd.t 83)) (some (some 82, true)),
                                                IOper.mk (some 85) (IOp.bin .leq (Opd.t 84) (Opd.c (KV.int .i64 (255)))) (some (some 82, true)), IOper.mk (some 86) (IOp.pick (Opd.t 82) (Opd.t 85) (Opd.c (KV.bool false))) none,
                                                IOper.mk (some 4) (IOp.mv (Opd.t 86)) none]).seq
                                          (IC.region
                                            [IOper.mk (some 87) (IOp.faddr 3 (Opd.t 3)) none, IOper.mk none (IOp.store 1 (Opd.t 87) (Opd.c (KV.int .u32 (0)))) none, IOper.mk (some 88) (IOp.faddr 4 (Opd.t 3)) none,
                                              IOper.mk none (IOp.store 1 (Opd.t 88) (Opd.c (KV.int .i64 (0)))) none, IOper.mk (some 89) (IOp.faddr 5 (Opd.t 3)) none,
                                              IOper.mk none (IOp.store 1 (Opd.t 89) (Opd.c (KV.bool false))) none, IOper.mk (some 90) (IOp.faddr 6 (Opd.t 3)) none,
                                              IOper.mk none (IOp.store 1 (Opd.t 90) (Opd.c (KV.int .i64 (0)))) none])).seq
                                      (IC.exit 0)))).seq
                              (((IC.region
                                        [IOper.mk (some 91) (IOp.faddr 3 (Opd.t 1)) none, IOper.mk (some 92) (IOp.load none (Opd.t 91)) none, IOper.mk (some 93) (IOp.bin .gtr (Opd.t 92) (Opd.c (KV.int .u32 (0)))) none,
                                          IOper.mk (some 94) (IOp.mv (Opd.t 93)) none, IOper.mk (some 95) (IOp.faddr 7 (Opd.t 1)) (some (some 94, true)), IOper.mk (some 96) (IOp.load none (Opd.t 95)) (some (some 94, true)),
                                          IOper.mk (some 97) (IOp.bin .geq (Opd.t 96) (Opd.c (KV.int .i64 (1)))) (some (some 94, true)), IOper.mk (some 98) (IOp.pick (Opd.t 94) (Opd.t 97) (Opd.c (KV.bool false))) none,
                                          IOper.mk (some 99) (IOp.mv (Opd.t 98)) none, IOper.mk (some 100) (IOp.faddr 7 (Opd.t 1)) (some (some 99, true)), IOper.mk (some 101) (IOp.load none (Opd.t 100)) (some (some 99, true)),
                                          IOper.mk (some 102) (IOp.bin .leq (Opd.t 101) (Opd.c (KV.int .i64 (3)))) (some (some 99, true)), IOper.mk (some 103) (IOp.pick (Opd.t 99) (Opd.t 102) (Opd.c (KV.bool false))) none,
                                          IOper.mk (some 4) (IOp.mv (Opd.t 103)) none]).seq
                                    (IC.region
                                      [IOper.mk (some 104) (IOp.faddr 3 (Opd.t 3)) none, IOper.mk none (IOp.store 1 (Opd.t 104) (Opd.c (KV.int .u32 (0)))) none, IOper.mk (some 105) (IOp.faddr 7 (Opd.t 3)) none,
                                        IOper.mk none (IOp.store 1 (Opd.t 105) (Opd.c (KV.int .i64 (0)))) none])).seq
                                (IC.exit 0)))).seq
                        (((IC.region
                                  [IOper.mk (some 106) (IOp.faddr 7 (Opd.t 1)) none, IOper.mk (some 107) (IOp.load none (Opd.t 106)) none, IOper.mk (some 108) (IOp.bin .eql (Opd.t 107) (Opd.c (KV.int .i64 (1)))) none,
                                    IOper.mk (some 109) (IOp.mv (Opd.t 108)) none, IOper.mk (some 110) (IOp.faddr 7 (Opd.t 1)) (some (some 109, false)), IOper.mk (some 111) (IOp.load none (Opd.t 110)) (some (some 109, false)),
                                    IOper.mk (some 112) (IOp.bin .eql (Opd.t 111) (Opd.c (KV.int .i64 (2)))) (some (some 109, false)), IOper.mk (some 113) (IOp.pick (Opd.t 109) (Opd.c (KV.bool true)) (Opd.t 112)) none,
                                    IOper.mk (some 4) (IOp.mv (Opd.t 113)) none]).seq
                              (IC.region [IOper.mk (some 114) (IOp.faddr 7 (Opd.t 3)) none, IOper.mk none (IOp.store 1 (Opd.t 114) (Opd.c (KV.int .i64 (0)))) none])).seq
                          (IC.exit 0)))).seq
                  (((IC.region
                            [IOper.mk (some 115) (IOp.faddr 8 (Opd.t 1)) none, IOper.mk (some 116) (IOp.load none (Opd.t 115)) none, IOper.mk (some 117) (IOp.faddr 1 (Opd.t 1)) none, IOper.mk (some 118) (IOp.load none (Opd.t 117)) none,
                              IOper.mk (some 119) (IOp.bin .lss (Opd.t 116) (Opd.t 118)) none, IOper.mk (some 4) (IOp.mv (Opd.t 119)) none]).seq
                        (IC.region [IOper.mk (some 120) (IOp.faddr 8 (Opd.t 3)) none, IOper.mk none (IOp.store 1 (Opd.t 120) (Opd.c (KV.int .u64 (0)))) none])).seq
                    (IC.exit 0))))).seq
          (((IC.region
                    [IOper.mk (some 121) (IOp.mv (Opd.t 4)) none, IOper.mk (some 122) (IOp.not (Opd.t 121)) none, IOper.mk (some 123) (IOp.mv (Opd.t 122)) none, IOper.mk (some 124) (IOp.load (some 11) (Opd.t 3)) (some (some 123, false)),
                      IOper.mk (some 125) (IOp.call 85 [Opd.t 124]) (some (some 123, false)), IOper.mk (some 126) (IOp.not (Opd.t 125)) (some (some 123, false)), IOper.mk (some 127) (IOp.pick (Opd.t 123) (Opd.c (KV.bool true)) (Opd.t 126)) none]).seq
                (IC.cond (Opd.t 127) ((IC.region [IOper.mk (some 2) (IOp.mv (Opd.c (KV.int .i64 (40)))) none]).seq IC.ret) IC.skip)).seq
            ((IC.region [IOper.mk (some 2) (IOp.mv (Opd.c (KV.int .i64 (0)))) none]).seq IC.ret))))))
theorem spec58 {args : List AV} {h : List AO} {post : AV → List AO → Prop} (hb : AX Go.Proofs.Try.prog h.length c58 [] (aend h.length [RV.tmp 2] post) ⟨mkT 128 (argsT 0 args), h⟩) (hl : args.length ≤ 128 := by simp) : ASpec Go.Proofs.Try.prog 58 args h post :=
  aspec_T hmix Go.Proofs.Try.func58 rfl (by kernel_rfl) rfl rfl hl hb
def c40 : IC :=
  (IC.region [IOper.mk (some 1) (IOp.box 69 (Opd.t 0)) none, IOper.mk (some 2) (IOp.mv (Opd.c KV.nils)) none, IOper.mk (some 3) (IOp.mv (Opd.c (KV.int .i64 (0)))) none]).seq
  (((IC.region [IOper.mk (some 6) (IOp.load (some 11) (Opd.t 1)) none, IOper.mk (some 7) (IOp.call 58 [Opd.t 6]) none, IOper.mk (some 4) (IOp.mv (Opd.t 7)) none]).seq
        ((IC.region [IOper.mk (some 8) (IOp.mv (Opd.t 4)) none, IOper.mk (some 9) (IOp.bin .neq (Opd.t 8) (Opd.c (KV.int .i64 (0)))) none]).seq
          (IC.cond (Opd.t 9) ((IC.region [IOper.mk (some 10) (IOp.mv (Opd.t 4)) none, IOper.mk (some 2) (IOp.mv (Opd.c KV.nils)) none, IOper.mk (some 3) (IOp.mv (Opd.t 10)) none]).seq IC.ret) IC.skip))).seq
    ((IC.draw
          [IOper.mk (some 11) (IOp.call 66 []) none, IOper.mk (some 12) (IOp.faddr 0 (Opd.t 1)) none, IOper.mk (some 13) (IOp.load none (Opd.t 12)) none, IOper.mk (some 14) (IOp.conv .u8 (Opd.t 13)) none,
            IOper.mk (some 15) (IOp.call 67 [Opd.t 11, Opd.t 14]) none, IOper.mk (some 16) (IOp.faddr 1 (Opd.t 1)) none, IOper.mk (some 17) (IOp.load none (Opd.t 16)) none, IOper.mk (some 18) (IOp.call 68 [Opd.t 15, Opd.t 17]) none,
            IOper.mk (some 19) (IOp.faddr 2 (Opd.t 1)) none, IOper.mk (some 20) (IOp.load none (Opd.t 19)) none, IOper.mk (some 21) (IOp.call 69 [Opd.t 18, Opd.t 20]) none, IOper.mk (some 5) (IOp.mv (Opd.t 21)) none]
          [(1, true), (2, true), (3, true), (5, true), (6, true), (8, true), (9, true), (0, false), (4, false), (7, false), (10, false), (11, true)] [1] []).seq
      (((IC.region [IOper.mk (some 22) (IOp.faddr 0 (Opd.t 1)) none, IOper.mk (some 23) (IOp.load none (Opd.t 22)) none]).seq
            (IC.block 0
              ((IC.region [IOper.mk (some 25) (IOp.bin .eql (Opd.t 23) (Opd.c (KV.int .i64 (2)))) none, IOper.mk (some 24) (IOp.mv (Opd.t 25)) none]).seq
                (IC.cond (Opd.t 24)
                  (IC.draw
                    [IOper.mk (some 26) (IOp.mv (Opd.t 5)) none, IOper.mk (some 27) (IOp.faddr 3 (Opd.t 1)) none, IOper.mk (some 28) (IOp.load none (Opd.t 27)) none, IOper.mk (some 29) (IOp.call 69 [Opd.t 26, Opd.t 28]) none,
                      IOper.mk (some 30) (IOp.faddr 9 (Opd.t 1)) none, IOper.mk (some 31) (IOp.load none (Opd.t 30)) none, IOper.mk (some 32) (IOp.call 70 [Opd.t 29, Opd.t 31]) none, IOper.mk (some 33) (IOp.faddr 10 (Opd.t 1)) none,
                      IOper.mk (some 34) (IOp.load none (Opd.t 33)) none, IOper.mk (some 35) (IOp.call 70 [Opd.t 32, Opd.t 34]) none]
                    [(0, true), (1, true), (2, true), (4, true), (5, true), (7, true), (8, true), (3, false), (6, false), (9, false)] [1] [])
                  ((IC.region [IOper.mk (some 37) (IOp.bin .eql (Opd.t 23) (Opd.c (KV.int .i64 (3)))) none, IOper.mk (some 36) (IOp.mv (Opd.t 37)) none]).seq
                    (IC.cond (Opd.t 36)
                      (IC.draw
                        [IOper.mk (some 38) (IOp.mv (Opd.t 5)) none, IOper.mk (some 39) (IOp.faddr 3 (Opd.t 1)) none, IOper.mk (some 40) (IOp.load none (Opd.t 39)) none, IOper.mk (some 41) (IOp.call 69 [Opd.t 38, Opd.t 40]) none,
                          IOper.mk (some 42) (IOp.faddr 4 (Opd.t 1)) none, IOper.mk (some 43) (IOp.load none (Opd.t 42)) none, IOper.mk (some 44) (IOp.conv .u8 (Opd.t 43)) none, IOper.mk (some 45) (IOp.call 67 [Opd.t 41, Opd.t 44]) none,
                          IOper.mk (some 46) (IOp.faddr 5 (Opd.t 1)) none, IOper.mk (some 47) (IOp.load none (Opd.t 46)) none, IOper.mk (some 48) (IOp.call 71 [Opd.t 47]) none, IOper.mk (some 49) (IOp.call 67 [Opd.t 45, Opd.t 48]) none,
                          IOper.mk (some 50) (IOp.faddr 6 (Opd.t 1)) none, IOper.mk (some 51) (IOp.load none (Opd.t 50)) none, IOper.mk (some 52) (IOp.conv .u8 (Opd.t 51)) none, IOper.mk (some 53) (IOp.call 67 [Opd.t 49, Opd.t 52]) none]
                        [(0, true), (1, true), (2, true), (4, true), (5, true), (6, true), (8, true), (9, true), (12, true), (13, true), (14, true), (3, false), (7, false), (10, false), (11, false), (15, false)] [1] [])
                      ((IC.region [IOper.mk (some 55) (IOp.bin .eql (Opd.t 23) (Opd.c (KV.int .i64 (4)))) none, IOper.mk (some 54) (IOp.mv (Opd.t 55)) none]).seq
                        (IC.cond (Opd.t 54)
                          (IC.draw
                            [IOper.mk (some 56) (IOp.mv (Opd.t 5)) none, IOper.mk (some 57) (IOp.faddr 3 (Opd.t 1)) none, IOper.mk (some 58) (IOp.load none (Opd.t 57)) none, IOper.mk (some 59) (IOp.call 69 [Opd.t 56, Opd.t 58]) none,
                              IOper.mk (some 60) (IOp.faddr 4 (Opd.t 1)) none, IOper.mk (some 61) (IOp.load none (Opd.t 60)) none, IOper.mk (some 62) (IOp.conv .u8 (Opd.t 61)) none, IOper.mk (some 63) (IOp.call 67 [Opd.t 59, Opd.t 62]) none,
                              IOper.mk (some 64) (IOp.faddr 5 (Opd.t 1)) none, IOper.mk (some 65) (IOp.load none (Opd.t 64)) none, IOper.mk (some 66) (IOp.call 71 [Opd.t 65]) none, IOper.mk (some 67) (IOp.call 67 [Opd.t 63, Opd.t 66]) none,
                              IOper.mk (some 68) (IOp.faddr 6 (Opd.t 1)) none, IOper.mk (some 69) (IOp.load none (Opd.t 68)) none, IOper.mk (some 70) (IOp.conv .u8 (Opd.t 69)) none, IOper.mk (some 71) (IOp.call 67 [Opd.t 67, Opd.t 70]) none,
                              IOper.mk (some 72) (IOp.faddr 7 (Opd.t 1)) none, IOper.mk (some 73) (IOp.load none (Opd.t 72)) none, IOper.mk (some 74) (IOp.conv .u8 (Opd.t 73)) none, IOper.mk (some 75) (IOp.call 67 [Opd.t 71, Opd.t 74]) none]
                            [(0, true), (1, true), (2, true), (4, true), (5, true), (6, true), (8, true), (9, true), (12, true), (13, true), (14, true), (16, true), (17, true), (18, true), (3, false), (7, false), (10, false), (11, false),
                              (15, false), (19, false)]
                            [1] [])
                          ((IC.region [IOper.mk (some 77) (IOp.bin .eql (Opd.t 23) (Opd.c (KV.int .i64 (5)))) none, IOper.mk (some 76) (IOp.mv (Opd.t 77)) none]).seq
                            (IC.cond (Opd.t 76)
                              (IC.draw
                                [IOper.mk (some 78) (IOp.mv (Opd.t 5)) none, IOper.mk (some 79) (IOp.faddr 3 (Opd.t 1)) none, IOper.mk (some 80) (IOp.load none (Opd.t 79)) none, IOper.mk (some 81) (IOp.call 69 [Opd.t 78, Opd.t 80]) none,
                                  IOper.mk (some 82) (IOp.faddr 7 (Opd.t 1)) none, IOper.mk (some 83) (IOp.load none (Opd.t 82)) none, IOper.mk (some 84) (IOp.conv .u8 (Opd.t 83)) none,
                                  IOper.mk (some 85) (IOp.call 67 [Opd.t 81, Opd.t 84]) none]
                                [(0, true), (1, true), (2, true), (4, true), (5, true), (6, true), (3, false), (7, false)] [1] [])
                              ((IC.region [IOper.mk (some 87) (IOp.bin .eql (Opd.t 23) (Opd.c (KV.int .i64 (6)))) none, IOper.mk (some 86) (IOp.mv (Opd.t 87)) none]).seq
                                (IC.cond (Opd.t 86)
                                  (IC.region
                                    [IOper.mk (some 88) (IOp.mv (Opd.t 5)) none, IOper.mk (some 89) (IOp.faddr 7 (Opd.t 1)) none, IOper.mk (some 90) (IOp.load none (Opd.t 89)) none, IOper.mk (some 91) (IOp.conv .u8 (Opd.t 90)) none,
                                      IOper.mk (some 92) (IOp.call 67 [Opd.t 88, Opd.t 91]) none])
                                  ((IC.region [IOper.mk (some 94) (IOp.bin .eql (Opd.t 23) (Opd.c (KV.int .i64 (7)))) none, IOper.mk (some 93) (IOp.mv (Opd.t 94)) none]).seq
                                    (IC.cond (Opd.t 93)
                                      (IC.region
                                        [IOper.mk (some 95) (IOp.mv (Opd.t 5)) none, IOper.mk (some 96) (IOp.faddr 8 (Opd.t 1)) none, IOper.mk (some 97) (IOp.load none (Opd.t 96)) none, IOper.mk (some 98) (IOp.call 68 [Opd.t 95, Opd.t 97]) none])
                                      IC.skip)))))))))))))).seq
        ((IC.region
              [IOper.mk (some 99) (IOp.mv (Opd.t 5)) none, IOper.mk (some 100) (IOp.call 72 [Opd.t 99]) none, IOper.mk (some 101) (IOp.ext (Opd.t 100) 0) none, IOper.mk (some 102) (IOp.ext (Opd.t 100) 1) none,
                IOper.mk (some 2) (IOp.mv (Opd.t 101)) none, IOper.mk (some 3) (IOp.mv (Opd.t 102)) none]).seq
          IC.ret))))
theorem spec40 {args : List AV} {h : List AO} {post : AV → List AO → Prop} (hb : AX Go.Proofs.Try.prog h.length c40 [] (aend h.length [RV.tmp 2, RV.tmp 3] post) ⟨mkT 103 (argsT 0 args), h⟩) (hl : args.length ≤ 103 := by simp) : ASpec Go.Proofs.Try.prog 40 args h post :=
  aspec_T hmix Go.Proofs.Try.func40 rfl (by kernel_rfl) rfl rfl hl hb
def c75 : IC :=
  (IC.region
      [IOper.mk (some 2)
          (IOp.alloc 69
            [KV.int .i64 (0), KV.int .u64 (0), KV.int .u32 (0), KV.int .u32 (0), KV.int .i64 (0), KV.bool false, KV.int .i64 (0),
              KV.int .i64 (0), KV.int .u64 (0), KV.nils, KV.nils])
          none,
        IOper.mk (some 3) (IOp.mv (Opd.c (KV.int .i64 (0)))) none]).seq
  ((IC.region [IOper.mk (some 7) (IOp.mv (Opd.t 0)) none, IOper.mk (some 8) (IOp.call 88 [Opd.t 7]) none, IOper.mk (some 4) (IOp.mv (Opd.t 8)) none]).seq
    ((IC.region
          [IOper.mk (some 9) (IOp.mv (Opd.t 4)) none, IOper.mk (some 10) (IOp.call 89 [Opd.t 9]) none, IOper.mk (some 11) (IOp.conv .i64 (Opd.t 10)) none, IOper.mk (some 12) (IOp.mv (Opd.t 4)) none,
            IOper.mk (some 13) (IOp.call 90 [Opd.t 12]) none,
            IOper.mk (some 14)
              (IOp.build
                [KV.int .i64 (0), KV.int .u64 (0), KV.int .u32 (0), KV.int .u32 (0), KV.int .i64 (0), KV.bool false, KV.int .i64 (0),
                  KV.int .i64 (0), KV.int .u64 (0), KV.nils, KV.nils]
                [(0, 1, Opd.t 11), (1, 1, Opd.t 13)])
              none,
            IOper.mk (some 5)
              (IOp.alloc 69
                [KV.int .i64 (0), KV.int .u64 (0), KV.int .u32 (0), KV.int .u32 (0), KV.int .i64 (0), KV.bool false, KV.int .i64 (0),
                  KV.int .i64 (0), KV.int .u64 (0), KV.nils, KV.nils])
              none,
            IOper.mk none (IOp.store 11 (Opd.t 5) (Opd.t 14)) none]).seq
      ((IC.region [IOper.mk (some 15) (IOp.mv (Opd.t 4)) none, IOper.mk (some 16) (IOp.call 91 [Opd.t 15]) none, IOper.mk (some 17) (IOp.faddr 2 (Opd.t 5)) none, IOper.mk none (IOp.store 1 (Opd.t 17) (Opd.t 16)) none]).seq
        ((IC.region [IOper.mk (some 6) (IOp.mv (Opd.c (KV.int .u8 (0)))) none]).seq
          (((IC.region [IOper.mk (some 18) (IOp.faddr 0 (Opd.t 5)) none, IOper.mk (some 19) (IOp.load none (Opd.t 18)) none]).seq
                (IC.block 0
                  ((IC.region [IOper.mk (some 21) (IOp.bin .eql (Opd.t 19) (Opd.c (KV.int .i64 (2)))) none, IOper.mk (some 20) (IOp.mv (Opd.t 21)) none]).seq
                    (IC.cond (Opd.t 20)
                      ((IC.region [IOper.mk (some 22) (IOp.mv (Opd.t 4)) none, IOper.mk (some 23) (IOp.call 91 [Opd.t 22]) none, IOper.mk (some 24) (IOp.faddr 3 (Opd.t 5)) none, IOper.mk none (IOp.store 1 (Opd.t 24) (Opd.t 23)) none]).seq
                        ((IC.region [IOper.mk (some 25) (IOp.mv (Opd.t 4)) none, IOper.mk (some 26) (IOp.call 92 [Opd.t 25]) none, IOper.mk (some 27) (IOp.faddr 9 (Opd.t 5)) none, IOper.mk none (IOp.store 1 (Opd.t 27) (Opd.t 26)) none]).seq
                          (IC.region [IOper.mk (some 28) (IOp.mv (Opd.t 4)) none, IOper.mk (some 29) (IOp.call 92 [Opd.t 28]) none, IOper.mk (some 30) (IOp.faddr 10 (Opd.t 5)) none, IOper.mk none (IOp.store 1 (Opd.t 30) (Opd.t 29)) none])))
                      (((IC.region [IOper.mk (some 32) (IOp.bin .eql (Opd.t 19) (Opd.c (KV.int .i64 (3)))) none, IOper.mk (some 31) (IOp.mv (Opd.t 32)) none]).seq
                            (IC.cond (Opd.t 31) IC.skip (IC.region [IOper.mk (some 33) (IOp.bin .eql (Opd.t 19) (Opd.c (KV.int .i64 (4)))) none, IOper.mk (some 31) (IOp.mv (Opd.t 33)) none]))).seq
                        (IC.cond (Opd.t 31)
                          ((IC.region [IOper.mk (some 34) (IOp.mv (Opd.t 4)) none, IOper.mk (some 35) (IOp.call 91 [Opd.t 34]) none, IOper.mk (some 36) (IOp.faddr 3 (Opd.t 5)) none, IOper.mk none (IOp.store 1 (Opd.t 36) (Opd.t 35)) none]).seq
                            ((IC.region
                                  [IOper.mk (some 37) (IOp.mv (Opd.t 4)) none, IOper.mk (some 38) (IOp.call 89 [Opd.t 37]) none, IOper.mk (some 39) (IOp.conv .i64 (Opd.t 38)) none, IOper.mk (some 40) (IOp.faddr 4 (Opd.t 5)) none,
                                    IOper.mk none (IOp.store 1 (Opd.t 40) (Opd.t 39)) none]).seq
                              ((IC.region [IOper.mk (some 41) (IOp.mv (Opd.t 4)) none, IOper.mk (some 42) (IOp.call 89 [Opd.t 41]) none, IOper.mk (some 6) (IOp.mv (Opd.t 42)) none]).seq
                                ((IC.region
                                      [IOper.mk (some 43) (IOp.mv (Opd.t 6)) none, IOper.mk (some 44) (IOp.bin .eql (Opd.t 43) (Opd.c (KV.int .u8 (1)))) none, IOper.mk (some 45) (IOp.faddr 5 (Opd.t 5)) none,
                                        IOper.mk none (IOp.store 1 (Opd.t 45) (Opd.t 44)) none]).seq
                                  ((IC.region
                                        [IOper.mk (some 46) (IOp.mv (Opd.t 4)) none, IOper.mk (some 47) (IOp.call 89 [Opd.t 46]) none, IOper.mk (some 48) (IOp.conv .i64 (Opd.t 47)) none, IOper.mk (some 49) (IOp.faddr 6 (Opd.t 5)) none,
                                          IOper.mk none (IOp.store 1 (Opd.t 49) (Opd.t 48)) none]).seq
                                    ((IC.region
                                          [IOper.mk (some 50) (IOp.faddr 0 (Opd.t 5)) none, IOper.mk (some 51) (IOp.load none (Opd.t 50)) none, IOper.mk (some 52) (IOp.bin .eql (Opd.t 51) (Opd.c (KV.int .i64 (4)))) none]).seq
                                      (IC.cond (Opd.t 52)
                                        (IC.region
                                          [IOper.mk (some 53) (IOp.mv (Opd.t 4)) none, IOper.mk (some 54) (IOp.call 89 [Opd.t 53]) none, IOper.mk (some 55) (IOp.conv .i64 (Opd.t 54)) none, IOper.mk (some 56) (IOp.faddr 7 (Opd.t 5)) none,
                                            IOper.mk none (IOp.store 1 (Opd.t 56) (Opd.t 55)) none])
                                        IC.skip)))))))
                          ((IC.region [IOper.mk (some 58) (IOp.bin .eql (Opd.t 19) (Opd.c (KV.int .i64 (5)))) none, IOper.mk (some 57) (IOp.mv (Opd.t 58)) none]).seq
                            (IC.cond (Opd.t 57)
                              ((IC.region [IOper.mk (some 59) (IOp.mv (Opd.t 4)) none, IOper.mk (some 60) (IOp.call 91 [Opd.t 59]) none, IOper.mk (some 61) (IOp.faddr 3 (Opd.t 5)) none, IOper.mk none (IOp.store 1 (Opd.t 61) (Opd.t 60)) none]).seq
                                (IC.region
                                  [IOper.mk (some 62) (IOp.mv (Opd.t 4)) none, IOper.mk (some 63) (IOp.call 89 [Opd.t 62]) none, IOper.mk (some 64) (IOp.conv .i64 (Opd.t 63)) none, IOper.mk (some 65) (IOp.faddr 7 (Opd.t 5)) none,
                                    IOper.mk none (IOp.store 1 (Opd.t 65) (Opd.t 64)) none]))
                              ((IC.region [IOper.mk (some 67) (IOp.bin .eql (Opd.t 19) (Opd.c (KV.int .i64 (6)))) none, IOper.mk (some 66) (IOp.mv (Opd.t 67)) none]).seq
                                (IC.cond (Opd.t 66)
                                  (IC.region
                                    [IOper.mk (some 68) (IOp.mv (Opd.t 4)) none, IOper.mk (some 69) (IOp.call 89 [Opd.t 68]) none, IOper.mk (some 70) (IOp.conv .i64 (Opd.t 69)) none, IOper.mk (some 71) (IOp.faddr 7 (Opd.t 5)) none,
                                      IOper.mk none (IOp.store 1 (Opd.t 71) (Opd.t 70)) none])
                                  ((IC.region [IOper.mk (some 73) (IOp.bin .eql (Opd.t 19) (Opd.c (KV.int .i64 (7)))) none, IOper.mk (some 72) (IOp.mv (Opd.t 73)) none]).seq
                                    (IC.cond (Opd.t 72)
                                      (IC.region [IOper.mk (some 74) (IOp.mv (Opd.t 4)) none, IOper.mk (some 75) (IOp.call 90 [Opd.t 74]) none, IOper.mk (some 76) (IOp.faddr 8 (Opd.t 5)) none, IOper.mk none (IOp.store 1 (Opd.t 76) (Opd.t 75)) none])
                                      IC.skip)))))))))))).seq
            (((IC.region
                      [IOper.mk (some 77) (IOp.mv (Opd.t 4)) none, IOper.mk (some 78) (IOp.call 93 [Opd.t 77]) none, IOper.mk (some 79) (IOp.bin .neq (Opd.t 78) (Opd.c (KV.int .i64 (0)))) none,
                        IOper.mk (some 80) (IOp.mv (Opd.t 79)) none, IOper.mk (some 81) (IOp.mv (Opd.t 6)) (some (some 80, false)), IOper.mk (some 82) (IOp.bin .gtr (Opd.t 81) (Opd.c (KV.int .u8 (1)))) (some (some 80, false)),
                        IOper.mk (some 83) (IOp.pick (Opd.t 80) (Opd.c (KV.bool true)) (Opd.t 82)) none, IOper.mk (some 84) (IOp.mv (Opd.t 83)) none, IOper.mk (some 85) (IOp.load (some 11) (Opd.t 5)) (some (some 84, false)),
                        IOper.mk (some 86) (IOp.call 58 [Opd.t 85]) (some (some 84, false)), IOper.mk (some 87) (IOp.bin .neq (Opd.t 86) (Opd.c (KV.int .i64 (0)))) (some (some 84, false)),
                        IOper.mk (some 88) (IOp.pick (Opd.t 84) (Opd.c (KV.bool true)) (Opd.t 87)) none]).seq
                  (IC.cond (Opd.t 88)
                    ((IC.region
                          [IOper.mk (some 89)
                              (IOp.build
                                [KV.int .i64 (0), KV.int .u64 (0), KV.int .u32 (0), KV.int .u32 (0), KV.int .i64 (0), KV.bool false,
                                  KV.int .i64 (0), KV.int .i64 (0), KV.int .u64 (0), KV.nils, KV.nils]
                                [])
                              none,
                            IOper.mk none (IOp.store 11 (Opd.t 2) (Opd.t 89)) none, IOper.mk (some 3) (IOp.mv (Opd.c (KV.int .i64 (40)))) none]).seq
                      IC.ret)
                    IC.skip)).seq
              ((IC.region [IOper.mk (some 90) (IOp.load (some 11) (Opd.t 5)) none, IOper.mk none (IOp.store 11 (Opd.t 2) (Opd.t 90)) none, IOper.mk (some 3) (IOp.mv (Opd.c (KV.int .i64 (0)))) none]).seq IC.ret)))))))
theorem spec75 {args : List AV} {h : List AO} {post : AV → List AO → Prop} (hb : AX Go.Proofs.Try.prog h.length c75 [] (aend h.length [RV.cell 2 (some 11), RV.tmp 3] post) ⟨mkT 91 (argsT 0 args), h⟩) (hl : args.length ≤ 91 := by simp) : ASpec Go.Proofs.Try.prog 75 args h post :=
  aspec_T hmix Go.Proofs.Try.func75 rfl (by kernel_rfl) rfl rfl hl hb
def c65 : IC :=
  (IC.region [IOper.mk (some 2) (IOp.mv (Opd.c (KV.int .i64 (0)))) none, IOper.mk (some 3) (IOp.mv (Opd.c (KV.int .i64 (0)))) none]).seq
  (((IC.region [IOper.mk (some 8) (IOp.mv (Opd.t 0)) none, IOper.mk (some 9) (IOp.len (Opd.t 8)) none, IOper.mk (some 10) (IOp.mv (Opd.c (KV.int .i64 (0)))) none]).seq
        (IC.block 0
          ((IC.region [IOper.mk (some 11) (IOp.bin .lss (Opd.t 10) (Opd.t 9)) none]).seq
              ((IC.cond (Opd.t 11) IC.skip (IC.exit 0)).seq
                ((IC.block 1
                      ((IC.region
                            [IOper.mk (some 12) (IOp.mv (Opd.t 10)) none, IOper.mk (some 13) (IOp.iaddr 11 (Opd.t 8) (Opd.t 10)) none, IOper.mk (some 14) (IOp.load (some 11) (Opd.t 13)) none,
                              IOper.mk (some 5)
                                (IOp.alloc 69
                                  [KV.int .i64 (0), KV.int .u64 (0), KV.int .u32 (0), KV.int .u32 (0), KV.int .i64 (0), KV.bool false,
                                    KV.int .i64 (0), KV.int .i64 (0), KV.int .u64 (0), KV.nils, KV.nils])
                                none,
                              IOper.mk (some 4) (IOp.mv (Opd.t 12)) none, IOper.mk none (IOp.store 11 (Opd.t 5) (Opd.t 14)) none]).seq
                        (((IC.region [IOper.mk (some 15) (IOp.load (some 11) (Opd.t 5)) none, IOper.mk (some 16) (IOp.call 58 [Opd.t 15]) none, IOper.mk (some 17) (IOp.bin .neq (Opd.t 16) (Opd.c (KV.int .i64 (0)))) none]).seq
                              (IC.cond (Opd.t 17) ((IC.region [IOper.mk (some 18) (IOp.mv (Opd.t 4)) none, IOper.mk (some 2) (IOp.mv (Opd.t 18)) none, IOper.mk (some 3) (IOp.mv (Opd.c (KV.int .i64 (41)))) none]).seq IC.ret)
                                IC.skip)).seq
                          (((IC.region [IOper.mk (some 19) (IOp.mv (Opd.t 4)) none, IOper.mk (some 20) (IOp.bin .eql (Opd.t 19) (Opd.c (KV.int .i64 (0)))) none]).seq (IC.cond (Opd.t 20) (IC.exit 1) IC.skip)).seq
                            ((IC.region
                                  [IOper.mk (some 21) (IOp.mv (Opd.t 0)) none, IOper.mk (some 22) (IOp.mv (Opd.t 4)) none, IOper.mk (some 23) (IOp.bin .sub (Opd.t 22) (Opd.c (KV.int .i64 (1)))) none,
                                    IOper.mk (some 24) (IOp.iaddr 11 (Opd.t 21) (Opd.t 23)) none, IOper.mk (some 25) (IOp.load (some 11) (Opd.t 24)) none,
                                    IOper.mk (some 6)
                                      (IOp.alloc 69
                                        [KV.int .i64 (0), KV.int .u64 (0), KV.int .u32 (0), KV.int .u32 (0), KV.int .i64 (0), KV.bool false,
                                          KV.int .i64 (0), KV.int .i64 (0), KV.int .u64 (0), KV.nils, KV.nils])
                                      none,
                                    IOper.mk none (IOp.store 11 (Opd.t 6) (Opd.t 25)) none]).seq
                              ((IC.region
                                    [IOper.mk (some 26) (IOp.faddr 0 (Opd.t 5)) none, IOper.mk (some 27) (IOp.load none (Opd.t 26)) none, IOper.mk (some 28) (IOp.bin .eql (Opd.t 27) (Opd.c (KV.int .i64 (1)))) none,
                                      IOper.mk (some 29) (IOp.mv (Opd.t 28)) none, IOper.mk (some 30) (IOp.faddr 2 (Opd.t 5)) (some (some 29, true)), IOper.mk (some 31) (IOp.load none (Opd.t 30)) (some (some 29, true)),
                                      IOper.mk (some 32) (IOp.faddr 2 (Opd.t 6)) (some (some 29, true)), IOper.mk (some 33) (IOp.load none (Opd.t 32)) (some (some 29, true)),
                                      IOper.mk (some 34) (IOp.bin .gtr (Opd.t 31) (Opd.t 33)) (some (some 29, true)), IOper.mk (some 35) (IOp.pick (Opd.t 29) (Opd.t 34) (Opd.c (KV.bool false))) none,
                                      IOper.mk (some 7) (IOp.mv (Opd.t 35)) none]).seq
                                ((IC.region
                                      [IOper.mk (some 36) (IOp.faddr 1 (Opd.t 5)) none, IOper.mk (some 37) (IOp.load none (Opd.t 36)) none, IOper.mk (some 38) (IOp.bin .sub (Opd.t 37) (Opd.c (KV.int .u64 (1)))) none,
                                        IOper.mk (some 39) (IOp.faddr 1 (Opd.t 6)) none, IOper.mk (some 40) (IOp.load none (Opd.t 39)) none, IOper.mk (some 41) (IOp.bin .neq (Opd.t 38) (Opd.t 40)) none,
                                        IOper.mk (some 42) (IOp.mv (Opd.t 41)) none, IOper.mk (some 43) (IOp.faddr 2 (Opd.t 5)) (some (some 42, false)), IOper.mk (some 44) (IOp.load none (Opd.t 43)) (some (some 42, false)),
                                        IOper.mk (some 45) (IOp.faddr 2 (Opd.t 6)) (some (some 42, false)), IOper.mk (some 46) (IOp.load none (Opd.t 45)) (some (some 42, false)),
                                        IOper.mk (some 47) (IOp.bin .neq (Opd.t 44) (Opd.t 46)) (some (some 42, false)), IOper.mk (some 48) (IOp.mv (Opd.t 47)) (some (some 42, false)),
                                        IOper.mk (some 49) (IOp.mv (Opd.t 7)) (some (some 48, true)), IOper.mk (some 50) (IOp.not (Opd.t 49)) (some (some 48, true)),
                                        IOper.mk (some 51) (IOp.pick (Opd.t 48) (Opd.t 50) (Opd.c (KV.bool false))) (some (some 42, false)), IOper.mk (some 52) (IOp.pick (Opd.t 42) (Opd.c (KV.bool true)) (Opd.t 51)) none]).seq
                                  (IC.cond (Opd.t 52) ((IC.region [IOper.mk (some 53) (IOp.mv (Opd.t 4)) none, IOper.mk (some 2) (IOp.mv (Opd.t 53)) none, IOper.mk (some 3) (IOp.mv (Opd.c (KV.int .i64 (41)))) none]).seq IC.ret)
                                    IC.skip)))))))).seq
                  (IC.region [IOper.mk (some 54) (IOp.bin .add (Opd.t 10) (Opd.c (KV.int .i64 (1)))) none, IOper.mk (some 10) (IOp.mv (Opd.t 54)) none])))).loop)).seq
    ((IC.region [IOper.mk (some 55) (IOp.mv (Opd.t 0)) none, IOper.mk (some 56) (IOp.len (Opd.t 55)) none, IOper.mk (some 2) (IOp.mv (Opd.t 56)) none, IOper.mk (some 3) (IOp.mv (Opd.c (KV.int .i64 (0)))) none]).seq IC.ret))
theorem spec65 {args : List AV} {h : List AO} {post : AV → List AO → Prop} (hb : AX Go.Proofs.Try.prog h.length c65 [] (aend h.length [RV.tmp 2, RV.tmp 3] post) ⟨mkT 57 (argsT 0 args), h⟩) (hl : args.length ≤ 57 := by simp) : ASpec Go.Proofs.Try.prog 65 args h post :=
  aspec_T hmix Go.Proofs.Try.func65 rfl (by kernel_rfl) rfl rfl hl hb
end
end Go.AM.S
