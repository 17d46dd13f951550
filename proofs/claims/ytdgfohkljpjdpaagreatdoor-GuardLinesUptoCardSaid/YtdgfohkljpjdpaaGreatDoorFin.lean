/- GuardLines, at most 1048576 values and letters: the law's card, out of what its abstract call comes to. -/
import Derived.Test.YtdgfohkljpjdpaaGreatDoorRg6
import Derived.Test.YtdgfohkljpjdpaaGreatDoorSp11
import Derived.Test.YtdgfohkljpjdpaaGreatDoorProg
import Derived.Test.YtdgfohkljpjdpaaGreatDoorChecked
import Derived.Test.YtdgfohkljpjdpaaGreatDoorCards
import Derived.Test.YtdgfohkljpjdpaaGreatDoorTie
import Derived.Deep.DeepHandedRow
import Derived.Lib.LaidU8T
import Derived.PinnedBridge
import Derived.Lay

namespace Go.Rf
theorem qmu : okFun Go.Proofs.Tryz.prog 5 qck = true := by decide +kernel
theorem qp0 : okFun Go.Proofs.Tryz.prog 6 qf1 = true := by decide +kernel
theorem qvl : okFun Go.Proofs.Tryz.prog 9 qef = true := by decide +kernel
theorem qyu : okFun Go.Proofs.Tryz.prog 10 qij = true := by decide +kernel
theorem q3w : okFun Go.Proofs.Tryz.prog 11 qnp = true := by decide +kernel
theorem q1o : okFun Go.Proofs.Tryz.prog 12 qod = true := by decide +kernel
theorem q1q : okFun Go.Proofs.Tryz.prog 13 qjt = true := by decide +kernel
theorem q1n : okFun Go.Proofs.Tryz.prog 14 qoc = true := by decide +kernel
theorem q1p : okFun Go.Proofs.Tryz.prog 15 qoe = true := by decide +kernel
theorem qm8 : okFun Go.Proofs.Tryz.prog 16 qd9 = true := by decide +kernel
theorem qnb : okFun Go.Proofs.Tryz.prog 17 qi1 = true := by decide +kernel
theorem qmv : okFun Go.Proofs.Tryz.prog 19 qbw = true := by decide +kernel
theorem qzc : okFun Go.Proofs.Tryz.prog 20 qt8 = true := by decide +kernel
theorem qyv : okFun Go.Proofs.Tryz.prog 24 qik = true := by decide +kernel
theorem qzd : okFun Go.Proofs.Tryz.prog 25 qil = true := by decide +kernel
theorem qo0 : okFun Go.Proofs.Tryz.prog 26 qfe = true := by decide +kernel
theorem qzg : okFun Go.Proofs.Tryz.prog 27 qms = true := by decide +kernel
theorem qzf : okFun Go.Proofs.Tryz.prog 28 qmr = true := by decide +kernel
theorem qm9 : okFun Go.Proofs.Tryz.prog 29 qea = true := by decide +kernel
theorem qp4 : okFun Go.Proofs.Tryz.prog 30 qf3 = true := by decide +kernel
theorem qrw : okFun Go.Proofs.Tryz.prog 31 qg9 = true := by decide +kernel
theorem qub : okFun Go.Proofs.Tryz.prog 32 qb1 = true := by decide +kernel
theorem qzb : okFun Go.Proofs.Tryz.prog 33 qmq = true := by decide +kernel
theorem qzh : okFun Go.Proofs.Tryz.prog 34 qdp = true := by decide +kernel
theorem qy6 : okFun Go.Proofs.Tryz.prog 35 qkn = true := by decide +kernel
theorem qys : okFun Go.Proofs.Tryz.prog 36 qii = true := by decide +kernel
theorem qwy : okFun Go.Proofs.Tryz.prog 37 qlf = true := by decide +kernel
theorem qy5 : okFun Go.Proofs.Tryz.prog 38 qmp = true := by decide +kernel
theorem q1u : okFun Go.Proofs.Tryz.prog 39 qh8 = true := by decide +kernel
theorem q1r : okFun Go.Proofs.Tryz.prog 40 ql6 = true := by decide +kernel
theorem q1s : okFun Go.Proofs.Tryz.prog 41 qjv = true := by decide +kernel
theorem qna : okFun Go.Proofs.Tryz.prog 42 qb2 = true := by decide +kernel
theorem qnw : okFun Go.Proofs.Tryz.prog 43 qjk = true := by decide +kernel
theorem qw2 : okFun Go.Proofs.Tryz.prog 46 qsn = true := by decide +kernel
theorem qzs : okFun Go.Proofs.Tryz.prog 47 qt9 = true := by decide +kernel
theorem q1t : okFun Go.Proofs.Tryz.prog 49 qg1 = true := by decide +kernel
theorem qy7 : okFun Go.Proofs.Tryz.prog 50 qko = true := by decide +kernel
theorem qvi : okFun Go.Proofs.Tryz.prog 52 qdg = true := by decide +kernel
theorem qqr : okFun Go.Proofs.Tryz.prog 53 qgp = true := by decide +kernel
theorem qqo : okFun Go.Proofs.Tryz.prog 54 qdx = true := by decide +kernel
theorem qsz : okFun Go.Proofs.Tryz.prog 55 qd2 = true := by decide +kernel
theorem qoj : okFun Go.Proofs.Tryz.prog 56 qa0 = true := by decide +kernel
theorem qry : okFun Go.Proofs.Tryz.prog 57 qhb = true := by decide +kernel
theorem qnd : okFun Go.Proofs.Tryz.prog 58 qeb = true := by decide +kernel
theorem qza : okFun Go.Proofs.Tryz.prog 59 qkq = true := by decide +kernel
theorem qvj : okFun Go.Proofs.Tryz.prog 60 qka = true := by decide +kernel
theorem qp1 : okFun Go.Proofs.Tryz.prog 61 qen = true := by decide +kernel
theorem qvr : okFun Go.Proofs.Tryz.prog 62 qgg = true := by decide +kernel
theorem qr1 : okFun Go.Proofs.Tryz.prog 63 qhc = true := by decide +kernel
theorem qrx : okFun Go.Proofs.Tryz.prog 64 qfn = true := by decide +kernel
theorem qy8 : okFun Go.Proofs.Tryz.prog 65 qbb = true := by decide +kernel
theorem qyt : okFun Go.Proofs.Tryz.prog 67 qmn = true := by decide +kernel
theorem qw3 : okFun Go.Proofs.Tryz.prog 68 qlh = true := by decide +kernel
theorem qze : okFun Go.Proofs.Tryz.prog 69 qc3 = true := by decide +kernel
theorem qww : okFun Go.Proofs.Tryz.prog 70 qld = true := by decide +kernel
theorem qvf : okFun Go.Proofs.Tryz.prog 71 qj1 = true := by decide +kernel
theorem qqs : okFun Go.Proofs.Tryz.prog 73 qcw = true := by decide +kernel
theorem q1y : okFun Go.Proofs.Tryz.prog 76 qwo = true := by decide +kernel
theorem qwv : okFun Go.Proofs.Tryz.prog 77 qsm = true := by decide +kernel
theorem qzr : okFun Go.Proofs.Tryz.prog 79 qg4 = true := by decide +kernel
theorem qzj : okFun Go.Proofs.Tryz.prog 80 qim = true := by decide +kernel
theorem qqm : okFun Go.Proofs.Tryz.prog 82 qdw = true := by decide +kernel
theorem qql : okFun Go.Proofs.Tryz.prog 83 qey = true := by decide +kernel
theorem qqn : okFun Go.Proofs.Tryz.prog 84 qez = true := by decide +kernel
theorem qy9 : okFun Go.Proofs.Tryz.prog 85 qkp = true := by decide +kernel
theorem qnx : okFun Go.Proofs.Tryz.prog 86 qda = true := by decide +kernel
theorem qwu : okFun Go.Proofs.Tryz.prog 87 qi0 = true := by decide +kernel
theorem qnc : okFun Go.Proofs.Tryz.prog 88 qad = true := by decide +kernel
theorem qvh : okFun Go.Proofs.Tryz.prog 89 qj9 = true := by decide +kernel
theorem q1x : okFun Go.Proofs.Tryz.prog 90 qjw = true := by decide +kernel
theorem q1z : okFun Go.Proofs.Tryz.prog 91 qe8 = true := by decide +kernel
theorem qqt : okFun Go.Proofs.Tryz.prog 92 qgq = true := by decide +kernel
theorem qp5 : okFun Go.Proofs.Tryz.prog 93 qf4 = true := by decide +kernel
theorem qzk : okFun Go.Proofs.Tryz.prog 94 qft = true := by decide +kernel
theorem qoi : okFun Go.Proofs.Tryz.prog 95 qdo = true := by decide +kernel
theorem qke : okFun Go.Proofs.Tryz.prog 96 qbf = true := by decide +kernel
theorem qk7 : okFun Go.Proofs.Tryz.prog 97 qbl = true := by decide +kernel
theorem q1w : okFun Go.Proofs.Tryz.prog 98 qg2 = true := by decide +kernel
theorem qw1 : okFun Go.Proofs.Tryz.prog 99 qlg = true := by decide +kernel
theorem q34 : okFun Go.Proofs.Tryz.prog 100 qlm = true := by decide +kernel
theorem q10 : okFun Go.Proofs.Tryz.prog 101 qh9 = true := by decide +kernel
theorem qs1 : okFun Go.Proofs.Tryz.prog 102 qgb = true := by decide +kernel
theorem qvc : okFun Go.Proofs.Tryz.prog 103 qco = true := by decide +kernel
theorem qvg : okFun Go.Proofs.Tryz.prog 112 qe7 = true := by decide +kernel
theorem qw4 : okFun Go.Proofs.Tryz.prog 113 qli = true := by decide +kernel
theorem qny : okFun Go.Proofs.Tryz.prog 114 qeq = true := by decide +kernel
theorem qom : okFun Go.Proofs.Tryz.prog 115 qa8 = true := by decide +kernel
theorem q1v : okFun Go.Proofs.Tryz.prog 116 ql7 = true := by decide +kernel
theorem qmt : okFun Go.Proofs.Tryz.prog 117 qdv = true := by decide +kernel
theorem qvd : okFun Go.Proofs.Tryz.prog 118 qj0 = true := by decide +kernel
theorem qw0 : okFun Go.Proofs.Tryz.prog 119 qf2 = true := by decide +kernel
theorem qoz : okFun Go.Proofs.Tryz.prog 120 qbd = true := by decide +kernel
theorem qqp : okFun Go.Proofs.Tryz.prog 121 qb6 = true := by decide +kernel
theorem qp3 : okFun Go.Proofs.Tryz.prog 122 qcd = true := by decide +kernel
theorem qs0 : okFun Go.Proofs.Tryz.prog 123 qhx = true := by decide +kernel
theorem qvk : okFun Go.Proofs.Tryz.prog 124 qgf = true := by decide +kernel
theorem qok : okFun Go.Proofs.Tryz.prog 125 qaf = true := by decide +kernel
theorem qp2 : okFun Go.Proofs.Tryz.prog 126 qa9 = true := by decide +kernel
theorem qy3 : okFun Go.Proofs.Tryz.prog 128 qmo = true := by decide +kernel
theorem qoo : okFun Go.Proofs.Tryz.prog 129 qdq = true := by decide +kernel
theorem qo2 : okFun Go.Proofs.Tryz.prog 130 qff = true := by decide +kernel
theorem qo3 : okFun Go.Proofs.Tryz.prog 131 qd6 = true := by decide +kernel
theorem qol : okFun Go.Proofs.Tryz.prog 132 qe1 = true := by decide +kernel
theorem qnf : okFun Go.Proofs.Tryz.prog 133 qcy = true := by decide +kernel
theorem qon : okFun Go.Proofs.Tryz.prog 134 qe2 = true := by decide +kernel
theorem qne : okFun Go.Proofs.Tryz.prog 135 qec = true := by decide +kernel
theorem qo1 : okFun Go.Proofs.Tryz.prog 136 qbs = true := by decide +kernel
theorem qo4 : okFun Go.Proofs.Tryz.prog 137 qd7 = true := by decide +kernel
theorem qy4 : okFun Go.Proofs.Tryz.prog 138 qkm = true := by decide +kernel
theorem qqq : okFun Go.Proofs.Tryz.prog 139 qb7 = true := by decide +kernel
theorem qrz : okFun Go.Proofs.Tryz.prog 140 qeh = true := by decide +kernel
theorem qop : okFun Go.Proofs.Tryz.prog 142 qe3 = true := by decide +kernel
theorem qwx : okFun Go.Proofs.Tryz.prog 143 qle = true := by decide +kernel
theorem qy2 : okFun Go.Proofs.Tryz.prog 144 qkl = true := by decide +kernel
theorem qwz : okFun Go.Proofs.Tryz.prog 145 qjb = true := by decide +kernel
theorem qw5 : okFun Go.Proofs.Tryz.prog 146 qee = true := by decide +kernel
theorem qmb : okFun Go.Proofs.Tryz.prog 147 qbp = true := by decide +kernel
theorem qvo : okFun Go.Proofs.Tryz.prog 148 qhp = true := by decide +kernel
theorem qvn : okFun Go.Proofs.Tryz.prog 149 qho = true := by decide +kernel
theorem qzl : okFun Go.Proofs.Tryz.prog 150 qks = true := by decide +kernel
theorem qvm : okFun Go.Proofs.Tryz.prog 151 qkb = true := by decide +kernel
theorem qzi : okFun Go.Proofs.Tryz.prog 152 qkr = true := by decide +kernel
theorem qr2 : okFun Go.Proofs.Tryz.prog 176 qhe = true := by decide +kernel
theorem qyr : qvt Go.Proofs.Tryz.prog 51 qbt = true := by decide +kernel
theorem okT0 : ∀ f af, T0.funs f = some af → okFun Go.Proofs.Tryz.prog f af = true := by
  intro f af h
  unfold T0 at h
  dsimp only at h
  split at h
  · cases h; exact qmu
  · cases h; exact qp0
  · cases h; exact qvl
  · cases h; exact qyu
  · cases h; exact q3w
  · cases h; exact q1o
  · cases h; exact q1q
  · cases h; exact q1n
  · cases h; exact q1p
  · cases h; exact qm8
  · cases h; exact qnb
  · cases h; exact qmv
  · cases h; exact qzc
  · cases h; exact qyv
  · cases h; exact qzd
  · cases h; exact qo0
  · cases h; exact qzg
  · cases h; exact qzf
  · cases h; exact qm9
  · cases h; exact qp4
  · cases h; exact qrw
  · cases h; exact qub
  · cases h; exact qzb
  · cases h; exact qzh
  · cases h; exact qy6
  · cases h; exact qys
  · cases h; exact qwy
  · cases h; exact qy5
  · cases h; exact q1u
  · cases h; exact q1r
  · cases h; exact q1s
  · cases h; exact qna
  · cases h; exact qnw
  · cases h; exact qw2
  · cases h; exact qzs
  · cases h; exact q1t
  · cases h; exact qy7
  · cases h; exact qvi
  · cases h; exact qqr
  · cases h; exact qqo
  · cases h; exact qsz
  · cases h; exact qoj
  · cases h; exact qry
  · cases h; exact qnd
  · cases h; exact qza
  · cases h; exact qvj
  · cases h; exact qp1
  · cases h; exact qvr
  · cases h; exact qr1
  · cases h; exact qrx
  · cases h; exact qy8
  · cases h; exact qyt
  · cases h; exact qw3
  · cases h; exact qze
  · cases h; exact qww
  · cases h; exact qvf
  · cases h; exact qqs
  · cases h; exact q1y
  · cases h; exact qwv
  · cases h; exact qzr
  · cases h; exact qzj
  · cases h; exact qqm
  · cases h; exact qql
  · cases h; exact qqn
  · cases h; exact qy9
  · cases h; exact qnx
  · cases h; exact qwu
  · cases h; exact qnc
  · cases h; exact qvh
  · cases h; exact q1x
  · cases h; exact q1z
  · cases h; exact qqt
  · cases h; exact qp5
  · cases h; exact qzk
  · cases h; exact qoi
  · cases h; exact qke
  · cases h; exact qk7
  · cases h; exact q1w
  · cases h; exact qw1
  · cases h; exact q34
  · cases h; exact q10
  · cases h; exact qs1
  · cases h; exact qvc
  · cases h; exact qvg
  · cases h; exact qw4
  · cases h; exact qny
  · cases h; exact qom
  · cases h; exact q1v
  · cases h; exact qmt
  · cases h; exact qvd
  · cases h; exact qw0
  · cases h; exact qoz
  · cases h; exact qqp
  · cases h; exact qp3
  · cases h; exact qs0
  · cases h; exact qvk
  · cases h; exact qok
  · cases h; exact qp2
  · cases h; exact qy3
  · cases h; exact qoo
  · cases h; exact qo2
  · cases h; exact qo3
  · cases h; exact qol
  · cases h; exact qnf
  · cases h; exact qon
  · cases h; exact qne
  · cases h; exact qo1
  · cases h; exact qo4
  · cases h; exact qy4
  · cases h; exact qqq
  · cases h; exact qrz
  · cases h; exact qop
  · cases h; exact qwx
  · cases h; exact qy2
  · cases h; exact qwz
  · cases h; exact qw5
  · cases h; exact qmb
  · cases h; exact qvo
  · cases h; exact qvn
  · cases h; exact qzl
  · cases h; exact qvm
  · cases h; exact qzi
  · cases h; exact qr2
  · cases h
theorem okR0 : ∀ f r, T0.recs f = some r → qvt Go.Proofs.Tryz.prog f r = true := by
  intro f r h
  unfold T0 at h
  dsimp only at h
  split at h
  · cases h; exact qyr
  · cases h
end Go.Rf

namespace Go.Rf
open Go.ChangeShapes Go.RowKit
theorem zhk {H : Type} {enc : TypeId × Value → H} {W : World} {args : List Value} {ds : List (DataW H)} {ps : List MemPlace} (h : DataW.TrodAll enc Go.Proofs.Tryz.prog W 0 (fun _ => true) true [9] args ds ps) (hb : bulks ds ≤ 1048576) :
    ∃ n, call T0 X0 n 5 (ds.map fun d => .d (toD d)) [] = some (.ret [.d (.bool true)] []) := by
  obtain ⟨v0, vs0, d0, ds0, p0, q0, _, rfl, _, ⟨f0, h0⟩, r0⟩ := trodAll_cons h
  obtain ⟨_, rfl, _⟩ := trodAll_nil r0
  simp only [bulks] at hb
  obtain ⟨s, e0, l0⟩ := q60 Go.Proofs.Tryz.underlying9 h0
  simp only [] at l0 e0
  have g := zhh s (by omega)
  have e : ([d0].map fun d => V.d (toD d)) = [.d (.str s)] := by
    simp only [List.map_cons, List.map_nil, e0]
  rw [e]
  exact qpy g
end Go.Rf

namespace Go.Proofs.YtdgfohkljpjdpaaGreatDoor.gl
open Go.ChangeShapes Go.WideShapes Go.ChangeAt Go.RowKit Go.Shelf Go.Lib Go.Rf
theorem own : ownKnob Tryz.prog.godebug = none := by kernel_rfl
theorem laidOut : laidOutB Tryz.prog = true := by kernel_rfl
def ren260 : Shelf.Ren where
  f n := match n with | 240 => 127 | 169 => 66 | 276 => 141 | _ => 153
  t n := match n with | 37 => 118 | 46 => 135 | 70 => 117 | 72 => 120 | 119 => 236 | 127 => 184 | 138 => 238 | 139 => 239 | 164 => 226 | n => n
  g n := match n with | 3 => 0 | _ => 1
theorem lays260 : Go.Proofs.Lays.n260 Tryz.prog ren260 where
  mixed := by kernel_rfl
  f260 := by kernel_rfl
  t0 := by kernel_rfl
  a0 := Tryz.isAgg0
  z0 := Tryz.sizeOf0
  v0 := Tryz.zeroValue0
  t3 := by kernel_rfl
  a3 := Tryz.isAgg3
  z3 := Tryz.sizeOf3
  v3 := Tryz.zeroValue3
  t4 := by kernel_rfl
  a4 := Tryz.isAgg4
  z4 := Tryz.sizeOf4
  v4 := Tryz.zeroValue4
  t5 := by kernel_rfl
  a5 := Tryz.isAgg5
  z5 := Tryz.sizeOf5
  v5 := Tryz.zeroValue5
  t9 := by kernel_rfl
  a9 := Tryz.isAgg9
  z9 := Tryz.sizeOf9
  v9 := Tryz.zeroValue9
  t21 := by kernel_rfl
  a21 := Tryz.isAgg21
  z21 := Tryz.sizeOf21
  v21 := Tryz.zeroValue21
  t46 := by kernel_rfl
  a46 := Tryz.isAgg135
  z46 := Tryz.sizeOf135
  v46 := Tryz.zeroValue135
  t119 := by kernel_rfl
  a119 := Tryz.isAgg236
  z119 := Tryz.sizeOf236
  t138 := by kernel_rfl
  a138 := Tryz.isAgg238
  z138 := Tryz.sizeOf238
  v138 := Tryz.zeroValue238
  t139 := by kernel_rfl
  a139 := Tryz.isAgg239
  z139 := Tryz.sizeOf239
  v139 := Tryz.zeroValue239
  g3 := by kernel_rfl
  g4 := by kernel_rfl
theorem lays240 : Go.Proofs.Lays.n240 Tryz.prog ren260 where
  mixed := by kernel_rfl
  f240 := by kernel_rfl
  f276 := by kernel_rfl
  t0 := by kernel_rfl
  a0 := Tryz.isAgg0
  z0 := Tryz.sizeOf0
  v0 := Tryz.zeroValue0
  t4 := by kernel_rfl
  a4 := Tryz.isAgg4
  z4 := Tryz.sizeOf4
  v4 := Tryz.zeroValue4
  t9 := by kernel_rfl
  a9 := Tryz.isAgg9
  z9 := Tryz.sizeOf9
  v9 := Tryz.zeroValue9
  t20 := by kernel_rfl
  a20 := Tryz.isAgg20
  z20 := Tryz.sizeOf20
  v20 := Tryz.zeroValue20
  t70 := by kernel_rfl
  a70 := Tryz.isAgg117
  z70 := Tryz.sizeOf117
  v70 := Tryz.zeroValue117
  t72 := by kernel_rfl
  a72 := Tryz.isAgg120
  z72 := Tryz.sizeOf120
  v72 := Tryz.zeroValue120
  t164 := by kernel_rfl
  a164 := Tryz.isAgg226
  z164 := Tryz.sizeOf226
  v164 := Tryz.zeroValue226
theorem lays169 : Go.Proofs.Lays.n169 Tryz.prog ren260 where
  mixed := by kernel_rfl
  f169 := by kernel_rfl
  t0 := by kernel_rfl
  a0 := Tryz.isAgg0
  z0 := Tryz.sizeOf0
  v0 := Tryz.zeroValue0
  t3 := by kernel_rfl
  a3 := Tryz.isAgg3
  z3 := Tryz.sizeOf3
  v3 := Tryz.zeroValue3
  t9 := by kernel_rfl
  a9 := Tryz.isAgg9
  z9 := Tryz.sizeOf9
  v9 := Tryz.zeroValue9
  t37 := by kernel_rfl
  a37 := Tryz.isAgg118
  z37 := Tryz.sizeOf118
  v37 := Tryz.zeroValue118
  t70 := by kernel_rfl
  a70 := Tryz.isAgg117
  z70 := Tryz.sizeOf117
  v70 := Tryz.zeroValue117
  t72 := by kernel_rfl
  a72 := Tryz.isAgg120
  z72 := Tryz.sizeOf120
  v72 := Tryz.zeroValue120
  t127 := by kernel_rfl
  a127 := Tryz.isAgg184
  z127 := Tryz.sizeOf184
  v127 := Tryz.zeroValue184
theorem x72 : Builder.X72 Tryz.prog ren260 where
  sizeBuilder := by kernel_rfl
  liesBuilder := by kernel_rfl
theorem bextra : Builder.Extra Tryz.prog ren260 where
  toX72 := x72
  t5 := by kernel_rfl
  a5 := Tryz.isAgg5
  z5 := Tryz.sizeOf5
  v5 := Tryz.zeroValue5
  infoByte := by kernel_rfl
  cellsByte := by kernel_rfl
  sizeByte := by kernel_rfl
  neB5 := by decide
theorem extra : U8Extra Tryz.prog ren260 := by constructor <;> kernel_rfl
theorem tabs {W : World} (h : laidMetH Tryz.prog Rows.guardLinesUptoRow.laid W) : zbs (ice0 W) 0 1 := by
  rw [MakeChecks.laidMetH_plain _ _ _ (by kernel_rfl)] at h
  have hT : Lib.Utf8Tabs (ren260.g 3) (ren260.g 4) W := utf8Tabs_of_readsT (U8Types.of260 lays260) extra (Pinned.utf8First_eq ▸ Lib.laidMet.reads h (.tail _ (.head _))) (Lib.laidMet.reads h (.head _))
  exact ⟨hT.1, hT.2⟩
mutual
theorem bulk_eq {H : Type} : ∀ d : DataW H, Rows.uptoBulk d = bulk d
  | .lit l => by cases l <;> rfl
  | .nil => rfl
  | .ptr d => by simp only [Rows.uptoBulk, bulk, bulk_eq d]
  | .slice a b => by simp only [Rows.uptoBulk, bulk, bulks_eq a, bulks_eq b]
  | .agg a => by simp only [Rows.uptoBulk, bulk, bulks_eq a]
  | .iface _ d => by simp only [Rows.uptoBulk, bulk, bulk_eq d]
  | .map es => by simp only [Rows.uptoBulk, bulk, bulkEs_eq es]
  | .held _ => rfl
theorem bulks_eq {H : Type} : ∀ d : List (DataW H), Rows.uptoBulkAll d = bulks d
  | [] => rfl
  | d :: r => by simp only [Rows.uptoBulkAll, bulks, bulk_eq d, bulks_eq r]
theorem bulkEs_eq {H : Type} : ∀ d : List (Lit × DataW H), Rows.uptoBulkEntries d = q6f d
  | [] => rfl
  | x :: r => by simp only [Rows.uptoBulkEntries, q6f, bulkE_eq x, bulkEs_eq r]
theorem bulkE_eq {H : Type} : ∀ d : Lit × DataW H, Rows.uptoBulkEntry d = bulkE d
  | (l, d) => by cases l <;> simp only [Rows.uptoBulkEntry, bulkE, bulk_eq d]
end
set_option maxRecDepth 100000 in
theorem contract (H : Type) (enc : TypeId × Value → H) (W : World) (base : Nat) (args : Array Value) (ds gs : List (DataW H)) (before : List MemPlace)
    (hval : ∀ (j : Nat) t v, Tryz.f5.params[j]? = some t → args[j]? = some v → Value.okWide Tryz.prog W .any base t v)
    (hW : DataW.Whole enc Tryz.prog Tryz.f5.params.toList Rows.guardLinesSpec.vars false W args.toList ds gs before) (hL : laidMetH Tryz.prog Rows.guardLinesUptoRow.laid W) (hb : Rows.uptoBulkAll (ds ++ gs) ≤ 1048576) :
    Calls Tryz.prog 5 args W fun e W' => ∃ v, e = .returned v ∧ Rows.guardLinesSpec.post enc Tryz.prog Tryz.f5 false true false false W args v W' := by
  have hW' := hW
  obtain ⟨p, q, hA0, hV, rfl, hfz, hnd⟩ := hW
  have hA : DataW.TrodAll enc Tryz.prog W 0 (fun _ => true) true [9] args.toList ds p := by rw [Tryz.params5] at hA0; exact hA0
  rw [Tryz.params5] at hval
  obtain ⟨rfl, rfl⟩ := trodVars_none hV
  rw [List.append_nil, bulks_eq] at hb
  have hr := qtl (f := 8) (ρ := fun _ => .none) (r := .any) (base := base) _ _ _ _ hA (by intro t ht; simp only [List.mem_cons, List.not_mem_nil, or_false] at ht; rcases ht with rfl <;> kernel_rfl) (fun j t v h1 h2 => hval j t v (by simpa using h1) (by simpa using h2)) hb
  obtain ⟨n, hn⟩ := zhk (enc := enc) hA hb
  refine (zab okT0 okR0 (fun f e he => ?_) hr hn).mono fun e W' ⟨he, hw⟩ => ?_
  · unfold X0 at he
    simp only at he
    split at he
    · cases he
      rename_i hf
      subst hf
      exact zh2 lays260 (by kernel_rfl) (tabs hL)
    · split at he
      · cases he
        rename_i hf
        subst hf
        exact ccX_ok lays240 x72 (by kernel_rfl)
      · split at he
        · cases he
          rename_i hf
          subst hf
          exact bsX_ok lays169 bextra (by kernel_rfl)
        · cases he
  · subst he
    have hlt : ∀ x ∈ p, x.block < W.heap.size := fun x hx => by simpa using hW'.lt x (List.mem_append_left _ hx)
    have hback := qrf laidOut hw [9] _ _ _ (by intro t ht; simp only [List.mem_cons, List.not_mem_nil, or_false] at ht; rcases ht with rfl <;> exact ⟨by kernel_rfl, of_decide_eq_true (by kernel_rfl)⟩) hA hlt
    obtain ⟨d0, rfl⟩ : ∃ d0, ds = [d0] := by
      obtain ⟨v0, vs0, d0, ds0, p0, q0, _, rfl, _, _, r0⟩ := trodAll_cons hA
      obtain ⟨_, rfl, _⟩ := trodAll_nil r0
      exact ⟨d0, rfl⟩
    refine ⟨_, rfl, [d0], [], p ++ [], [], p, [], hW', trodAll_mk1 (shut_bool Tryz.underlying4 _), ?_, rfl, hw.frame _, fun h => by cases h⟩
    rw [Tryz.params5]
    exact hback
theorem laid_met (os : Os) : laidMet Tryz.prog Rows.guardLinesUptoRow.laid ((World.laidAll Tryz.prog os Rows.guardLinesUptoRow.laid).forCall (fun _ _ => 0) ⟨#[], #[.string ⟨#[]⟩], []⟩).memory :=
  laidMet_laidAll _ (by kernel_rfl) (by kernel_rfl)
theorem reads (os : Os) {H : Type} (enc : TypeId × Value → H) : ∃ places, DataW.whole enc Tryz.prog ((World.laidAll Tryz.prog os Rows.guardLinesUptoRow.laid).forCall (fun _ _ => 0) ⟨#[], #[.string ⟨#[]⟩], []⟩).memory Tryz.f5.params.toList Rows.guardLinesSpec.vars false #[Value.string ⟨#[]⟩].toList 8 = some ([.lit (.string [])], [], places) :=
  ⟨[], by kernel_rfl⟩
set_option maxRecDepth 100000 in
theorem liftedUpto (os : Os) (started : os.Started) (H : Type) (enc : TypeId × Value → H) (F : Stop.Interp) :
    ReturnsInHanded {} Tryz.checked os 5 .any ((Rows.OpenSpec.upto Rows.guardLinesSpec).preRow enc Tryz.prog Tryz.f5 Rows.guardLinesUptoRow.domain false Rows.guardLinesUptoRow.laid) (((Rows.OpenSpec.upto Rows.guardLinesSpec).at F).post enc Tryz.prog Tryz.f5 false true false false) := by
  obtain ⟨places, hx⟩ := reads os enc
  refine returnsInHanded_of_row (C := Tryz.checked) (s := Rows.OpenSpec.upto Rows.guardLinesSpec) own started (by kernel_rfl) Tryz.func5
    (witness_row_at (enc := enc) (C := Tryz.checked) false (World.laidAll Tryz.prog os Rows.guardLinesUptoRow.laid) #[.string ⟨#[]⟩] (World.laidAll_os _ _ _) (by kernel_rfl) (by kernel_rfl) (by kernel_rfl)
      (OpenSpec.preRow_of_cond 8 hx (by kernel_rfl) (fun k hk => by cases hk; kernel_rfl) (by kernel_rfl) (laid_met os))) ?_
  intro W base args ds gs before hval hW _ hcond _ hL _ _
  exact contract H enc W base args ds gs before hval hW hL (by
    have := hcond _ rfl
    simpa only [Rows.uptoSmall, decide_eq_true_eq] using this)
theorem saidUpto : Rows.GuardLinesUptoSaid :=
  OpenClaim.holds_of_cond 5 Tryz.f5 rfl rfl rfl rfl rfl rfl rfl ⟨rfl, rfl, rfl, rfl, rfl⟩ rfl rfl rfl rfl rfl (by kernel_rfl) Tryz.func5 (by kernel_rfl)
    (of_decide_eq_true (by kernel_rfl)) (by unfold Func.isWrapper; first | (rw [if_pos (by decide +kernel)]; kernel_rfl) | (rw [if_neg (by decide +kernel)]; exact ⟨rfl, rfl⟩))
    (fun os started H enc _ F => by rw [OpenClaim.pre_eq_preRow]; exact liftedUpto os started H enc F)
theorem plain (f : FuncId) (fn : Func) (hf : Tryz.pinned.checked.prog.funcNamed "rafter/rafterlaw09.GuardLines" = some f) (hfn : Tryz.pinned.checked.prog.funcs[f]? = some fn) :
    true = Tryz.pinned.checked.prog.looks [] ∧ ∀ (j : Nat) t, fn.params[j]? = some t → Tryz.pinned.checked.prog.wantsStandIn t = false := by
  obtain rfl : f = 5 := Option.some.inj ((show Tryz.prog.funcNamed "rafter/rafterlaw09.GuardLines" = some 5 by kernel_rfl).symm.trans hf) |>.symm
  obtain rfl : fn = Tryz.f5 := (Option.some.inj (Tryz.func5.symm.trans hfn)).symm
  refine ⟨by kernel_rfl, fun j t ht => ?_⟩
  rw [Tryz.params5] at ht
  have hm : t ∈ [9] := by simpa using Array.mem_of_getElem? ht
  have hall : ([9].all fun u => !Tryz.prog.wantsStandIn u) = true := by kernel_rfl
  exact (show Tryz.prog.wantsStandIn t = false by simpa using List.all_eq_true.1 hall t hm)
theorem cardUpto : Rows.GuardLinesUptoCardSaid :=
  Claim7.holds_tied_plain_at .later [] _ _ _ _ saidUpto (fun _ h => by cases h) (by kernel_rfl) (fun _ h => by cases h) guardLinesUpto_row_tie rfl ⟨rfl, rfl⟩ (by kernel_rfl) rfl plain (by kernel_rfl)
#print axioms cardUpto
end Go.Proofs.YtdgfohkljpjdpaaGreatDoor.gl
