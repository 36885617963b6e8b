/- Parts of the proof that pigeonholelaw18.DboxCompacts returns true at every input and leaves the input as it was: each function of the program as such words, laid by program. -/
import Derived.Test.YtjojclbfnnkajaaGreatPhA
section
set_option linter.all false
set_option maxRecDepth 100000
namespace Go.Ph.S
structure qh where
 c0 : Int
 c1 : Int
 c2 : Int
 c3 : Int
 c4 : Int
 c5 : Int
 c6 : Int
 c7 : Int
 c8 : Int
 c9 : Int
 iF : Int
abbrev qh.v (r : qh) : Value := .agg #[.int .i64 r.c0, .int .i64 r.c1, .int .i64 r.c2, .int .i64 r.c3, .int .i64 r.c4, .int .i64 r.c5, .int .i64 r.c6, .int .i64 r.c7, .int .i64 r.c8, .int .i64 r.c9, .int .i64 r.iF]
def HU (a : Addr) (K : qh → HP) : HP :=
 ag .i64 (a.add 0) fun x0 =>
 ag .i64 (a.add 1) fun x1 =>
 ag .i64 (a.add 2) fun x2 =>
 ag .i64 (a.add 3) fun x3 =>
 ag .i64 (a.add 4) fun x4 =>
 ag .i64 (a.add 5) fun x5 =>
 ag .i64 (a.add 6) fun x6 =>
 ag .i64 (a.add 7) fun x7 =>
 ag .i64 (a.add 8) fun x8 =>
 ag .i64 (a.add 9) fun x9 =>
 ag .i64 (a.add 10) fun gf =>
 K ⟨x0, x1, x2, x3, x4, x5, x6, x7, x8, x9, gf⟩
structure nA where
 c0 : Int
 c1 : Int
 c2 : Int
 c3 : Int
 c4 : Int
 c5 : Int
 c6 : Int
 c7 : Int
 c8 : Int
 c9 : Int
 iF : Int
 xb : Int
 uX : Int
 wK : Int
 xB : Int
 nE : Int
abbrev nA.v (r : nA) : Value := .agg #[.int .u32 r.c0, .int .u32 r.c1, .int .u32 r.c2, .int .u32 r.c3, .int .u32 r.c4, .int .u32 r.c5, .int .u32 r.c6, .int .u32 r.c7, .int .u32 r.c8, .int .u32 r.c9, .int .u32 r.iF, .int .u32 r.xb, .int .u32 r.uX, .int .u32 r.wK, .int .u32 r.xB, .int .u32 r.nE]
def yO (a : Addr) (K : nA → HP) : HP :=
 ag .u32 (a.add 0) fun x0 =>
 ag .u32 (a.add 1) fun x1 =>
 ag .u32 (a.add 2) fun x2 =>
 ag .u32 (a.add 3) fun x3 =>
 ag .u32 (a.add 4) fun x4 =>
 ag .u32 (a.add 5) fun x5 =>
 ag .u32 (a.add 6) fun x6 =>
 ag .u32 (a.add 7) fun x7 =>
 ag .u32 (a.add 8) fun x8 =>
 ag .u32 (a.add 9) fun x9 =>
 ag .u32 (a.add 10) fun gf =>
 ag .u32 (a.add 11) fun gD =>
 ag .u32 (a.add 12) fun jD =>
 ag .u32 (a.add 13) fun jT =>
 ag .u32 (a.add 14) fun CO =>
 ag .u32 (a.add 15) fun Dy =>
 K ⟨x0, x1, x2, x3, x4, x5, x6, x7, x8, x9, gf, gD, jD, jT, CO, Dy⟩
structure AK where
 Name : ByteArray
 Data : Sl
abbrev AK.v (r : AK) : Value := .agg #[.string r.Name, .slice r.Data.a r.Data.len r.Data.cap]
def C9 (a : Addr) (K : AK → HP) : HP :=
 bE (a.add 0) fun x0 =>
 aB (a.add 1) fun x1 =>
 K ⟨x0, x1⟩
structure ud where
 At : Int
 eL : Int
 iw : Int
 iz : Int
 iJ : Int
 iM : Int
 ir : Int
 iu : Int
 iI : Int
 iE : Int
 iK : Int
 iG : Int
 iH : Int
 cU : Sl
abbrev ud.v (r : ud) : Value := .agg #[.int .i64 r.At, .int .i64 r.eL, .int .i64 r.iw, .int .i64 r.iz, .int .i64 r.iJ, .int .i64 r.iM, .int .i64 r.ir, .int .i64 r.iu, .int .i64 r.iI, .int .i64 r.iE, .int .i64 r.iK, .int .i64 r.iG, .int .i64 r.iH, .slice r.cU.a r.cU.len r.cU.cap]
def qA (a : Addr) (K : ud → HP) : HP :=
 ag .i64 (a.add 0) fun x0 =>
 ag .i64 (a.add 1) fun x1 =>
 ag .i64 (a.add 2) fun x2 =>
 ag .i64 (a.add 3) fun x3 =>
 ag .i64 (a.add 4) fun x4 =>
 ag .i64 (a.add 5) fun x5 =>
 ag .i64 (a.add 6) fun x6 =>
 ag .i64 (a.add 7) fun x7 =>
 ag .i64 (a.add 8) fun x8 =>
 ag .i64 (a.add 9) fun x9 =>
 ag .i64 (a.add 10) fun gf =>
 ag .i64 (a.add 11) fun gD =>
 ag .i64 (a.add 12) fun jD =>
 aB (a.add 13) fun jT =>
 K ⟨x0, x1, x2, x3, x4, x5, x6, x7, x8, x9, gf, gD, jD, jT⟩
structure iD where
 At : Int
 eL : Int
 Kind : Int
 cq : Sl
abbrev iD.v (r : iD) : Value := .agg #[.int .i64 r.At, .int .i64 r.eL, .int .i64 r.Kind, .slice r.cq.a r.cq.len r.cq.cap]
def dG (a : Addr) (K : iD → HP) : HP :=
 ag .i64 (a.add 0) fun x0 =>
 ag .i64 (a.add 1) fun x1 =>
 ag .i64 (a.add 2) fun x2 =>
 aB (a.add 3) fun x3 =>
 K ⟨x0, x1, x2, x3⟩
structure B0 where
 cV : Int
 To : Int
abbrev B0.v (r : B0) : Value := .agg #[.int .i64 r.cV, .int .i64 r.To]
def qC (a : Addr) (K : B0 → HP) : HP :=
 ag .i64 (a.add 0) fun x0 =>
 ag .i64 (a.add 1) fun x1 =>
 K ⟨x0, x1⟩
structure fB where
 Seq : Int
 At : Int
 iw : Int
 iz : Int
 iJ : Int
 iM : Int
 ir : Int
 iu : Int
 iI : Int
 iE : Int
 iK : Int
 iG : Int
 iH : Int
 cU : Sl
abbrev fB.v (r : fB) : Value := .agg #[.int .i64 r.Seq, .int .i64 r.At, .int .i64 r.iw, .int .i64 r.iz, .int .i64 r.iJ, .int .i64 r.iM, .int .i64 r.ir, .int .i64 r.iu, .int .i64 r.iI, .int .i64 r.iE, .int .i64 r.iK, .int .i64 r.iG, .int .i64 r.iH, .slice r.cU.a r.cU.len r.cU.cap]
def kF (a : Addr) (K : fB → HP) : HP :=
 ag .i64 (a.add 0) fun x0 =>
 ag .i64 (a.add 1) fun x1 =>
 ag .i64 (a.add 2) fun x2 =>
 ag .i64 (a.add 3) fun x3 =>
 ag .i64 (a.add 4) fun x4 =>
 ag .i64 (a.add 5) fun x5 =>
 ag .i64 (a.add 6) fun x6 =>
 ag .i64 (a.add 7) fun x7 =>
 ag .i64 (a.add 8) fun x8 =>
 ag .i64 (a.add 9) fun x9 =>
 ag .i64 (a.add 10) fun gf =>
 ag .i64 (a.add 11) fun gD =>
 ag .i64 (a.add 12) fun jD =>
 aB (a.add 13) fun jT =>
 K ⟨x0, x1, x2, x3, x4, x5, x6, x7, x8, x9, gf, gD, jD, jT⟩
def BA (v : Value) (K : fB → HP) : HP :=
 asAgg v 14 fun cs =>
 ak .i64 (cs.getD 0 undef) fun x0 =>
 ak .i64 (cs.getD 1 undef) fun x1 =>
 ak .i64 (cs.getD 2 undef) fun x2 =>
 ak .i64 (cs.getD 3 undef) fun x3 =>
 ak .i64 (cs.getD 4 undef) fun x4 =>
 ak .i64 (cs.getD 5 undef) fun x5 =>
 ak .i64 (cs.getD 6 undef) fun x6 =>
 ak .i64 (cs.getD 7 undef) fun x7 =>
 ak .i64 (cs.getD 8 undef) fun x8 =>
 ak .i64 (cs.getD 9 undef) fun x9 =>
 ak .i64 (cs.getD 10 undef) fun gf =>
 ak .i64 (cs.getD 11 undef) fun gD =>
 ak .i64 (cs.getD 12 undef) fun jD =>
 bA (cs.getD 13 undef) fun jT =>
 K ⟨x0, x1, x2, x3, x4, x5, x6, x7, x8, x9, gf, gD, jD, jT⟩
structure aZ where
 Kind : Int
 bR : Int
 Seq : Int
 Next : Int
 bW : Int
 bV : Int
 Time : Int
 Flags : Int
 Body : Int
 bQ : Int
 Origin : Int
 Data : Sl
abbrev aZ.v (r : aZ) : Value := .agg #[.int .i64 r.Kind, .int .i64 r.bR, .int .i64 r.Seq, .int .i64 r.Next, .int .i64 r.bW, .int .i64 r.bV, .int .i64 r.Time, .int .i64 r.Flags, .int .i64 r.Body, .int .i64 r.bQ, .int .i64 r.Origin, .slice r.Data.a r.Data.len r.Data.cap]
def bq (a : Addr) (K : aZ → HP) : HP :=
 ag .i64 (a.add 0) fun x0 =>
 ag .i64 (a.add 1) fun x1 =>
 ag .i64 (a.add 2) fun x2 =>
 ag .i64 (a.add 3) fun x3 =>
 ag .i64 (a.add 4) fun x4 =>
 ag .i64 (a.add 5) fun x5 =>
 ag .i64 (a.add 6) fun x6 =>
 ag .i64 (a.add 7) fun x7 =>
 ag .i64 (a.add 8) fun x8 =>
 ag .i64 (a.add 9) fun x9 =>
 ag .i64 (a.add 10) fun gf =>
 aB (a.add 11) fun gD =>
 K ⟨x0, x1, x2, x3, x4, x5, x6, x7, x8, x9, gf, gD⟩
def fU (v : Value) (K : aZ → HP) : HP :=
 asAgg v 12 fun cs =>
 ak .i64 (cs.getD 0 undef) fun x0 =>
 ak .i64 (cs.getD 1 undef) fun x1 =>
 ak .i64 (cs.getD 2 undef) fun x2 =>
 ak .i64 (cs.getD 3 undef) fun x3 =>
 ak .i64 (cs.getD 4 undef) fun x4 =>
 ak .i64 (cs.getD 5 undef) fun x5 =>
 ak .i64 (cs.getD 6 undef) fun x6 =>
 ak .i64 (cs.getD 7 undef) fun x7 =>
 ak .i64 (cs.getD 8 undef) fun x8 =>
 ak .i64 (cs.getD 9 undef) fun x9 =>
 ak .i64 (cs.getD 10 undef) fun gf =>
 bA (cs.getD 11 undef) fun gD =>
 K ⟨x0, x1, x2, x3, x4, x5, x6, x7, x8, x9, gf, gD⟩
structure Js where
 d : Option Addr
 user : Int
 bound : Int
 next : Int
 l : Sl
abbrev Js.v (r : Js) : Value := .agg #[.pointer r.d, .int .i64 r.user, .int .i64 r.bound, .int .i64 r.next, .slice r.l.a r.l.len r.l.cap]
structure fK where
 seq : Int
 size : Int
 broken : Int
 l : Sl
abbrev fK.v (r : fK) : Value := .agg #[.int .i64 r.seq, .int .i64 r.size, .int .i64 r.broken, .slice r.l.a r.l.len r.l.cap]
def fS (a : Addr) (K : fK → HP) : HP :=
 ag .i64 (a.add 0) fun x0 =>
 ag .i64 (a.add 1) fun x1 =>
 ag .i64 (a.add 2) fun x2 =>
 aB (a.add 3) fun x3 =>
 K ⟨x0, x1, x2, x3⟩
structure Hq where
 b : Sl
 at_ : Int
 out : Sl
abbrev Hq.v (r : Hq) : Value := .agg #[.slice r.b.a r.b.len r.b.cap, .int .i64 r.at_, .slice r.out.a r.out.len r.out.cap]
structure I4 where
 b : Sl
abbrev I4.v (r : I4) : Value := .agg #[.slice r.b.a r.b.len r.b.cap]
structure FJ where
 b : Sl
 at_ : Int
 e : Int
abbrev FJ.v (r : FJ) : Value := .agg #[.slice r.b.a r.b.len r.b.cap, .int .i64 r.at_, .int .i64 r.e]
structure qN where
 L : Sl
 oR : Sl
abbrev qN.v (r : qN) : Value := .agg #[.slice r.L.a r.L.len r.L.cap, .slice r.oR.a r.oR.len r.oR.cap]
def GY (a : Addr) (K : qN → HP) : HP :=
 aB (a.add 0) fun x0 =>
 aB (a.add 1) fun x1 =>
 K ⟨x0, x1⟩
structure uH where
 C : Int
 Next : Int
 E : Int
abbrev uH.v (r : uH) : Value := .agg #[.int .u8 r.C, .int .i64 r.Next, .int .i64 r.E]
def nj (a : Addr) (K : uH → HP) : HP :=
 ag .u8 (a.add 0) fun x0 =>
 ag .i64 (a.add 1) fun x1 =>
 ag .i64 (a.add 2) fun x2 =>
 K ⟨x0, x1, x2⟩
structure Jf where
 zV : Sl
 sM : Sl
 ux : Sl
 nt : Sl
 P9 : Int
 Down : Bool
 Calls : Int
 acs : Int
 adV : Int
 Sf : Int
abbrev Jf.v (r : Jf) : Value := .agg #[.slice r.zV.a r.zV.len r.zV.cap, .slice r.sM.a r.sM.len r.sM.cap, .slice r.ux.a r.ux.len r.ux.cap, .slice r.nt.a r.nt.len r.nt.cap, .int .i64 r.P9, .bool r.Down, .int .i64 r.Calls, .int .i64 r.acs, .int .i64 r.adV, .int .i64 r.Sf]
structure jR where
 Name : ByteArray
 aO : Int
abbrev jR.v (r : jR) : Value := .agg #[.string r.Name, .int .i64 r.aO]
def MG (a : Addr) (K : jR → HP) : HP :=
 bE (a.add 0) fun x0 =>
 ag .i64 (a.add 1) fun x1 =>
 K ⟨x0, x1⟩
def KP (v : Value) (K : jR → HP) : HP :=
 asAgg v 2 fun cs =>
 bX (cs.getD 0 undef) fun x0 =>
 ak .i64 (cs.getD 1 undef) fun x1 =>
 K ⟨x0, x1⟩
structure MT where
 sM : ByteArray
 ux : ByteArray
 nt : Sl
abbrev MT.v (r : MT) : Value := .agg #[.string r.sM, .string r.ux, .slice r.nt.a r.nt.len r.nt.cap]
structure jf where
 cV : ByteArray
 To : ByteArray
 aO : Int
abbrev jf.v (r : jf) : Value := .agg #[.string r.cV, .string r.To, .int .i64 r.aO]
def EW (a : Addr) (K : jf → HP) : HP :=
 bE (a.add 0) fun x0 =>
 bE (a.add 1) fun x1 =>
 ag .i64 (a.add 2) fun x2 =>
 K ⟨x0, x1, x2⟩
def CT (v : Value) (K : jf → HP) : HP :=
 asAgg v 3 fun cs =>
 bX (cs.getD 0 undef) fun x0 =>
 bX (cs.getD 1 undef) fun x1 =>
 ak .i64 (cs.getD 2 undef) fun x2 =>
 K ⟨x0, x1, x2⟩
structure qo where
 L : Sl
 pO : Int
abbrev qo.v (r : qo) : Value := .agg #[.slice r.L.a r.L.len r.L.cap, .int .i64 r.pO]
def J4 (a : Addr) (K : qo → HP) : HP :=
 aB (a.add 0) fun x0 =>
 ag .i64 (a.add 1) fun x1 =>
 K ⟨x0, x1⟩
structure J5 where
 D : Option Addr
 bR : Int
 Pa : Int
 Next : Int
 L : Sl
abbrev J5.v (r : J5) : Value := .agg #[.pointer r.D, .int .i64 r.bR, .int .i64 r.Pa, .int .i64 r.Next, .slice r.L.a r.L.len r.L.cap]
structure Ax where
 Seq : Int
 bQ : Int
 pO : Int
 L : Sl
abbrev Ax.v (r : Ax) : Value := .agg #[.int .i64 r.Seq, .int .i64 r.bQ, .int .i64 r.pO, .slice r.L.a r.L.len r.L.cap]
def Y3 (a : Addr) (K : Ax → HP) : HP :=
 ag .i64 (a.add 0) fun x0 =>
 ag .i64 (a.add 1) fun x1 =>
 ag .i64 (a.add 2) fun x2 =>
 aB (a.add 3) fun x3 =>
 K ⟨x0, x1, x2, x3⟩
structure AA where
 width : Int
 low : Int
 high : Int
 at_ : Option Addr
abbrev AA.v (r : AA) : Value := .agg #[.int .i64 r.width, .int .i64 r.low, .int .i64 r.high, .pointer r.at_]
def fM (a : Addr) (K : AA → HP) : HP :=
 ag .i64 (a.add 0) fun x0 =>
 ag .i64 (a.add 1) fun x1 =>
 ag .i64 (a.add 2) fun x2 =>
 ct (a.add 3) fun x3 =>
 K ⟨x0, x1, x2, x3⟩
structure Mi where
 room : Int
 nodes : Sl
 seen : Option Nat
 sure : Option Nat
 bP : Sl
 off : Bool
 count : Int
 acW : Int
 af2 : Int
 Yq : Int
 aeh : Int
abbrev Mi.v (r : Mi) : Value := .agg #[.int .i64 r.room, .slice r.nodes.a r.nodes.len r.nodes.cap, .map r.seen, .map r.sure, .slice r.bP.a r.bP.len r.bP.cap, .bool r.off, .int .i64 r.count, .int .i64 r.acW, .int .i64 r.af2, .int .i64 r.Yq, .int .i64 r.aeh]
structure iA where
 node : Int
 name : ByteArray
 made : Bool
abbrev iA.v (r : iA) : Value := .agg #[.int .i64 r.node, .string r.name, .bool r.made]
def oN (a : Addr) (K : iA → HP) : HP :=
 ag .i64 (a.add 0) fun x0 =>
 bE (a.add 1) fun x1 =>
 fX (a.add 2) fun x2 =>
 K ⟨x0, x1, x2⟩
def CE (v : Value) (K : iA → HP) : HP :=
 asAgg v 3 fun cs =>
 ak .i64 (cs.getD 0 undef) fun x0 =>
 bX (cs.getD 1 undef) fun x1 =>
 jk (cs.getD 2 undef) fun x2 =>
 K ⟨x0, x1, x2⟩
structure Nj where
 seen : ByteArray
 sure : ByteArray
 cF : Sl
 fresh : Bool
abbrev Nj.v (r : Nj) : Value := .agg #[.string r.seen, .string r.sure, .slice r.cF.a r.cF.len r.cF.cap, .bool r.fresh]
structure gE where
 place : Int
 bytes : ByteArray
abbrev gE.v (r : gE) : Value := .agg #[.int .i64 r.place, .string r.bytes]
def jb (a : Addr) (K : gE → HP) : HP :=
 ag .i64 (a.add 0) fun x0 =>
 bE (a.add 1) fun x1 =>
 K ⟨x0, x1⟩
def xU (v : Value) (K : gE → HP) : HP :=
 asAgg v 2 fun cs =>
 ak .i64 (cs.getD 0 undef) fun x0 =>
 bX (cs.getD 1 undef) fun x1 =>
 K ⟨x0, x1⟩
structure oW where
 left : Int
 code : Int
abbrev oW.v (r : oW) : Value := .agg #[.int .i64 r.left, .int .i64 r.code]
def wI (a : Addr) (K : oW → HP) : HP :=
 ag .i64 (a.add 0) fun x0 =>
 ag .i64 (a.add 1) fun x1 =>
 K ⟨x0, x1⟩
def yq (p0 : ByteArray) (p1 : Int) (K : Int → HP) : HP :=
 CW p0 p1 fun t7 =>
 K t7
def afo (xs : List Value) (K : Value → HP) : HP :=
 arity xs 2 <|
 bX (xs.getD 0 undef) fun p0 =>
 ak .u8 (xs.getD 1 undef) fun p1 =>
 yq p0 p1 (fun r0 => K (.int .i64 r0))
def vB (p0 : ByteArray) (p1 : Int) (K : Int → HP) : HP :=
 yq p0 p1 fun t7 =>
 K t7
def adK (xs : List Value) (K : Value → HP) : HP :=
 arity xs 2 <|
 bX (xs.getD 0 undef) fun p0 =>
 ak .u8 (xs.getD 1 undef) fun p1 =>
 vB p0 p1 (fun r0 => K (.int .i64 r0))
def nO (p0 : ByteArray) (K : Bool → HP) : HP :=
 loop (σ := List Value) (fun R1 vs1 =>
 ak .i64 (vs1.getD 0 undef) fun t6 =>
 bif (decide ((t6 : Int) < (p0.size : Nat))) then (
 nR p0 t6 fun t11 =>
 vB (⟨#[97, 98, 99, 100, 101, 102, 103, 104, 105, 106, 107, 108, 109, 110, 111, 112, 113, 114, 115, 116, 117, 118, 119, 120, 121, 122, 48, 49, 50, 51, 52, 53, 54, 55, 56, 57, 46, 45]⟩ : ByteArray) t11 fun t12 =>
 bif (decide ((t12 : Int) < 0)) then (
 K false) else
 R1 [.int .i64 (ay (t6 + 1))]) else
 bif (!decide (p0 = (⟨#[]⟩ : ByteArray))) then (
 K (decide (((p0.size : Nat) : Int) ≤ 32))) else
 K false) [.int .i64 0]
def aeR (xs : List Value) (K : Value → HP) : HP :=
 arity xs 1 <|
 bX (xs.getD 0 undef) fun p0 =>
 nO p0 (fun r0 => K (.bool r0))
def qO (p0 : Option Addr) (K : Int → HP) : HP :=
 nn p0 fun t7 =>
 ag .i64 (t7.add 0) fun t9 =>
 nn p0 fun t11 =>
 gp (t11.add 2) fun t13 =>
 mc t13 fun t14 =>
 loop (σ := List Value) (fun R1 vs1 =>
 ak .i64 (vs1.getD 0 undef) fun t3 =>
 ki t14 (
 K t3) fun t15k t15v =>
 mQ t14 fun t17k t17v =>
 rF t17k fun t17k =>
 lW .i64 t17v fun t17v =>
 nn p0 fun t21 =>
 aB (t21.add 1) fun t23 =>
 aL t23 1 t17v fun t25 =>
 ct t25 fun t26 =>
 nn t26 fun t27 =>
 bE (t27.add 0) fun t29 =>
 R1 [.int .i64 (ay (t3 - (t29.size : Nat)))]) [.int .i64 t9]
def Yf (xs : List Value) (K : Value → HP) : HP :=
 arity xs 1 <|
 bu (xs.getD 0 undef) fun p0 =>
 qO p0 (fun r0 => K (.int .i64 r0))
def ob (p0 : Option Nat) (K : Option Nat → HP) : HP :=
 bif p0.isNone then (
 K none) else
 DN p0 fun t7 =>
 K (some t7)
def Q9 (xs : List Value) (K : Value → HP) : HP :=
 arity xs 1 <|
 mB (xs.getD 0 undef) fun p0 =>
 ob p0 (fun r0 => K (.map r0))
def qc (t5 : Nat) (t7 : Nat) (t27 : Sl) (t28 : Int) (t29 : Int) (t57 : Bool) (K : Option Addr → HP) (R1 : List Value → HP) : HP :=
 bif t57 then (
 K none) else
 nn (some (af t5)) fun t59 =>
 gp (t59.add 2) fun t61 =>
 bE ((af t7).add 0) fun t63 =>
 nn (some (af t5)) fun t65 =>
 aB (t65.add 1) fun t67 =>
 vY .string t61 (Value.string t63) (Value.int .i64 (t67.len : Nat)) (
 nn (some (af t5)) fun t71 =>
 aB (t71.add 1) fun t73 =>
 aB ((af t7).add 1) fun t75 =>
 ef t75 fun t76 =>
 aB ((af t7).add 1) fun t78 =>
 ef t78 fun t79 =>
 az #[.string t76, .string t79, .slice none 0 0, .bool false] fun t81 =>
 held (aB (t71.add 1) fun t73_2 =>
 fun _ => (Value.slice t73_2.a t73_2.len t73_2.cap) = (Value.slice t73.a t73.len t73.cap)) (
 az #[.pointer (some (af t81))] fun t82 =>
 held (aB (t71.add 1) fun t73_1 =>
 fun _ => (Value.slice t73_1.a t73_1.len t73_1.cap) = (Value.slice t73.a t73.len t73.cap)) (
 app 1 8 #[.pointer none] t73 (⟨some (af t82), 1, 1⟩ : Sl) fun t83 =>
 nn (some (af t5)) fun t84 =>
 aq (t84.add 1) 0 [.slice t83.a t83.len t83.cap] (
 R1 [.int .i64 (ay (t29 + 1))]))))
def uU (t5 : Nat) (t7 : Nat) (t9 : Bool) (t27 : Sl) (t28 : Int) (t29 : Int) (K : Option Addr → HP) (R1 : List Value → HP) : HP :=
 bif t9 then (
 held (fun _ => True) (
 qc t5 t7 t27 t28 t29 true K R1)) else
 bE ((af t7).add 0) fun t46 =>
 nO t46 fun t47 =>
 bif (!t47) then (
 held (fun _ => True) (
 qc t5 t7 t27 t28 t29 true K R1)) else
 aB ((af t7).add 1) fun t52 =>
 qO (some (af t5)) fun t55 =>
 held (aB ((af t7).add 1) fun t52_1 =>
 fun _ => (Value.slice t52_1.a t52_1.len t52_1.cap) = (Value.slice t52.a t52.len t52.cap)) (
 qc t5 t7 t27 t28 t29 (decide ((t55 : Int) < (t52.len : Nat))) K R1)
def pX (t0 : Sl) (t1 : Int) (t20 : Bool) (K : Option Addr → HP) : HP :=
 bif t20 then (
 K none) else
 yf (.map #[] 0) fun t22 =>
 az #[.int .i64 t1, .slice none 0 0, .map (some t22), .map none, .slice none 0 0, .bool false, .int .i64 0, .int .i64 (-1), .int .i64 0, .int .i64 (-1), .int .i64 0] fun t26 =>
 loop (σ := List Value) (fun R1 vs1 =>
 ak .i64 (vs1.getD 0 undef) fun t29 =>
 bif (decide ((t29 : Int) < (t0.len : Nat))) then (
 aL t0 2 t29 fun t31 =>
 C9 t31 fun t32 =>
 az #[.string (⟨#[]⟩ : ByteArray), .slice none 0 0] fun t7 =>
 aq (af t7) 0 [.string t32.Name, .slice t32.Data.a t32.Data.len t32.Data.cap] (
 nn (some (af t26)) fun t35 =>
 gp (t35.add 2) fun t37 =>
 bE ((af t7).add 0) fun t39 =>
 qZ .string t37 (Value.string t39) (
 uU t26 t7 false t0 (t0.len : Nat) t29 K R1) fun t40 =>
 lW .i64 t40 fun t40_1 =>
 uU t26 t7 true t0 (t0.len : Nat) t29 K R1)) else
 nn (some (af t26)) fun t89 =>
 gp (t89.add 2) fun t91 =>
 ob t91 fun t92 =>
 nn (some (af t26)) fun t93 =>
 aq (t93.add 3) 0 [.map t92] (
 K (some (af t26)))) [.int .i64 0]
def mL (p0 : Sl) (p1 : Int) (K : Option Addr → HP) : HP :=
 bif (decide ((p1 : Int) < 1)) then (
 pX p0 p1 true K) else
 bif (decide ((4194304 : Int) < p1)) then (
 pX p0 p1 true K) else
 pX p0 p1 (decide ((1024 : Int) < (p0.len : Nat))) K
def Vi (xs : List Value) (K : Value → HP) : HP :=
 arity xs 2 <|
 bA (xs.getD 0 undef) fun p0 =>
 ak .i64 (xs.getD 1 undef) fun p1 =>
 mL p0 p1 (fun r0 => K (.pointer r0))
def qu (p0 : Int) (K : Bool → HP) : HP :=
 bif (decide ((1 : Int) ≤ p0)) then (
 K (decide ((p0 : Int) ≤ 999))) else
 K false
def QY (xs : List Value) (K : Value → HP) : HP :=
 arity xs 1 <|
 ak .i64 (xs.getD 0 undef) fun p0 =>
 qu p0 (fun r0 => K (.bool r0))
def xY (p0 : Int) (K : Bool → HP) : HP :=
 bif (decide ((1 : Int) ≤ p0)) then (
 K (decide ((p0 : Int) ≤ 99999999))) else
 K false
def QC (xs : List Value) (K : Value → HP) : HP :=
 arity xs 1 <|
 ak .i64 (xs.getD 0 undef) fun p0 =>
 xY p0 (fun r0 => K (.bool r0))
def yD (p0 : Int) (p1 : Int) (K : Int → Int → HP) : HP :=
 ng 32 (
 ng 32 (
 ng 32 (
 ng 32 (
 ng 32 (
 K (wr .u64 ((wr .u64 ((wr .u64 ((eM .u64 p0 32) * (eM .u64 p1 32))) + (eM .u64 (wr .u64 ((wr .u64 ((eM .u64 p0 32) * (gM .u64 p1 4294967295))) + (eM .u64 (wr .u64 ((gM .u64 p0 4294967295) * (gM .u64 p1 4294967295))) 32))) 32))) + (eM .u64 (wr .u64 ((gM .u64 (wr .u64 ((wr .u64 ((eM .u64 p0 32) * (gM .u64 p1 4294967295))) + (eM .u64 (wr .u64 ((gM .u64 p0 4294967295) * (gM .u64 p1 4294967295))) 32))) 4294967295) + (wr .u64 ((gM .u64 p0 4294967295) * (eM .u64 p1 32))))) 32))) (wr .u64 (p0 * p1)))))))
def ZD (xs : List Value) (K : Value → HP) : HP :=
 arity xs 2 <|
 ak .u64 (xs.getD 0 undef) fun p0 =>
 ak .u64 (xs.getD 1 undef) fun p1 =>
 yD p0 p1 (fun r0 r1 => K (.tuple #[.int .u64 r0, .int .u64 r1]))
def tW (p0 : Int) (p1 : Int) (K : Int → Int → HP) : HP :=
 yD p0 p1 fun t25a t25b =>
 K t25a t25b
def afu (xs : List Value) (K : Value → HP) : HP :=
 arity xs 2 <|
 ak .u64 (xs.getD 0 undef) fun p0 =>
 ak .u64 (xs.getD 1 undef) fun p1 =>
 tW p0 p1 (fun r0 r1 => K (.tuple #[.int .u64 r0, .int .u64 r1]))
def vK (t0 : Sl) (t7 : Int) (t8 : Int) (K : Sl → HP) : HP :=
 BW t7 fun t54 =>
 eY t54 1 0 t7 t7 fun t57 =>
 xy 1 t57 t0 fun t60 =>
 loop (σ := List Value) (fun R1 vs1 =>
 ak .i64 (vs1.getD 0 undef) fun t10 =>
 bif (decide ((t10 : Int) < t7)) then (
 eY t57 1 t10 (t57.len : Nat) (t57.cap : Nat) fun t70 =>
 eY t57 1 0 (if (t8 : Int) < t10 then t8 else t10) (t57.cap : Nat) fun t73 =>
 xy 1 t70 t73 fun t74 =>
 R1 [.int .i64 (ay (t10 + t74))]) else
 K t57) [.int .i64 t60]
def CB (t0 : Sl) (t6 : Int) (t32 : Bool) (K : Sl → HP) : HP :=
 bif t32 then (
 no) else
 bif (decide (((t0.len : Nat) : Int) = 0)) then (
 az #[] fun t39 =>
 K (⟨some (af t39), 0, 0⟩ : Sl)) else
 bif (decide ((8192 : Int) < (ay t6))) then (
 nz (t0.len : Nat) (
 bif (decide ((ay ((ay (Int.tdiv 8192 (t0.len : Nat))) * (t0.len : Nat)) : Int) = 0)) then (
 vK t0 (ay t6) (t0.len : Nat) K) else
 vK t0 (ay t6) (ay ((ay (Int.tdiv 8192 (t0.len : Nat))) * (t0.len : Nat))) K)) else
 vK t0 (ay t6) (ay t6) K
def sS (p0 : Sl) (p1 : Int) (K : Sl → HP) : HP :=
 bif (decide ((p1 : Int) = 0)) then (
 az #[] fun t14 =>
 K (⟨some (af t14), 0, 0⟩ : Sl)) else
 bif (decide ((p1 : Int) < 0)) then (
 no) else
 tW (wr .u64 (p0.len : Nat)) (wr .u64 p1) fun t24a t24b =>
 bif (decide ((0 : Int) < t24a)) then (
 CB p0 t24b true K) else
 CB p0 t24b (decide ((9223372036854775807 : Int) < t24b)) K
def Uk (xs : List Value) (K : Value → HP) : HP :=
 arity xs 2 <|
 bA (xs.getD 0 undef) fun p0 =>
 ak .i64 (xs.getD 1 undef) fun p1 =>
 sS p0 p1 (fun r0 => K (.slice r0.a r0.len r0.cap))
def rV (t0 : Int) (t5 : Sl) (t6 : Int) (t17 : Bool) (K : ByteArray → HP) (R1 : List Value → HP) : HP :=
 bif t17 then (
 nz 10 (
 aL t5 1 t6 fun t26 =>
 aq t26 0 [.int .u8 (wr .u8 (ay (48 + (Int.tmod t0 10))))] (
 nz 10 (
 R1 [.int .i64 (ay (Int.tdiv t0 10)), .int .i64 (ay (t6 - 1))])))) else
 ef t5 fun t30 =>
 K t30
def oO (p0 : Int) (p1 : Int) (K : ByteArray → HP) : HP :=
 az #[.int .u8 48] fun t7 =>
 sS (⟨some (af t7), 1, 1⟩ : Sl) p1 fun t9 =>
 loop (σ := List Value) (fun R1 vs1 =>
 ak .i64 (vs1.getD 0 undef) fun t0 =>
 ak .i64 (vs1.getD 1 undef) fun t6 =>
 bif (decide ((0 : Int) < t0)) then (
 rV t0 t9 t6 (decide ((0 : Int) ≤ t6)) K R1) else
 rV t0 t9 t6 false K R1) [.int .i64 p0, .int .i64 (ay (p1 - 1))]
def Xc (xs : List Value) (K : Value → HP) : HP :=
 arity xs 2 <|
 ak .i64 (xs.getD 0 undef) fun p0 =>
 ak .i64 (xs.getD 1 undef) fun p1 =>
 oO p0 p1 (fun r0 => K (.string r0))
def mz (p0 : Int) (K : ByteArray → HP) : HP :=
 oO p0 3 fun t4 =>
 cat (⟨#[99]⟩ : ByteArray) t4 fun t5 =>
 cat t5 (⟨#[45]⟩ : ByteArray) fun t6 =>
 K t6
def ZV (xs : List Value) (K : Value → HP) : HP :=
 arity xs 1 <|
 ak .i64 (xs.getD 0 undef) fun p0 =>
 mz p0 (fun r0 => K (.string r0))
def nK (t0 : Int) (t1 : Int) (t12 : Bool) (K : ByteArray → HP) : HP :=
 bif t12 then (
 K (⟨#[]⟩ : ByteArray)) else
 mz t0 fun t14 =>
 oO t1 8 fun t16 =>
 cat t14 t16 fun t17 =>
 K t17
def gO (p0 : Int) (p1 : Int) (K : ByteArray → HP) : HP :=
 qu p0 fun t6 =>
 bif (!t6) then (
 nK p0 p1 true K) else
 xY p1 fun t10 =>
 nK p0 p1 (!t10) K
def Px (xs : List Value) (K : Value → HP) : HP :=
 arity xs 2 <|
 ak .i64 (xs.getD 0 undef) fun p0 =>
 ak .i64 (xs.getD 1 undef) fun p1 =>
 gO p0 p1 (fun r0 => K (.string r0))
def jH (p0 : Option Addr) (K : Bool → HP) : HP :=
 nn p0 fun t4 =>
 fX (t4.add 5) fun t6 =>
 K t6
def aeI (xs : List Value) (K : Value → HP) : HP :=
 arity xs 1 <|
 bu (xs.getD 0 undef) fun p0 =>
 jH p0 (fun r0 => K (.bool r0))
def lX (C : Cx) (p0 : Option Addr) (K : Sl → HP) : HP :=
 nn p0 fun t4 =>
 fX (t4.add 5) fun t6 =>
 bif t6 then (
 K (⟨none, 0, 0⟩ : Sl)) else
 nn p0 fun t8 =>
 gp (t8.add 2) fun t10 =>
 Dn C t10 fun t11 =>
 Il C t11 fun t12 =>
 K t12
def V5 (C : Cx) (xs : List Value) (K : Value → HP) : HP :=
 arity xs 1 <|
 bu (xs.getD 0 undef) fun p0 =>
 lX C p0 (fun r0 => K (.slice r0.a r0.len r0.cap))
def ug (p0 : ByteArray) (p1 : ByteArray) (K : Bool → HP) : HP :=
 bif (decide (((p1.size : Nat) : Int) ≤ (p0.size : Nat))) then (
 lz p0 0 (p1.size : Nat) fun t14 =>
 K (decide (t14 = p1))) else
 K false
def adk (xs : List Value) (K : Value → HP) : HP :=
 arity xs 2 <|
 bX (xs.getD 0 undef) fun p0 =>
 bX (xs.getD 1 undef) fun p1 =>
 ug p0 p1 (fun r0 => K (.bool r0))
def oD (p0 : ByteArray) (p1 : ByteArray) (K : Bool → HP) : HP :=
 ug p0 p1 fun t7 =>
 K t7
def P7 (xs : List Value) (K : Value → HP) : HP :=
 arity xs 2 <|
 bX (xs.getD 0 undef) fun p0 =>
 bX (xs.getD 1 undef) fun p1 =>
 oD p0 p1 (fun r0 => K (.bool r0))
def vS (p0 : ByteArray) (p1 : ByteArray) (K : Bool → HP) : HP :=
 bif (decide (((p1.size : Nat) : Int) ≤ (p0.size : Nat))) then (
 lz p0 (ay ((p0.size : Nat) - (p1.size : Nat))) (p0.size : Nat) fun t17 =>
 K (decide (t17 = p1))) else
 K false
def OZ (xs : List Value) (K : Value → HP) : HP :=
 arity xs 2 <|
 bX (xs.getD 0 undef) fun p0 =>
 bX (xs.getD 1 undef) fun p1 =>
 vS p0 p1 (fun r0 => K (.bool r0))
def tY (p0 : ByteArray) (p1 : ByteArray) (K : Bool → HP) : HP :=
 vS p0 p1 fun t7 =>
 K t7
def Qz (xs : List Value) (K : Value → HP) : HP :=
 arity xs 2 <|
 bX (xs.getD 0 undef) fun p0 =>
 bX (xs.getD 1 undef) fun p1 =>
 tY p0 p1 (fun r0 => K (.bool r0))
def pT (p0 : Option Addr) (K : Bool → HP) : HP :=
 nn p0 fun t4 =>
 ag .i64 (t4.add 0) fun t6 =>
 bif (decide ((t6 : Int) < 0)) then (
 K false) else
 nn p0 fun t9 =>
 ag .i64 (t9.add 0) fun t11 =>
 nn p0 fun t13 =>
 aq (t13.add 0) 0 [.int .i64 (ay (t11 - 1))] (
 nn p0 fun t16 =>
 ag .i64 (t16.add 0) fun t18 =>
 K (decide ((t18 : Int) < 0)))
def abn (xs : List Value) (K : Value → HP) : HP :=
 arity xs 1 <|
 bu (xs.getD 0 undef) fun p0 =>
 pT p0 (fun r0 => K (.bool r0))
def mo (p0 : Option Addr) (K : Int → HP) : HP :=
 nn p0 fun t6 =>
 fX (t6.add 5) fun t8 =>
 bif t8 then (
 K 11) else
 nn p0 fun t10 =>
 ag .i64 (t10.add 6) fun t12 =>
 nn p0 fun t14 =>
 aq (t14.add 6) 0 [.int .i64 (ay (t12 + 1))] (
 nn p0 fun t17 =>
 nn p0 fun t21 =>
 pT (some (t17.add 9)) fun t19 =>
 pT (some (t21.add 7)) fun t23 =>
 bif t19 then (
 nn p0 fun t26 =>
 aq (t26.add 5) 0 [.bool true] (
 K 11)) else
 bif t23 then (
 nn p0 fun t30 =>
 ag .i64 ((t30.add 7).add 1) fun t33 =>
 K t33) else
 K 0)
def Qv (xs : List Value) (K : Value → HP) : HP :=
 arity xs 1 <|
 bu (xs.getD 0 undef) fun p0 =>
 mo p0 (fun r0 => K (.int .i64 r0))
def CR (t6 : Int) (t7 : Bool) (K : Int → Int → HP) : HP :=
 bif t7 then (
 K t6 0) else
 K 0 7
def mY (p0 : Option Addr) (p1 : ByteArray) (K : Int → Int → HP) : HP :=
 nn p0 fun t10 =>
 gp (t10.add 2) fun t12 =>
 qZ .string t12 (Value.string p1) (
 CR 0 false K) fun t14 =>
 lW .i64 t14 fun t14_1 =>
 CR t14_1 true K
def Z1 (xs : List Value) (K : Value → HP) : HP :=
 arity xs 2 <|
 bu (xs.getD 0 undef) fun p0 =>
 bX (xs.getD 1 undef) fun p1 =>
 mY p0 p1 (fun r0 r1 => K (.tuple #[.int .i64 r0, .int .i64 r1]))
def oc (p0 : Option Addr) (p1 : ByteArray) (K : Int → Int → HP) : HP :=
 mo p0 fun t8 =>
 bif (!decide ((t8 : Int) = 0)) then (
 K 0 t8) else
 mY p0 p1 fun t14a t14b =>
 K t14a t14b
def aap (xs : List Value) (K : Value → HP) : HP :=
 arity xs 2 <|
 bu (xs.getD 0 undef) fun p0 =>
 bX (xs.getD 1 undef) fun p1 =>
 oc p0 p1 (fun r0 r1 => K (.tuple #[.int .i64 r0, .int .i64 r1]))
def qR (p0 : Option Nat) (p1 : iA) (K : HP) : HP :=
 az #[.int .i64 p1.node, .string p1.name, .bool p1.made] fun t3 =>
 mc p0 fun t7 =>
 loop (σ := List Value) (fun R1 vs1 =>
 ki t7 (
 bE ((af t3).add 1) fun t20 =>
 bif (!decide (t20 = (⟨#[]⟩ : ByteArray))) then (
 bE ((af t3).add 1) fun t24 =>
 ag .i64 ((af t3).add 0) fun t26 =>
 vY .string p0 (Value.string t24) (Value.int .i64 t26) (
 K)) else
 K) fun t8k t8v =>
 mQ t7 fun t10k t10v =>
 rF t10k fun t10k =>
 lW .i64 t10v fun t10v =>
 ag .i64 ((af t3).add 0) fun t15 =>
 bif (decide ((t10v : Int) = t15)) then (
 Ah .string p0 (Value.string t10k) (
 R1 [])) else
 R1 []) []
def RT (xs : List Value) (K : Value → HP) : HP :=
 arity xs 2 <|
 mB (xs.getD 0 undef) fun p0 =>
 CE (xs.getD 1 undef) fun p1 =>
 qR p0 p1 (K (.tuple #[]))
def mT (p0 : Option Addr) (p1 : iA) (K : HP) : HP :=
 az #[.int .i64 p1.node, .string p1.name, .bool p1.made] fun t3 =>
 nn p0 fun t6 =>
 aB (t6.add 4) fun t8 =>
 oN (af t3) fun t9 =>
 az #[.int .i64 t9.node, .string t9.name, .bool t9.made] fun t10 =>
 held (aB (t6.add 4) fun t8_1 =>
 fun _ => (Value.slice t8_1.a t8_1.len t8_1.cap) = (Value.slice t8.a t8.len t8.cap)) (
 app 3 32 #[.int .i64 0, .string (⟨#[]⟩ : ByteArray), .bool false] t8 (⟨some (af t10), 1, 1⟩ : Sl) fun t11 =>
 nn p0 fun t12 =>
 aq (t12.add 4) 0 [.slice t11.a t11.len t11.cap] (
 nn p0 fun t15 =>
 gp (t15.add 2) fun t17 =>
 oN (af t3) fun t18 =>
 qR t17 t18 (
 K)))
def VF (xs : List Value) (K : Value → HP) : HP :=
 arity xs 2 <|
 bu (xs.getD 0 undef) fun p0 =>
 CE (xs.getD 1 undef) fun p1 =>
 mT p0 p1 (K (.tuple #[]))
def lP (p0 : Option Addr) (p1 : ByteArray) (K : Int → HP) : HP :=
 oc p0 p1 fun t10a t10b =>
 bif (decide ((t10b : Int) = 0)) then (
 mT p0 (⟨t10a, (⟨#[]⟩ : ByteArray), false⟩ : iA) (
 K t10b)) else
 K t10b
def Sq (xs : List Value) (K : Value → HP) : HP :=
 arity xs 2 <|
 bu (xs.getD 0 undef) fun p0 =>
 bX (xs.getD 1 undef) fun p1 =>
 lP p0 p1 (fun r0 => K (.int .i64 r0))
def sw (C : Cx) (t0 : Option Addr) (t1 : ByteArray) (t9 : Sl) (t10 : Int) (t11 : Int) (K : Int → HP) (R1 : List Value → HP) : HP :=
 R1 [.int .i64 (ay (t11 + 1))]
def yd (C : Cx) (t0 : Option Addr) (t1 : ByteArray) (t6 : ByteArray) (t9 : Sl) (t10 : Int) (t11 : Int) (t21 : Bool) (K : Int → HP) (R1 : List Value → HP) : HP :=
 bif t21 then (
 lP t0 t6 fun t24 =>
 bif (!decide ((t24 : Int) = 0)) then (
 K t24) else
 sw C t0 t1 t9 t10 t11 K R1) else
 sw C t0 t1 t9 t10 t11 K R1
def sI (C : Cx) (p0 : Option Addr) (p1 : ByteArray) (K : Int → HP) : HP :=
 lX C p0 fun t9 =>
 loop (σ := List Value) (fun R1 vs1 =>
 ak .i64 (vs1.getD 0 undef) fun t11 =>
 bif (decide ((t11 : Int) < (t9.len : Nat))) then (
 aL t9 1 t11 fun t13 =>
 bE t13 fun t14 =>
 oD t14 p1 fun t17 =>
 bif t17 then (
 tY t14 (⟨#[46, 110]⟩ : ByteArray) fun t20 =>
 yd C p0 p1 t14 t9 (t9.len : Nat) t11 t20 K R1) else
 yd C p0 p1 t14 t9 (t9.len : Nat) t11 false K R1) else
 K 0) [.int .i64 0]
def OR (C : Cx) (xs : List Value) (K : Value → HP) : HP :=
 arity xs 2 <|
 bu (xs.getD 0 undef) fun p0 =>
 bX (xs.getD 1 undef) fun p1 =>
 sI C p0 p1 (fun r0 => K (.int .i64 r0))
def xq (p0 : ByteArray) (p1 : ByteArray) (K : ByteArray → HP) : HP :=
 ug p0 p1 fun t7 =>
 bif t7 then (
 lz p0 (p1.size : Nat) (p0.size : Nat) fun t11 =>
 K t11) else
 K p0
def P3 (xs : List Value) (K : Value → HP) : HP :=
 arity xs 2 <|
 bX (xs.getD 0 undef) fun p0 =>
 bX (xs.getD 1 undef) fun p1 =>
 xq p0 p1 (fun r0 => K (.string r0))
def yF (p0 : ByteArray) (p1 : ByteArray) (K : ByteArray → HP) : HP :=
 xq p0 p1 fun t7 =>
 K t7
def VY (xs : List Value) (K : Value → HP) : HP :=
 arity xs 2 <|
 bX (xs.getD 0 undef) fun p0 =>
 bX (xs.getD 1 undef) fun p1 =>
 yF p0 p1 (fun r0 => K (.string r0))
def qj (t0 : Int) (t1 : ByteArray) (t5 : Int) (t7 : Int) (t12 : Sl) (t13 : Int) (t14 : Int) (t27 : Bool) (K : Int → HP) (R1 : List Value → HP) : HP :=
 bif t27 then (
 K 0) else
 R1 [.int .i64 (ay ((ay (10 * t5)) + (ay (wr .u8 (t7 - 48))))), .int .i64 (ay (t14 + 1))]
def pJ (p0 : Int) (p1 : ByteArray) (K : Int → HP) : HP :=
 mz p0 fun t10 =>
 yF p1 t10 fun t11 =>
 kD t11 fun t12 =>
 loop (σ := List Value) (fun R1 vs1 =>
 ak .i64 (vs1.getD 0 undef) fun t5 =>
 ak .i64 (vs1.getD 1 undef) fun t14 =>
 bif (decide ((t14 : Int) < (t12.len : Nat))) then (
 aL t12 1 t14 fun t16 =>
 ag .u8 t16 fun t17 =>
 bif (decide ((t17 : Int) < 48)) then (
 qj p0 p1 t5 t17 t12 (t12.len : Nat) t14 true K R1) else
 bif (decide ((57 : Int) < t17)) then (
 qj p0 p1 t5 t17 t12 (t12.len : Nat) t14 true K R1) else
 qj p0 p1 t5 t17 t12 (t12.len : Nat) t14 (decide ((99999999 : Int) < t5)) K R1) else
 gO p0 t5 fun t37 =>
 bif (!decide (t37 = p1)) then (
 K 0) else
 K t5) [.int .i64 0, .int .i64 0]
def Sh (xs : List Value) (K : Value → HP) : HP :=
 arity xs 2 <|
 ak .i64 (xs.getD 0 undef) fun p0 =>
 bX (xs.getD 1 undef) fun p1 =>
 pJ p0 p1 (fun r0 => K (.int .i64 r0))
def oB (p0 : Option Addr) (p1 : ByteArray) (K : ByteArray → Int → HP) : HP :=
 nn p0 fun t9 =>
 fX (t9.add 5) fun t11 =>
 bif t11 then (
 K (⟨#[]⟩ : ByteArray) 11) else
 mY p0 p1 fun t15a t15b =>
 bif (!decide ((t15b : Int) = 0)) then (
 K (⟨#[]⟩ : ByteArray) t15b) else
 nn p0 fun t22 =>
 aB (t22.add 1) fun t24 =>
 aL t24 1 t15a fun t26 =>
 ct t26 fun t27 =>
 nn t27 fun t28 =>
 bE (t28.add 0) fun t30 =>
 K t30 0
def SR (xs : List Value) (K : Value → HP) : HP :=
 arity xs 2 <|
 bu (xs.getD 0 undef) fun p0 =>
 bX (xs.getD 1 undef) fun p1 =>
 oB p0 p1 (fun r0 r1 => K (.tuple #[.string r0, .int .i64 r1]))
def mZ (p0 : Option Addr) (p1 : ByteArray) (K : Sl → Int → HP) : HP :=
 oB p0 p1 fun t11a t11b =>
 kD t11a fun t15 =>
 K t15 t11b
def Zs (xs : List Value) (K : Value → HP) : HP :=
 arity xs 2 <|
 bu (xs.getD 0 undef) fun p0 =>
 bX (xs.getD 1 undef) fun p1 =>
 mZ p0 p1 (fun r0 r1 => K (.tuple #[.slice r0.a r0.len r0.cap, .int .i64 r1]))
def uD (p0 : Int) (p1 : Addr) (p2 : Addr) (K : HP) : HP :=
 ag .i64 p1 fun t4 =>
 bif (decide ((t4 : Int) < p0)) then (
 aB p2 fun t7 =>
 ag .i64 p1 fun t8 =>
 az #[.int .i64 t8, .int .i64 p0] fun t11 =>
 app 2 16 #[.int .i64 0, .int .i64 0] t7 (⟨some (af t11), 1, 1⟩ : Sl) fun t12 =>
 aq p2 0 [.slice t12.a t12.len t12.cap] (
 K)) else
 K
def Iw (xs : List Value) (K : Value → HP) : HP :=
 arity xs 3 <|
 ak .i64 (xs.getD 0 undef) fun p0 =>
 dU (xs.getD 1 undef) fun p1 =>
 dU (xs.getD 2 undef) fun p2 =>
 uD p0 p1 p2 (K (.tuple #[]))
def sV (t0 : Option Addr) (t1 : Int) (t5 : Int) (K : Int → HP) (R1 : List Value → HP) : HP :=
 nn t0 fun t92 =>
 aB (t92.add 2) fun t94 =>
 az #[.int .u8 t5] fun t96 =>
 app 1 1 #[.int .u8 0] t94 (⟨some (af t96), 1, 1⟩ : Sl) fun t97 =>
 nn t0 fun t98 =>
 aq (t98.add 2) 0 [.slice t97.a t97.len t97.cap] (
 R1 [])
def oG (p0 : Option Addr) (p1 : Int) (K : Int → HP) : HP :=
 loop (σ := List Value) (fun R1 vs1 =>
 nn p0 fun t7 =>
 aB (t7.add 2) fun t9 =>
 bif (decide (((t9.len : Nat) : Int) < p1)) then (
 nn p0 fun t14 =>
 ag .i64 (t14.add 1) fun t16 =>
 nn p0 fun t18 =>
 aB (t18.add 0) fun t20 =>
 bif (decide ((t16 : Int) = (t20.len : Nat))) then (
 K 2) else
 nn p0 fun t24 =>
 aB (t24.add 0) fun t26 =>
 nn p0 fun t28 =>
 ag .i64 (t28.add 1) fun t30 =>
 aL t26 1 t30 fun t31 =>
 ag .u8 t31 fun t32 =>
 bif (decide ((t32 : Int) = 80)) then (
 K 3) else
 bif (!decide ((t32 : Int) = 81)) then (
 nn p0 fun t59 =>
 ag .i64 (t59.add 1) fun t61 =>
 nn p0 fun t63 =>
 aq (t63.add 1) 0 [.int .i64 (ay (t61 + 1))] (
 sV p0 p1 t32 K R1)) else
 nn p0 fun t67 =>
 ag .i64 (t67.add 1) fun t69 =>
 nn p0 fun t72 =>
 aB (t72.add 0) fun t74 =>
 bif (decide ((ay (t69 + 1) : Int) = (t74.len : Nat))) then (
 K 2) else
 nn p0 fun t79 =>
 aB (t79.add 0) fun t81 =>
 nn p0 fun t83 =>
 ag .i64 (t83.add 1) fun t85 =>
 aL t81 1 (ay (t85 + 1)) fun t87 =>
 ag .u8 t87 fun t88 =>
 bif (decide ((1 : Int) < t88)) then (
 K 3) else
 nn p0 fun t34 =>
 aB (t34.add 0) fun t36 =>
 nn p0 fun t38 =>
 ag .i64 (t38.add 1) fun t40 =>
 aL t36 1 (ay (t40 + 1)) fun t42 =>
 ag .u8 t42 fun t43 =>
 nn p0 fun t46 =>
 ag .i64 (t46.add 1) fun t48 =>
 nn p0 fun t50 =>
 aq (t50.add 1) 0 [.int .i64 (ay (t48 + 2))] (
 sV p0 p1 (wr .u8 (80 + t43)) K R1)) else
 K 0) []
def RQ (xs : List Value) (K : Value → HP) : HP :=
 arity xs 2 <|
 bu (xs.getD 0 undef) fun p0 =>
 ak .i64 (xs.getD 1 undef) fun p1 =>
 oG p0 p1 (fun r0 => K (.int .i64 r0))
def lU (p0 : Int) (K : Bool → HP) : HP :=
 bif (decide ((1 : Int) ≤ p0)) then (
 K (decide ((p0 : Int) ≤ 8))) else
 K false
def O2 (xs : List Value) (K : Value → HP) : HP :=
 arity xs 1 <|
 ak .i64 (xs.getD 0 undef) fun p0 =>
 lU p0 (fun r0 => K (.bool r0))
def oC (t0 : Sl) (t1 : Int) (t2 : Int) (t31 : Bool) (K : Int → Bool → HP) : HP :=
 bif t31 then (
 K 0 false) else
 eY t0 1 t1 (ay (t1 + t2)) (t0.cap : Nat) fun t37 =>
 loop (σ := List Value) (fun R1 vs1 =>
 ak .u64 (vs1.getD 0 undef) fun t8 =>
 ak .i64 (vs1.getD 1 undef) fun t39 =>
 bif (decide ((t39 : Int) < (t37.len : Nat))) then (
 aL t37 1 t39 fun t41 =>
 ag .u8 t41 fun t42 =>
 ng 8 (
 R1 [.int .u64 (uO .u64 (xQ .u64 t8 8) (wr .u64 t42)), .int .i64 (ay (t39 + 1))])) else
 K t8 true) [.int .u64 0, .int .i64 0]
def nW (p0 : Sl) (p1 : Int) (p2 : Int) (K : Int → Bool → HP) : HP :=
 lU p2 fun t12 =>
 bif (!t12) then (
 oC p0 p1 p2 true K) else
 bif (decide ((p1 : Int) < 0)) then (
 oC p0 p1 p2 true K) else
 bif (decide (((p0.len : Nat) : Int) < p1)) then (
 oC p0 p1 p2 true K) else
 oC p0 p1 p2 (decide ((ay ((p0.len : Nat) - p1) : Int) < p2)) K
def UJ (xs : List Value) (K : Value → HP) : HP :=
 arity xs 3 <|
 bA (xs.getD 0 undef) fun p0 =>
 ak .i64 (xs.getD 1 undef) fun p1 =>
 ak .i64 (xs.getD 2 undef) fun p2 =>
 nW p0 p1 p2 (fun r0 r1 => K (.tuple #[.int .u64 r0, .bool r1]))
def Dm (t0 : Nat) (t1 : Int) (t2 : Int) (t3 : Int) (t8 : Int) (K : nA → HP) (R1 : List Value → HP) (R2 : List Value → HP) : HP :=
 R2 [.int .u32 t2, .int .i64 (ay (t8 + 1))]
def rP (K : nA → HP) : HP :=
 az #[.int .u32 0, .int .u32 0, .int .u32 0, .int .u32 0, .int .u32 0, .int .u32 0, .int .u32 0, .int .u32 0, .int .u32 0, .int .u32 0, .int .u32 0, .int .u32 0, .int .u32 0, .int .u32 0, .int .u32 0, .int .u32 0] fun t0 =>
 loop (σ := List Value) (fun R1 vs1 =>
 ak .i64 (vs1.getD 0 undef) fun t3 =>
 bif (decide ((t3 : Int) < 16)) then (
 loop (σ := List Value) (fun R2 vs2 =>
 ak .u32 (vs2.getD 0 undef) fun t2 =>
 ak .i64 (vs2.getD 1 undef) fun t8 =>
 bif (decide ((t8 : Int) < 4)) then (
 bif (decide ((gM .u32 t2 1 : Int) = 1)) then (
 ng 1 (
 Dm t0 t3 (gu .u32 (eM .u32 t2 1) 3988292384) t3 t8 K R1 R2)) else
 ng 1 (
 Dm t0 t3 (eM .u32 t2 1) t3 t8 K R1 R2)) else
 vg (af t0) 16 1 t3 fun t21 =>
 aq t21 0 [.int .u32 t2] (
 R1 [.int .i64 (ay (t3 + 1))])) [.int .u32 (wr .u32 t3), .int .i64 0]) else
 yO (af t0) fun t23 =>
 aq (af t0) 0 [.int .u32 t23.c0, .int .u32 t23.c1, .int .u32 t23.c2, .int .u32 t23.c3, .int .u32 t23.c4, .int .u32 t23.c5, .int .u32 t23.c6, .int .u32 t23.c7, .int .u32 t23.c8, .int .u32 t23.c9, .int .u32 t23.iF, .int .u32 t23.xb, .int .u32 t23.uX, .int .u32 t23.wK, .int .u32 t23.xB, .int .u32 t23.nE] (
 yO (af t0) fun r0 =>
 K r0)) [.int .i64 0]
def aas (xs : List Value) (K : Value → HP) : HP :=
 arity xs 0 <|
 rP (fun r0 => K (r0.v))
def oX (p0 : Int) (p1 : Sl) (K : Int → HP) : HP :=
 rP fun t9 =>
 az #[.int .u32 0, .int .u32 0, .int .u32 0, .int .u32 0, .int .u32 0, .int .u32 0, .int .u32 0, .int .u32 0, .int .u32 0, .int .u32 0, .int .u32 0, .int .u32 0, .int .u32 0, .int .u32 0, .int .u32 0, .int .u32 0] fun t5 =>
 aq (af t5) 0 [.int .u32 t9.c0, .int .u32 t9.c1, .int .u32 t9.c2, .int .u32 t9.c3, .int .u32 t9.c4, .int .u32 t9.c5, .int .u32 t9.c6, .int .u32 t9.c7, .int .u32 t9.c8, .int .u32 t9.c9, .int .u32 t9.iF, .int .u32 t9.xb, .int .u32 t9.uX, .int .u32 t9.wK, .int .u32 t9.xB, .int .u32 t9.nE] (
 loop (σ := List Value) (fun R1 vs1 =>
 ak .u32 (vs1.getD 0 undef) fun t6 =>
 ak .i64 (vs1.getD 1 undef) fun t14 =>
 bif (decide ((t14 : Int) < (p1.len : Nat))) then (
 aL p1 1 t14 fun t16 =>
 ag .u8 t16 fun t17 =>
 vg (af t5) 16 1 (gM .u32 (gu .u32 t6 (wr .u32 t17)) 15) fun t24 =>
 ag .u32 t24 fun t25 =>
 ng 4 (
 vg (af t5) 16 1 (gM .u32 (gu .u32 t25 (eM .u32 (gu .u32 t6 (wr .u32 t17)) 4)) 15) fun t31 =>
 ag .u32 t31 fun t32 =>
 ng 4 (
 R1 [.int .u32 (gu .u32 t32 (eM .u32 (gu .u32 t25 (eM .u32 (gu .u32 t6 (wr .u32 t17)) 4)) 4)), .int .i64 (ay (t14 + 1))]))) else
 K (gu .u32 (if IntKind.signed .u32 then -1 else IntKind.max .u32) t6)) [.int .u32 (gu .u32 (if IntKind.signed .u32 then -1 else IntKind.max .u32) p0), .int .i64 0])
def Wj (xs : List Value) (K : Value → HP) : HP :=
 arity xs 2 <|
 ak .u32 (xs.getD 0 undef) fun p0 =>
 bA (xs.getD 1 undef) fun p1 =>
 oX p0 p1 (fun r0 => K (.int .u32 r0))
def yx (p0 : Sl) (K : Int → HP) : HP :=
 oX 0 p0 fun t4 =>
 K t4
def VH (xs : List Value) (K : Value → HP) : HP :=
 arity xs 1 <|
 bA (xs.getD 0 undef) fun p0 =>
 yx p0 (fun r0 => K (.int .u32 r0))
def qE (p0 : Sl) (p1 : Sl) (K : Int → HP) : HP :=
 yx p0 fun t6 =>
 oX t6 p1 fun t8 =>
 K t8
def QL (xs : List Value) (K : Value → HP) : HP :=
 arity xs 2 <|
 bA (xs.getD 0 undef) fun p0 =>
 bA (xs.getD 1 undef) fun p1 =>
 qE p0 p1 (fun r0 => K (.int .u32 r0))
def DF (t0 : Sl) (t1 : Int) (t4 : Nat) (t11 : Bool) (K : iD → Int → HP) : HP :=
 bif t11 then (
 dG (af t4) fun t20 =>
 aq (af t4) 0 [.int .i64 t20.At, .int .i64 t20.eL, .int .i64 t20.Kind, .slice t20.cq.a t20.cq.len t20.cq.cap] (
 dG (af t4) fun r4 =>
 K r4 1)) else
 bif (decide ((t1 : Int) = (t0.len : Nat))) then (
 dG (af t4) fun t26 =>
 aq (af t4) 0 [.int .i64 t26.At, .int .i64 t26.eL, .int .i64 t26.Kind, .slice t26.cq.a t26.cq.len t26.cq.cap] (
 dG (af t4) fun r4_1 =>
 K r4_1 2)) else
 aL t0 1 t1 fun t30 =>
 ag .u8 t30 fun t31 =>
 bif (!decide ((t31 : Int) = 80)) then (
 dG (af t4) fun t33 =>
 aq (af t4) 0 [.int .i64 t33.At, .int .i64 t33.eL, .int .i64 t33.Kind, .slice t33.cq.a t33.cq.len t33.cq.cap] (
 dG (af t4) fun r4_2 =>
 K r4_2 3)) else
 az #[.slice t0.a t0.len t0.cap, .int .i64 (ay (t1 + 1)), .slice none 0 0] fun t38 =>
 oG (some (af t38)) 5 fun t40 =>
 bif (!decide ((t40 : Int) = 0)) then (
 dG (af t4) fun t43 =>
 aq (af t4) 0 [.int .i64 t43.At, .int .i64 t43.eL, .int .i64 t43.Kind, .slice t43.cq.a t43.cq.len t43.cq.cap] (
 dG (af t4) fun r4 =>
 K r4 t40)) else
 nn (some (af t38)) fun t47 =>
 aB (t47.add 2) fun t49 =>
 nW t49 1 4 fun t50a t50b =>
 bif (decide ((65536 : Int) < t50a)) then (
 dG (af t4) fun t55 =>
 aq (af t4) 0 [.int .i64 t55.At, .int .i64 t55.eL, .int .i64 t55.Kind, .slice t55.cq.a t55.cq.len t55.cq.cap] (
 dG (af t4) fun r4_1 =>
 K r4_1 4)) else
 oG (some (af t38)) (ay (9 + (ay t50a))) fun t60 =>
 bif (!decide ((t60 : Int) = 0)) then (
 dG (af t4) fun t63 =>
 aq (af t4) 0 [.int .i64 t63.At, .int .i64 t63.eL, .int .i64 t63.Kind, .slice t63.cq.a t63.cq.len t63.cq.cap] (
 dG (af t4) fun r4_2 =>
 K r4_2 t60)) else
 nn (some (af t38)) fun t67 =>
 aB (t67.add 2) fun t69 =>
 nW t69 5 4 fun t70a t70b =>
 nn (some (af t38)) fun t74 =>
 aB (t74.add 2) fun t76 =>
 eY t76 1 0 5 (t76.cap : Nat) fun t77 =>
 nn (some (af t38)) fun t79 =>
 aB (t79.add 2) fun t81 =>
 eY t81 1 9 (t81.len : Nat) (t81.cap : Nat) fun t82 =>
 qE t77 t82 fun t83 =>
 bif (!decide ((wr .u64 t83 : Int) = t70a)) then (
 dG (af t4) fun t87 =>
 aq (af t4) 0 [.int .i64 t87.At, .int .i64 t87.eL, .int .i64 t87.Kind, .slice t87.cq.a t87.cq.len t87.cq.cap] (
 dG (af t4) fun r4_3 =>
 K r4_3 5)) else
 nn (some (af t38)) fun t90 =>
 ag .i64 (t90.add 1) fun t92 =>
 nn (some (af t38)) fun t96 =>
 aB (t96.add 2) fun t98 =>
 aL t98 1 0 fun t99 =>
 ag .u8 t99 fun t100 =>
 nn (some (af t38)) fun t103 =>
 aB (t103.add 2) fun t105 =>
 nn (some (af t38)) fun t107 =>
 aB (t107.add 2) fun t109 =>
 nn (some (af t38)) fun t112 =>
 aB (t112.add 2) fun t114 =>
 eY t105 1 9 (t109.len : Nat) (t114.len : Nat) fun t116 =>
 aq (af t4) 0 [.int .i64 t1, .int .i64 (ay (t92 - t1)), .int .i64 (ay t100), .slice t116.a t116.len t116.cap] (
 dG (af t4) fun r4_4 =>
 K r4_4 0)
def rj (p0 : Sl) (p1 : Int) (K : iD → Int → HP) : HP :=
 az #[.int .i64 0, .int .i64 0, .int .i64 0, .slice none 0 0] fun t4 =>
 bif (decide ((p1 : Int) < 0)) then (
 DF p0 p1 t4 true K) else
 DF p0 p1 t4 (decide (((p0.len : Nat) : Int) < p1)) K
def RN (xs : List Value) (K : Value → HP) : HP :=
 arity xs 2 <|
 bA (xs.getD 0 undef) fun p0 =>
 ak .i64 (xs.getD 1 undef) fun p1 =>
 rj p0 p1 (fun r0 r1 => K (.tuple #[r0.v, .int .i64 r1]))
def sq (C : Cx) (p0 : Sl) (K : Sl → Sl → HP) : HP :=
 az #[.slice none 0 0] fun t3 =>
 az #[.int .i64 0] fun t4 =>
 aq (af t4) 0 [.int .i64 0] (
 fI C (fun xs K => Iw ([] ++ xs ++ [.pointer (some (af t4)), .pointer (some (af t3))]) K) fun t9 =>
 loop (σ := List Value) (fun R1 vs1 =>
 bA (vs1.getD 0 undef) fun t2 =>
 ak .i64 (vs1.getD 1 undef) fun t6 =>
 bif (decide ((t6 : Int) < (p0.len : Nat))) then (
 rj p0 t6 fun t17a t17b =>
 az #[.int .i64 0, .int .i64 0, .int .i64 0, .slice none 0 0] fun t7 =>
 aq (af t7) 0 [.int .i64 t17a.At, .int .i64 t17a.eL, .int .i64 t17a.Kind, .slice t17a.cq.a t17a.cq.len t17a.cq.cap] (
 bif (!decide ((t17b : Int) = 0)) then (
 R1 [.slice t2.a t2.len t2.cap, .int .i64 (ay (t6 + 1))]) else
 C.ap t9 [.int .i64 t6] fun t26 =>
 dG (af t7) fun t28 =>
 az #[.int .i64 t28.At, .int .i64 t28.eL, .int .i64 t28.Kind, .slice t28.cq.a t28.cq.len t28.cq.cap] fun t29 =>
 app 4 48 #[.int .i64 0, .int .i64 0, .int .i64 0, .slice none 0 0] t2 (⟨some (af t29), 1, 1⟩ : Sl) fun t30 =>
 ag .i64 ((af t7).add 1) fun t33 =>
 aq (af t4) 0 [.int .i64 (ay (t6 + t33))] (
 R1 [.slice t30.a t30.len t30.cap, .int .i64 (ay (t6 + t33))]))) else
 C.ap t9 [.int .i64 (p0.len : Nat)] fun t39 =>
 aB (af t3) fun t41 =>
 aq (af t3) 0 [.slice t41.a t41.len t41.cap] (
 aB (af t3) fun r3 =>
 K t2 r3)) [.slice none 0 0, .int .i64 0])
def aar (C : Cx) (xs : List Value) (K : Value → HP) : HP :=
 arity xs 1 <|
 bA (xs.getD 0 undef) fun p0 =>
 sq C p0 (fun r0 r1 => K (.tuple #[.slice r0.a r0.len r0.cap, .slice r1.a r1.len r1.cap]))
def om (p0 : Sl) (K : Sl → HP) : HP :=
 bif p0.a.isNone then (
 K (⟨none, 0, 0⟩ : Sl)) else
 az #[] fun t5 =>
 app 1 1 #[.int .u8 0] (⟨some (af t5), 0, 0⟩ : Sl) p0 fun t7 =>
 K t7
def Wb (xs : List Value) (K : Value → HP) : HP :=
 arity xs 1 <|
 bA (xs.getD 0 undef) fun p0 =>
 om p0 (fun r0 => K (.slice r0.a r0.len r0.cap))
def wT (p0 : Sl) (K : Option Addr → HP) : HP :=
 om p0 fun t4 =>
 az #[.slice t4.a t4.len t4.cap, .int .i64 0, .int .i64 0] fun t6 =>
 K (some (af t6))
def ZF (xs : List Value) (K : Value → HP) : HP :=
 arity xs 1 <|
 bA (xs.getD 0 undef) fun p0 =>
 wT p0 (fun r0 => K (.pointer r0))
def lC (p0 : Option Addr) (K : Sl → HP) : HP :=
 nn p0 fun t8 =>
 az #[.int .i64 0, .int .i64 0, .int .i64 0, .pointer none] fun t3 =>
 aq (af t3) 0 [.int .i64 4, .int .i64 1, .int .i64 2147483648, .pointer (some (t8.add 5))] (
 nn p0 fun t12 =>
 az #[.int .i64 0, .int .i64 0, .int .i64 0, .pointer none] fun t4 =>
 aq (af t4) 0 [.int .i64 1, .int .i64 0, .int .i64 31, .pointer (some (t12.add 7))] (
 nn p0 fun t16 =>
 az #[.int .i64 0, .int .i64 0, .int .i64 0, .pointer none] fun t5 =>
 aq (af t5) 0 [.int .i64 4, .int .i64 1, .int .i64 2147483648, .pointer (some (t16.add 8))] (
 nn p0 fun t20 =>
 az #[.int .i64 0, .int .i64 0, .int .i64 0, .pointer none] fun t6 =>
 aq (af t6) 0 [.int .i64 4, .int .i64 1, .int .i64 2147483649, .pointer (some (t20.add 3))] (
 nn p0 fun t24 =>
 ag .i64 (t24.add 0) fun t26 =>
 bif (decide ((t26 : Int) = 1)) then (
 nn p0 fun t30 =>
 nn p0 fun t34 =>
 fM (af t6) fun t37 =>
 nn p0 fun t39 =>
 az #[.int .i64 2, .int .i64 1, .int .i64 999, .pointer (some (t30.add 1)), .int .i64 4, .int .i64 1, .int .i64 2147483648, .pointer (some (t34.add 2)), .int .i64 t37.width, .int .i64 t37.low, .int .i64 t37.high, .pointer t37.at_, .int .i64 4, .int .i64 0, .int .i64 2147483648, .pointer (some (t39.add 4))] fun t42 =>
 K (⟨some (af t42), 4, 4⟩ : Sl)) else
 bif (decide ((t26 : Int) = 2)) then (
 fM (af t3) fun t45 =>
 nn p0 fun t47 =>
 fM (af t4) fun t50 =>
 fM (af t5) fun t51 =>
 nn p0 fun t53 =>
 nn p0 fun t57 =>
 az #[.int .i64 t45.width, .int .i64 t45.low, .int .i64 t45.high, .pointer t45.at_, .int .i64 8, .int .i64 0, .int .i64 4503599627370496, .pointer (some (t47.add 6)), .int .i64 t50.width, .int .i64 t50.low, .int .i64 t50.high, .pointer t50.at_, .int .i64 t51.width, .int .i64 t51.low, .int .i64 t51.high, .pointer t51.at_, .int .i64 4, .int .i64 0, .int .i64 32768, .pointer (some (t53.add 9)), .int .i64 8, .int .i64 0, .int .i64 9007199254740992, .pointer (some (t57.add 10))] fun t60 =>
 K (⟨some (af t60), 6, 6⟩ : Sl)) else
 bif (decide ((t26 : Int) = 3)) then (
 fM (af t3) fun t63 =>
 az #[.int .i64 t63.width, .int .i64 t63.low, .int .i64 t63.high, .pointer t63.at_] fun t64 =>
 K (⟨some (af t64), 1, 1⟩ : Sl)) else
 bif (decide ((t26 : Int) = 4)) then (
 fM (af t3) fun t67 =>
 fM (af t4) fun t68 =>
 az #[.int .i64 t67.width, .int .i64 t67.low, .int .i64 t67.high, .pointer t67.at_, .int .i64 t68.width, .int .i64 t68.low, .int .i64 t68.high, .pointer t68.at_] fun t69 =>
 K (⟨some (af t69), 2, 2⟩ : Sl)) else
 bif (decide ((t26 : Int) = 5)) then (
 fM (af t6) fun t72 =>
 az #[.int .i64 t72.width, .int .i64 t72.low, .int .i64 t72.high, .pointer t72.at_] fun t73 =>
 K (⟨some (af t73), 1, 1⟩ : Sl)) else
 bif (decide ((t26 : Int) = 6)) then (
 fM (af t5) fun t76 =>
 az #[.int .i64 t76.width, .int .i64 t76.low, .int .i64 t76.high, .pointer t76.at_] fun t77 =>
 K (⟨some (af t77), 1, 1⟩ : Sl)) else
 K (⟨none, 0, 0⟩ : Sl)))))
def TX (xs : List Value) (K : Value → HP) : HP :=
 arity xs 1 <|
 bu (xs.getD 0 undef) fun p0 =>
 lC p0 (fun r0 => K (.slice r0.a r0.len r0.cap))
def u5 (t0 : Option Addr) (K : Bool → HP) : HP :=
 nn t0 fun t20 =>
 ag .i64 (t20.add 2) fun t22 =>
 K (!decide ((t22 : Int) = 0))
def vu (t0 : Option Addr) (t2 : Int) (t14 : Bool) (K : Bool → HP) : HP :=
 bif t14 then (
 nn t0 fun t17 =>
 aq (t17.add 2) 0 [.int .i64 t2] (
 u5 t0 K)) else
 u5 t0 K
def kz (p0 : Option Addr) (p1 : Bool) (p2 : Int) (K : Bool → HP) : HP :=
 bif p1 then (
 nn p0 fun t10 =>
 ag .i64 (t10.add 2) fun t12 =>
 vu p0 p2 (decide ((t12 : Int) = 0)) K) else
 vu p0 p2 false K
def Ri (xs : List Value) (K : Value → HP) : HP :=
 arity xs 3 <|
 bu (xs.getD 0 undef) fun p0 =>
 jk (xs.getD 1 undef) fun p1 =>
 ak .i64 (xs.getD 2 undef) fun p2 =>
 kz p0 p1 p2 (fun r0 => K (.bool r0))
def mw (p0 : Option Addr) (K : Int → HP) : HP :=
 nn p0 fun t4 =>
 aB (t4.add 0) fun t6 =>
 nn p0 fun t9 =>
 ag .i64 (t9.add 1) fun t11 =>
 K (ay ((t6.len : Nat) - t11))
def ZC (xs : List Value) (K : Value → HP) : HP :=
 arity xs 1 <|
 bu (xs.getD 0 undef) fun p0 =>
 mw p0 (fun r0 => K (.int .i64 r0))
def rR (t0 : Option Addr) (t1 : Int) (t19 : Bool) (K : Int → HP) : HP :=
 bif t19 then (
 K 0) else
 nn t0 fun t22 =>
 aB (t22.add 0) fun t24 =>
 nn t0 fun t26 =>
 ag .i64 (t26.add 1) fun t28 =>
 nW t24 t28 t1 fun t30a t30b =>
 nn t0 fun t34 =>
 ag .i64 (t34.add 1) fun t36 =>
 nn t0 fun t39 =>
 aq (t39.add 1) 0 [.int .i64 (ay (t36 + t1))] (
 K t30a)
def rS (p0 : Option Addr) (p1 : Int) (K : Int → HP) : HP :=
 lU p1 fun t9 =>
 kz p0 (!t9) 1 fun t11 =>
 bif t11 then (
 rR p0 p1 true K) else
 mw p0 fun t16 =>
 kz p0 (decide ((t16 : Int) < p1)) 2 fun t18 =>
 rR p0 p1 t18 K
def Rg (xs : List Value) (K : Value → HP) : HP :=
 arity xs 2 <|
 bu (xs.getD 0 undef) fun p0 =>
 ak .i64 (xs.getD 1 undef) fun p1 =>
 rS p0 p1 (fun r0 => K (.int .u64 r0))
def wY (t0 : Option Addr) (t1 : Int) (t16 : Bool) (K : Sl → HP) : HP :=
 bif t16 then (
 K (⟨none, 0, 0⟩ : Sl)) else
 nn t0 fun t18 =>
 ag .i64 (t18.add 1) fun t20 =>
 nn t0 fun t23 =>
 aq (t23.add 1) 0 [.int .i64 (ay (t20 + t1))] (
 nn t0 fun t26 =>
 aB (t26.add 0) fun t28 =>
 nn t0 fun t30 =>
 ag .i64 (t30.add 1) fun t32 =>
 nn t0 fun t36 =>
 ag .i64 (t36.add 1) fun t38 =>
 eY t28 1 (ay (t32 - t1)) t38 (t28.cap : Nat) fun t39 =>
 om t39 fun t40 =>
 K t40)
def rT (p0 : Option Addr) (p1 : Int) (K : Sl → HP) : HP :=
 kz p0 (decide ((p1 : Int) < 0)) 1 fun t8 =>
 bif t8 then (
 wY p0 p1 true K) else
 mw p0 fun t13 =>
 kz p0 (decide ((t13 : Int) < p1)) 2 fun t15 =>
 wY p0 p1 t15 K
def aeF (xs : List Value) (K : Value → HP) : HP :=
 arity xs 2 <|
 bu (xs.getD 0 undef) fun p0 =>
 ak .i64 (xs.getD 1 undef) fun p1 =>
 rT p0 p1 (fun r0 => K (.slice r0.a r0.len r0.cap))
def wR (t3 : Int) (t14 : Bool) (K : Int → HP) : HP :=
 bif t14 then (
 K 3) else
 K t3
def si (p0 : Option Addr) (K : Int → HP) : HP :=
 nn p0 fun t5 =>
 ag .i64 (t5.add 2) fun t7 =>
 bif (decide ((t7 : Int) = 0)) then (
 mw p0 fun t12 =>
 wR t7 (decide ((0 : Int) < t12)) K) else
 wR t7 false K
def acr (xs : List Value) (K : Value → HP) : HP :=
 arity xs 1 <|
 bu (xs.getD 0 undef) fun p0 =>
 si p0 (fun r0 => K (.int .i64 r0))
def qm (p0 : aZ) (K : qh → HP) : HP :=
 az #[.int .i64 p0.Kind, .int .i64 p0.bR, .int .i64 p0.Seq, .int .i64 p0.Next, .int .i64 p0.bW, .int .i64 p0.bV, .int .i64 p0.Time, .int .i64 p0.Flags, .int .i64 p0.Body, .int .i64 p0.bQ, .int .i64 p0.Origin, .slice p0.Data.a p0.Data.len p0.Data.cap] fun t1 =>
 az #[.int .i64 0, .int .i64 0, .int .i64 0, .int .i64 0, .int .i64 0, .int .i64 0, .int .i64 0, .int .i64 0, .int .i64 0, .int .i64 0, .int .i64 0] fun t2 =>
 ag .i64 ((af t1).add 0) fun t4 =>
 ag .i64 ((af t1).add 1) fun t6 =>
 ag .i64 ((af t1).add 2) fun t8 =>
 ag .i64 ((af t1).add 3) fun t10 =>
 ag .i64 ((af t1).add 4) fun t12 =>
 ag .i64 ((af t1).add 5) fun t14 =>
 ag .i64 ((af t1).add 6) fun t16 =>
 ag .i64 ((af t1).add 7) fun t18 =>
 ag .i64 ((af t1).add 8) fun t20 =>
 ag .i64 ((af t1).add 9) fun t22 =>
 ag .i64 ((af t1).add 10) fun t24 =>
 aq (af t2) 0 [.int .i64 t4, .int .i64 t6, .int .i64 t8, .int .i64 t10, .int .i64 t12, .int .i64 t14, .int .i64 t16, .int .i64 t18, .int .i64 t20, .int .i64 t22, .int .i64 t24] (
 HU (af t2) fun r2 =>
 K r2)
def OB (xs : List Value) (K : Value → HP) : HP :=
 arity xs 1 <|
 fU (xs.getD 0 undef) fun p0 =>
 qm p0 (fun r0 => K (r0.v))
def yl (p0 : Sl) (p1 : Sl) (K : Bool → HP) : HP :=
 ef p0 fun t6 =>
 ef p1 fun t8 =>
 K (decide (t6 = t8))
def X6 (xs : List Value) (K : Value → HP) : HP :=
 arity xs 2 <|
 bA (xs.getD 0 undef) fun p0 =>
 bA (xs.getD 1 undef) fun p1 =>
 yl p0 p1 (fun r0 => K (.bool r0))
def tO (p0 : aZ) (p1 : aZ) (K : Bool → HP) : HP :=
 az #[.int .i64 p0.Kind, .int .i64 p0.bR, .int .i64 p0.Seq, .int .i64 p0.Next, .int .i64 p0.bW, .int .i64 p0.bV, .int .i64 p0.Time, .int .i64 p0.Flags, .int .i64 p0.Body, .int .i64 p0.bQ, .int .i64 p0.Origin, .slice p0.Data.a p0.Data.len p0.Data.cap] fun t2 =>
 az #[.int .i64 p1.Kind, .int .i64 p1.bR, .int .i64 p1.Seq, .int .i64 p1.Next, .int .i64 p1.bW, .int .i64 p1.bV, .int .i64 p1.Time, .int .i64 p1.Flags, .int .i64 p1.Body, .int .i64 p1.bQ, .int .i64 p1.Origin, .slice p1.Data.a p1.Data.len p1.Data.cap] fun t3 =>
 bq (af t2) fun t5 =>
 bq (af t3) fun t7 =>
 qm t5 fun t6 =>
 held (bq (af t3) fun t7_1 =>
 fun _ => (Value.agg #[.int .i64 t7_1.Kind, .int .i64 t7_1.bR, .int .i64 t7_1.Seq, .int .i64 t7_1.Next, .int .i64 t7_1.bW, .int .i64 t7_1.bV, .int .i64 t7_1.Time, .int .i64 t7_1.Flags, .int .i64 t7_1.Body, .int .i64 t7_1.bQ, .int .i64 t7_1.Origin, .slice t7_1.Data.a t7_1.Data.len t7_1.Data.cap]) = (Value.agg #[.int .i64 t7.Kind, .int .i64 t7.bR, .int .i64 t7.Seq, .int .i64 t7.Next, .int .i64 t7.bW, .int .i64 t7.bV, .int .i64 t7.Time, .int .i64 t7.Flags, .int .i64 t7.Body, .int .i64 t7.bQ, .int .i64 t7.Origin, .slice t7.Data.a t7.Data.len t7.Data.cap])) (
 qm t7 fun t8 =>
 bif (decide ((t6.c0 : Int) = t8.c0) && (decide ((t6.c1 : Int) = t8.c1) && (decide ((t6.c2 : Int) = t8.c2) && (decide ((t6.c3 : Int) = t8.c3) && (decide ((t6.c4 : Int) = t8.c4) && (decide ((t6.c5 : Int) = t8.c5) && (decide ((t6.c6 : Int) = t8.c6) && (decide ((t6.c7 : Int) = t8.c7) && (decide ((t6.c8 : Int) = t8.c8) && (decide ((t6.c9 : Int) = t8.c9) && (decide ((t6.iF : Int) = t8.iF) && true))))))))))) then (
 aB ((af t2).add 11) fun t12 =>
 aB ((af t3).add 11) fun t14 =>
 yl t12 t14 fun t15 =>
 K t15) else
 K false)
def X9 (xs : List Value) (K : Value → HP) : HP :=
 arity xs 2 <|
 fU (xs.getD 0 undef) fun p0 =>
 fU (xs.getD 1 undef) fun p1 =>
 tO p0 p1 (fun r0 => K (.bool r0))
def xR (t1 : Nat) (t3 : Nat) (K : Bool → HP) : HP :=
 bq (af t1) fun t35 =>
 bq (af t3) fun t36 =>
 tO t35 t36 fun t37 =>
 K t37
def tT (p0 : aZ) (K : Bool → HP) : HP :=
 az #[.int .i64 p0.Kind, .int .i64 p0.bR, .int .i64 p0.Seq, .int .i64 p0.Next, .int .i64 p0.bW, .int .i64 p0.bV, .int .i64 p0.Time, .int .i64 p0.Flags, .int .i64 p0.Body, .int .i64 p0.bQ, .int .i64 p0.Origin, .slice p0.Data.a p0.Data.len p0.Data.cap] fun t1 =>
 ag .i64 ((af t1).add 0) fun t8 =>
 az #[.int .i64 0, .int .i64 0, .int .i64 0, .int .i64 0, .int .i64 0, .int .i64 0, .int .i64 0, .int .i64 0, .int .i64 0, .int .i64 0, .int .i64 0, .slice none 0 0] fun t3 =>
 aq (af t3) 0 [.int .i64 t8, .int .i64 0, .int .i64 0, .int .i64 0, .int .i64 0, .int .i64 0, .int .i64 0, .int .i64 0, .int .i64 0, .int .i64 0, .int .i64 0, .slice none 0 0] (
 lC (some (af t1)) fun t10 =>
 lC (some (af t3)) fun t11 =>
 loop (σ := List Value) (fun R1 vs1 =>
 ak .i64 (vs1.getD 0 undef) fun t13 =>
 bif (decide ((t13 : Int) < (t11.len : Nat))) then (
 aL t11 4 t13 fun t16 =>
 fM t16 fun t17 =>
 az #[.int .i64 0, .int .i64 0, .int .i64 0, .pointer none] fun t6 =>
 aq (af t6) 0 [.int .i64 t17.width, .int .i64 t17.low, .int .i64 t17.high, .pointer t17.at_] (
 ct ((af t6).add 3) fun t19 =>
 aL t10 4 t13 fun t22 =>
 ct (t22.add 3) fun t24 =>
 nn t24 fun t25 =>
 ag .i64 t25 fun t26 =>
 nn t19 fun t27 =>
 aq t27 0 [.int .i64 t26] (
 R1 [.int .i64 (ay (t13 + 1))]))) else
 ag .i64 ((af t1).add 0) fun t30 =>
 bif (decide ((t30 : Int) = 6)) then (
 aB ((af t1).add 11) fun t33 =>
 aq ((af t3).add 11) 0 [.slice t33.a t33.len t33.cap] (
 xR t1 t3 K)) else
 xR t1 t3 K) [.int .i64 0])
def adm (xs : List Value) (K : Value → HP) : HP :=
 arity xs 1 <|
 fU (xs.getD 0 undef) fun p0 =>
 tT p0 (fun r0 => K (.bool r0))
def uw (t1 : Nat) (t9 : Sl) (t10 : Int) (t11 : Int) (t30 : Bool) (K : Int → HP) (R1 : List Value → HP) : HP :=
 bif t30 then (
 K 1) else
 R1 [.int .i64 (ay (t11 + 1))]
def tG (t1 : Nat) (t32 : Bool) (K : Int → HP) : HP :=
 bif t32 then (
 K 4) else
 bq (af t1) fun t43 =>
 tT t43 fun t44 =>
 bif (!t44) then (
 K 3) else
 K 0
def lG (p0 : aZ) (K : Int → HP) : HP :=
 az #[.int .i64 p0.Kind, .int .i64 p0.bR, .int .i64 p0.Seq, .int .i64 p0.Next, .int .i64 p0.bW, .int .i64 p0.bV, .int .i64 p0.Time, .int .i64 p0.Flags, .int .i64 p0.Body, .int .i64 p0.bQ, .int .i64 p0.Origin, .slice p0.Data.a p0.Data.len p0.Data.cap] fun t1 =>
 lC (some (af t1)) fun t6 =>
 bif t6.a.isNone then (
 K 16) else
 loop (σ := List Value) (fun R1 vs1 =>
 ak .i64 (vs1.getD 0 undef) fun t11 =>
 bif (decide ((t11 : Int) < (t6.len : Nat))) then (
 aL t6 4 t11 fun t13 =>
 fM t13 fun t14 =>
 az #[.int .i64 0, .int .i64 0, .int .i64 0, .pointer none] fun t5 =>
 aq (af t5) 0 [.int .i64 t14.width, .int .i64 t14.low, .int .i64 t14.high, .pointer t14.at_] (
 ct ((af t5).add 3) fun t16 =>
 nn t16 fun t17 =>
 ag .i64 t17 fun t18 =>
 ag .i64 ((af t5).add 1) fun t20 =>
 bif (decide ((t18 : Int) < t20)) then (
 uw t1 t6 (t6.len : Nat) t11 true K R1) else
 ct ((af t5).add 3) fun t24 =>
 nn t24 fun t25 =>
 ag .i64 t25 fun t26 =>
 ag .i64 ((af t5).add 2) fun t28 =>
 uw t1 t6 (t6.len : Nat) t11 (decide ((t28 : Int) < t26)) K R1)) else
 ag .i64 ((af t1).add 0) fun t34 =>
 bif (decide ((t34 : Int) = 6)) then (
 aB ((af t1).add 11) fun t38 =>
 tG t1 (decide ((32768 : Int) < (t38.len : Nat))) K) else
 tG t1 false K) [.int .i64 0]
def Nt (xs : List Value) (K : Value → HP) : HP :=
 arity xs 1 <|
 fU (xs.getD 0 undef) fun p0 =>
 lG p0 (fun r0 => K (.int .i64 r0))
def wN (t4 : Nat) (t6 : Nat) (t9 : Sl) (t12 : Int) (t13 : Int) (t14 : Nat) (t54 : Sl) (t55 : Int) (t56 : Int) (K : aZ → Int → HP) (R2 : List Value → HP) : HP :=
 ct ((af t14).add 3) fun t74 =>
 aL t9 1 t13 fun t77 =>
 ag .u64 t77 fun t78 =>
 ag .i64 ((af t14).add 2) fun t80 =>
 nn t74 fun t84 =>
 aq t84 0 [.int .i64 (ay (if (wr .u64 t80 : Int) < t78 then (wr .u64 t80) else t78))] (
 R2 [.int .i64 t12, .int .i64 (ay (t56 + 1))])
def tw (t4 : Nat) (t6 : Nat) (t9 : Sl) (t12 : Int) (t13 : Int) (t14 : Nat) (t54 : Sl) (t55 : Int) (t56 : Int) (t72 : Bool) (K : aZ → Int → HP) (R2 : List Value → HP) : HP :=
 bif t72 then (
 wN t4 t6 t9 1 t13 t14 t54 t55 t56 K R2) else
 wN t4 t6 t9 t12 t13 t14 t54 t55 t56 K R2
def wk (t4 : Nat) (t6 : Nat) (t12 : Int) (K : aZ → Int → HP) : HP :=
 bif (!decide ((t12 : Int) = 0)) then (
 aq (af t4) 0 [.int .i64 0, .int .i64 0, .int .i64 0, .int .i64 0, .int .i64 0, .int .i64 0, .int .i64 0, .int .i64 0, .int .i64 0, .int .i64 0, .int .i64 0, .slice none 0 0] (
 bq (af t4) fun r4 =>
 K r4 t12)) else
 bq (af t6) fun t94 =>
 aq (af t4) 0 [.int .i64 t94.Kind, .int .i64 t94.bR, .int .i64 t94.Seq, .int .i64 t94.Next, .int .i64 t94.bW, .int .i64 t94.bV, .int .i64 t94.Time, .int .i64 t94.Flags, .int .i64 t94.Body, .int .i64 t94.bQ, .int .i64 t94.Origin, .slice t94.Data.a t94.Data.len t94.Data.cap] (
 bq (af t4) fun r4_1 =>
 K r4_1 0)
def rX (t4 : Nat) (t6 : Nat) (t8 : Sl) (t9 : Sl) (t12 : Int) (K : aZ → Int → HP) : HP :=
 loop (σ := List Value) (fun R2 vs2 =>
 ak .i64 (vs2.getD 0 undef) fun t12_1 =>
 ak .i64 (vs2.getD 1 undef) fun t56 =>
 bif (decide ((t56 : Int) < (t8.len : Nat))) then (
 aL t8 4 t56 fun t59 =>
 fM t59 fun t60 =>
 az #[.int .i64 0, .int .i64 0, .int .i64 0, .pointer none] fun t14 =>
 aq (af t14) 0 [.int .i64 t60.width, .int .i64 t60.low, .int .i64 t60.high, .pointer t60.at_] (
 bif (decide ((t12_1 : Int) = 0)) then (
 aL t9 1 t56 fun t66 =>
 ag .u64 t66 fun t67 =>
 ag .i64 ((af t14).add 2) fun t69 =>
 tw t4 t6 t9 t12_1 t56 t14 t8 (t8.len : Nat) t56 (decide ((wr .u64 t69 : Int) < t67)) K R2) else
 tw t4 t6 t9 t12_1 t56 t14 t8 (t8.len : Nat) t56 false K R2)) else
 bif (decide ((t12_1 : Int) = 0)) then (
 bq (af t6) fun t88 =>
 lG t88 fun t89 =>
 wk t4 t6 t89 K) else
 wk t4 t6 t12_1 K) [.int .i64 t12, .int .i64 0]
def rG (t4 : Nat) (t6 : Nat) (t8 : Sl) (t9 : Sl) (t12 : Int) (t53 : Bool) (K : aZ → Int → HP) : HP :=
 bif t53 then (
 rX t4 t6 t8 t9 4 K) else
 rX t4 t6 t8 t9 t12 K
def u6 (t4 : Nat) (t6 : Nat) (t7 : Option Addr) (t8 : Sl) (t9 : Sl) (K : aZ → Int → HP) : HP :=
 si t7 fun t45 =>
 bif (decide ((t45 : Int) = 0)) then (
 aB ((af t6).add 11) fun t50 =>
 rG t4 t6 t8 t9 t45 (decide ((32768 : Int) < (t50.len : Nat))) K) else
 rG t4 t6 t8 t9 t45 false K
def tU (p0 : Int) (p1 : Sl) (K : aZ → Int → HP) : HP :=
 az #[.int .i64 0, .int .i64 0, .int .i64 0, .int .i64 0, .int .i64 0, .int .i64 0, .int .i64 0, .int .i64 0, .int .i64 0, .int .i64 0, .int .i64 0, .slice none 0 0] fun t4 =>
 az #[.int .i64 0, .int .i64 0, .int .i64 0, .int .i64 0, .int .i64 0, .int .i64 0, .int .i64 0, .int .i64 0, .int .i64 0, .int .i64 0, .int .i64 0, .slice none 0 0] fun t6 =>
 aq (af t6) 0 [.int .i64 p0, .int .i64 0, .int .i64 0, .int .i64 0, .int .i64 0, .int .i64 0, .int .i64 0, .int .i64 0, .int .i64 0, .int .i64 0, .int .i64 0, .slice none 0 0] (
 wT p1 fun t18 =>
 lC (some (af t6)) fun t19 =>
 bif t19.a.isNone then (
 aq (af t4) 0 [.int .i64 0, .int .i64 0, .int .i64 0, .int .i64 0, .int .i64 0, .int .i64 0, .int .i64 0, .int .i64 0, .int .i64 0, .int .i64 0, .int .i64 0, .slice none 0 0] (
 bq (af t4) fun r4 =>
 K r4 16)) else
 loop (σ := List Value) (fun R1 vs1 =>
 bA (vs1.getD 0 undef) fun t9 =>
 ak .i64 (vs1.getD 1 undef) fun t25 =>
 bif (decide ((t25 : Int) < (t19.len : Nat))) then (
 aL t19 4 t25 fun t27 =>
 fM t27 fun t28 =>
 az #[.int .i64 0, .int .i64 0, .int .i64 0, .pointer none] fun t11 =>
 aq (af t11) 0 [.int .i64 t28.width, .int .i64 t28.low, .int .i64 t28.high, .pointer t28.at_] (
 ag .i64 ((af t11).add 0) fun t32 =>
 rS t18 t32 fun t33 =>
 az #[.int .u64 t33] fun t34 =>
 app 1 8 #[.int .u64 0] t9 (⟨some (af t34), 1, 1⟩ : Sl) fun t35 =>
 R1 [.slice t35.a t35.len t35.cap, .int .i64 (ay (t25 + 1))])) else
 bif (decide ((p0 : Int) = 6)) then (
 mw t18 fun t41 =>
 rT t18 t41 fun t42 =>
 aq ((af t6).add 11) 0 [.slice t42.a t42.len t42.cap] (
 u6 t4 t6 t18 t19 t9 K)) else
 u6 t4 t6 t18 t19 t9 K) [.slice none 0 0, .int .i64 0])
def Pq (xs : List Value) (K : Value → HP) : HP :=
 arity xs 2 <|
 ak .i64 (xs.getD 0 undef) fun p0 =>
 bA (xs.getD 1 undef) fun p1 =>
 tU p0 p1 (fun r0 r1 => K (.tuple #[r0.v, .int .i64 r1]))
def vT (C : Cx) (t2 : Sl) (t3 : Int) (t17 : Sl) (t18 : Int) (t19 : Int) (K : Sl → Int → HP) (R1 : List Value → HP) : HP :=
 R1 [.slice t2.a t2.len t2.cap, .int .i64 t3, .int .i64 (ay (t19 + 1))]
def pH (C : Cx) (p0 : Sl) (K : Sl → Int → HP) : HP :=
 sq C p0 fun t12a t12b =>
 loop (σ := List Value) (fun R1 vs1 =>
 bA (vs1.getD 0 undef) fun t2 =>
 ak .i64 (vs1.getD 1 undef) fun t3 =>
 ak .i64 (vs1.getD 2 undef) fun t19 =>
 bif (decide ((t19 : Int) < (t12a.len : Nat))) then (
 aL t12a 4 t19 fun t21 =>
 dG t21 fun t22 =>
 az #[.int .i64 0, .int .i64 0, .int .i64 0, .slice none 0 0] fun t7 =>
 aq (af t7) 0 [.int .i64 t22.At, .int .i64 t22.eL, .int .i64 t22.Kind, .slice t22.cq.a t22.cq.len t22.cq.cap] (
 ag .i64 ((af t7).add 2) fun t25 =>
 aB ((af t7).add 3) fun t27 =>
 tU t25 t27 fun t28a t28b =>
 az #[.int .i64 0, .int .i64 0, .int .i64 0, .int .i64 0, .int .i64 0, .int .i64 0, .int .i64 0, .int .i64 0, .int .i64 0, .int .i64 0, .int .i64 0, .slice none 0 0] fun t8 =>
 aq (af t8) 0 [.int .i64 t28a.Kind, .int .i64 t28a.bR, .int .i64 t28a.Seq, .int .i64 t28a.Next, .int .i64 t28a.bW, .int .i64 t28a.bV, .int .i64 t28a.Time, .int .i64 t28a.Flags, .int .i64 t28a.Body, .int .i64 t28a.bQ, .int .i64 t28a.Origin, .slice t28a.Data.a t28a.Data.len t28a.Data.cap] (
 bif (!decide ((t28b : Int) = 0)) then (
 vT C t2 t3 t12a (t12a.len : Nat) t19 K R1) else
 ag .i64 ((af t7).add 0) fun t35 =>
 ag .i64 ((af t7).add 1) fun t37 =>
 bq (af t8) fun t38 =>
 az #[.int .i64 t35, .int .i64 t37, .int .i64 t38.Kind, .int .i64 t38.bR, .int .i64 t38.Seq, .int .i64 t38.Next, .int .i64 t38.bW, .int .i64 t38.bV, .int .i64 t38.Time, .int .i64 t38.Flags, .int .i64 t38.Body, .int .i64 t38.bQ, .int .i64 t38.Origin, .slice t38.Data.a t38.Data.len t38.Data.cap] fun t40 =>
 app 14 128 #[.int .i64 0, .int .i64 0, .int .i64 0, .int .i64 0, .int .i64 0, .int .i64 0, .int .i64 0, .int .i64 0, .int .i64 0, .int .i64 0, .int .i64 0, .int .i64 0, .int .i64 0, .slice none 0 0] t2 (⟨some (af t40), 1, 1⟩ : Sl) fun t41 =>
 ag .i64 ((af t7).add 1) fun t44 =>
 vT C t41 (ay (t3 - t44)) t12a (t12a.len : Nat) t19 K R1))) else
 K t2 t3) [.slice none 0 0, .int .i64 (p0.len : Nat), .int .i64 0]
def TU (C : Cx) (xs : List Value) (K : Value → HP) : HP :=
 arity xs 1 <|
 bA (xs.getD 0 undef) fun p0 =>
 pH C p0 (fun r0 r1 => K (.tuple #[.slice r0.a r0.len r0.cap, .int .i64 r1]))
def rL (C : Cx) (p0 : Option Addr) (p1 : Int) (p2 : Int) (K : fK → Int → HP) : HP :=
 az #[.int .i64 0, .int .i64 0, .int .i64 0, .slice none 0 0] fun t6 =>
 gO p1 p2 fun t15 =>
 mZ p0 t15 fun t16a t16b =>
 bif (!decide ((t16b : Int) = 0)) then (
 aq (af t6) 0 [.int .i64 0, .int .i64 0, .int .i64 0, .slice none 0 0] (
 fS (af t6) fun r6 =>
 K r6 t16b)) else
 az #[.int .i64 0, .int .i64 0, .int .i64 0, .slice none 0 0] fun t10 =>
 aq (af t10) 0 [.int .i64 p2, .int .i64 (t16a.len : Nat), .int .i64 0, .slice none 0 0] (
 pH C t16a fun t29a t29b =>
 aq ((af t10).add 3) 0 [.slice t29a.a t29a.len t29a.cap] (
 aq ((af t10).add 2) 0 [.int .i64 t29b] (
 fS (af t10) fun t34 =>
 aq (af t6) 0 [.int .i64 t34.seq, .int .i64 t34.size, .int .i64 t34.broken, .slice t34.l.a t34.l.len t34.l.cap] (
 fS (af t6) fun r6_1 =>
 K r6_1 0))))
def W5 (C : Cx) (xs : List Value) (K : Value → HP) : HP :=
 arity xs 3 <|
 bu (xs.getD 0 undef) fun p0 =>
 ak .i64 (xs.getD 1 undef) fun p1 =>
 ak .i64 (xs.getD 2 undef) fun p2 =>
 rL C p0 p1 p2 (fun r0 r1 => K (.tuple #[r0.v, .int .i64 r1]))
def uE (t3 : Int) (t5 : Nat) (t8 : Sl) (t9 : Int) (t10 : Int) (t15 : Sl) (t16 : Int) (t17 : Int) (K : Int → HP) (R1 : List Value → HP) (R2 : List Value → HP) : HP :=
 R2 [.int .i64 t3, .int .i64 (ay (t17 + 1))]
def tN (t3 : Int) (t5 : Nat) (t7 : Nat) (t8 : Sl) (t9 : Int) (t10 : Int) (t15 : Sl) (t16 : Int) (t17 : Int) (t32 : Bool) (K : Int → HP) (R1 : List Value → HP) (R2 : List Value → HP) : HP :=
 bif t32 then (
 ag .i64 (((af t7).add 2).add 4) fun t36 =>
 uE (if (t36 : Int) > t3 then t36 else t3) t5 t8 t9 t10 t15 t16 t17 K R1 R2) else
 uE t3 t5 t8 t9 t10 t15 t16 t17 K R1 R2
def rY (p0 : Sl) (K : Int → HP) : HP :=
 loop (σ := List Value) (fun R1 vs1 =>
 ak .i64 (vs1.getD 0 undef) fun t3 =>
 ak .i64 (vs1.getD 1 undef) fun t10 =>
 bif (decide ((t10 : Int) < (p0.len : Nat))) then (
 aL p0 4 t10 fun t12 =>
 fS t12 fun t13 =>
 az #[.int .i64 0, .int .i64 0, .int .i64 0, .slice none 0 0] fun t5 =>
 aq (af t5) 0 [.int .i64 t13.seq, .int .i64 t13.size, .int .i64 t13.broken, .slice t13.l.a t13.l.len t13.l.cap] (
 aB ((af t5).add 3) fun t15 =>
 loop (σ := List Value) (fun R2 vs2 =>
 ak .i64 (vs2.getD 0 undef) fun t3_1 =>
 ak .i64 (vs2.getD 1 undef) fun t17 =>
 bif (decide ((t17 : Int) < (t15.len : Nat))) then (
 aL t15 14 t17 fun t19 =>
 qA t19 fun t20 =>
 az #[.int .i64 0, .int .i64 0, .int .i64 0, .int .i64 0, .int .i64 0, .int .i64 0, .int .i64 0, .int .i64 0, .int .i64 0, .int .i64 0, .int .i64 0, .int .i64 0, .int .i64 0, .slice none 0 0] fun t7 =>
 aq (af t7) 0 [.int .i64 t20.At, .int .i64 t20.eL, .int .i64 t20.iw, .int .i64 t20.iz, .int .i64 t20.iJ, .int .i64 t20.iM, .int .i64 t20.ir, .int .i64 t20.iu, .int .i64 t20.iI, .int .i64 t20.iE, .int .i64 t20.iK, .int .i64 t20.iG, .int .i64 t20.iH, .slice t20.cU.a t20.cU.len t20.cU.cap] (
 ag .i64 (((af t7).add 2).add 0) fun t23 =>
 bif (decide ((t23 : Int) = 1)) then (
 ag .i64 (((af t7).add 2).add 4) fun t28 =>
 ag .i64 ((af t5).add 0) fun t30 =>
 tN t3_1 t5 t7 p0 (p0.len : Nat) t10 t15 (t15.len : Nat) t17 (decide ((t28 : Int) ≤ t30)) K R1 R2) else
 tN t3_1 t5 t7 p0 (p0.len : Nat) t10 t15 (t15.len : Nat) t17 false K R1 R2)) else
 R1 [.int .i64 t3_1, .int .i64 (ay (t10 + 1))]) [.int .i64 t3, .int .i64 0])) else
 K t3) [.int .i64 0, .int .i64 0]
def adp (xs : List Value) (K : Value → HP) : HP :=
 arity xs 1 <|
 bA (xs.getD 0 undef) fun p0 =>
 rY p0 (fun r0 => K (.int .i64 r0))
def rE (p0 : Option Addr) (p1 : ByteArray) (K : Int → Int → HP) : HP :=
 oB p0 p1 fun t11a t11b =>
 K (t11a.size : Nat) t11b
def Vp (xs : List Value) (K : Value → HP) : HP :=
 arity xs 2 <|
 bu (xs.getD 0 undef) fun p0 =>
 bX (xs.getD 1 undef) fun p1 =>
 rE p0 p1 (fun r0 r1 => K (.tuple #[.int .i64 r0, .int .i64 r1]))
def mE (p0 : Option Addr) (p1 : ByteArray) (K : Bool → HP) : HP :=
 rE p0 p1 fun t10a t10b =>
 K (decide ((t10b : Int) = 0))
def YX (xs : List Value) (K : Value → HP) : HP :=
 arity xs 2 <|
 bu (xs.getD 0 undef) fun p0 =>
 bX (xs.getD 1 undef) fun p1 =>
 mE p0 p1 (fun r0 => K (.bool r0))
def vm (p0 : Addr) (p1 : Addr) (K : Int → HP) : HP :=
 ct p0 fun t3 =>
 bE p1 fun t4 =>
 lP t3 t4 fun t5 =>
 K t5
def Lr (xs : List Value) (K : Value → HP) : HP :=
 arity xs 2 <|
 dU (xs.getD 0 undef) fun p0 =>
 dU (xs.getD 1 undef) fun p1 =>
 vm p0 p1 (fun r0 => K (.int .i64 r0))
def qD (p0 : Option Addr) (K : HP) : HP :=
 nn p0 fun t7 =>
 gp (t7.add 2) fun t9 =>
 ob t9 fun t10 =>
 nn p0 fun t11 =>
 aq (t11.add 3) 0 [.map t10] (
 nn p0 fun t13 =>
 aq (t13.add 4) 0 [.slice none 0 0] (
 nn p0 fun t16 =>
 aB (t16.add 1) fun t18 =>
 loop (σ := List Value) (fun R1 vs1 =>
 ak .i64 (vs1.getD 0 undef) fun t20 =>
 bif (decide ((t20 : Int) < (t18.len : Nat))) then (
 aL t18 1 t20 fun t22 =>
 ct t22 fun t23 =>
 nn t23 fun t25 =>
 aq (t25.add 3) 0 [.bool false] (
 R1 [.int .i64 (ay (t20 + 1))])) else
 K) [.int .i64 0]))
def UB (xs : List Value) (K : Value → HP) : HP :=
 arity xs 1 <|
 bu (xs.getD 0 undef) fun p0 =>
 qD p0 (K (.tuple #[]))
def kG (p0 : Option Addr) (K : Int → HP) : HP :=
 mo p0 fun t5 =>
 bif (decide ((t5 : Int) = 0)) then (
 qD p0 (
 K t5)) else
 K t5
def ve (xs : List Value) (K : Value → HP) : HP :=
 arity xs 1 <|
 bu (xs.getD 0 undef) fun p0 =>
 kG p0 (fun r0 => K (.int .i64 r0))
def BF (C : Cx) (t0 : FV) (t3 : Int) (t11 : Bool) (K : Int → HP) : HP :=
 bif t11 then (
 C.ap t0 [] fun t13 =>
 ak .i64 t13 fun t13_1 =>
 K t13_1) else
 K t3
def ld (C : Cx) (p0 : FV) (K : Int → HP) : HP :=
 C.ap p0 [] fun t5 =>
 ak .i64 t5 fun t5_1 =>
 bif (!decide ((t5_1 : Int) = 0)) then (
 BF C p0 t5_1 (!decide ((t5_1 : Int) = 11)) K) else
 BF C p0 t5_1 false K
def X3 (C : Cx) (xs : List Value) (K : Value → HP) : HP :=
 arity xs 1 <|
 j9 (xs.getD 0 undef) fun p0 =>
 ld C p0 (fun r0 => K (.int .i64 r0))
def u7 (C : Cx) (p0 : Addr) (K : Int → HP) : HP :=
 ct p0 fun t2 =>
 fI C (fun xs K => ve ([.pointer t2] ++ xs ++ []) K) fun t3 =>
 ld C t3 fun t4 =>
 K t4
def Me (C : Cx) (xs : List Value) (K : Value → HP) : HP :=
 arity xs 1 <|
 dU (xs.getD 0 undef) fun p0 =>
 u7 C p0 (fun r0 => K (.int .i64 r0))
def lR (C : Cx) (p0 : Sl) (K : Int → HP) : HP :=
 loop (σ := List Value) (fun R1 vs1 =>
 ak .i64 (vs1.getD 0 undef) fun t8 =>
 bif (decide ((t8 : Int) < (p0.len : Nat))) then (
 aL p0 1 t8 fun t10 =>
 AH t10 fun t11 =>
 C.ap t11 [] fun t13 =>
 ak .i64 t13 fun t13_1 =>
 bif (!decide ((t13_1 : Int) = 0)) then (
 K t13_1) else
 R1 [.int .i64 (ay (t8 + 1))]) else
 K 0) [.int .i64 0]
def aaD (C : Cx) (xs : List Value) (K : Value → HP) : HP :=
 arity xs 1 <|
 bA (xs.getD 0 undef) fun p0 =>
 lR C p0 (fun r0 => K (.int .i64 r0))
def sY (C : Cx) (t2 : Nat) (t3 : Nat) (t13 : Bool) (K : Int → HP) : HP :=
 bif t13 then (
 K 0) else
 fI C (fun xs K => Lr ([] ++ xs ++ [.pointer (some (af t2)), .pointer (some (af t3))]) K) fun t14 =>
 fI C (fun xs K => Me C ([] ++ xs ++ [.pointer (some (af t2))]) K) fun t15 =>
 az #[t14.v, t15.v] fun t16 =>
 lR C (⟨some (af t16), 2, 2⟩ : Sl) fun t17 =>
 K t17
def nP (C : Cx) (p0 : Option Addr) (p1 : ByteArray) (K : Int → HP) : HP :=
 az #[.pointer p0] fun t2 =>
 az #[.string p1] fun t3 =>
 ct (af t2) fun t5 =>
 jH t5 fun t6 =>
 bif (!t6) then (
 ct (af t2) fun t9 =>
 bE (af t3) fun t10 =>
 mE t9 t10 fun t11 =>
 sY C t2 t3 (!t11) K) else
 sY C t2 t3 false K
def abK (C : Cx) (xs : List Value) (K : Value → HP) : HP :=
 arity xs 2 <|
 bu (xs.getD 0 undef) fun p0 =>
 bX (xs.getD 1 undef) fun p1 =>
 nP C p0 p1 (fun r0 => K (.int .i64 r0))
def mg (p0 : aZ) (K : Int → HP) : HP :=
 az #[.int .i64 p0.Kind, .int .i64 p0.bR, .int .i64 p0.Seq, .int .i64 p0.Next, .int .i64 p0.bW, .int .i64 p0.bV, .int .i64 p0.Time, .int .i64 p0.Flags, .int .i64 p0.Body, .int .i64 p0.bQ, .int .i64 p0.Origin, .slice p0.Data.a p0.Data.len p0.Data.cap] fun t1 =>
 ag .i64 ((af t1).add 3) fun t4 =>
 ag .i64 ((af t1).add 5) fun t6 =>
 K (if (ay (t6 + 1) : Int) > (if (t4 : Int) > 1 then t4 else 1) then (ay (t6 + 1)) else (if (t4 : Int) > 1 then t4 else 1))
def Ob (xs : List Value) (K : Value → HP) : HP :=
 arity xs 1 <|
 fU (xs.getD 0 undef) fun p0 =>
 mg p0 (fun r0 => K (.int .i64 r0))
def xG (C : Cx) (t0 : Option Addr) (t1 : Int) (t9 : Nat) (t43 : Sl) (t44 : Int) (t45 : Int) (K : Option Addr → Int → HP) (R1 : List Value → HP) : HP :=
 R1 [.int .i64 (ay (t45 + 1))]
def lD (C : Cx) (t0 : Option Addr) (t1 : Int) (t9 : Nat) (t15 : Int) (t101 : Bool) (K : Option Addr → Int → HP) (R2 : List Value → HP) : HP :=
 bif t101 then (
 nn (some (af t9)) fun t105 =>
 aB (t105.add 4) fun t107 =>
 aL t107 4 0 fun t108 =>
 ag .i64 (t108.add 0) fun t110 =>
 gO t1 t110 fun t111 =>
 nP C t0 t111 fun t112 =>
 bif (!decide ((t112 : Int) = 0)) then (
 K none t112) else
 nn (some (af t9)) fun t118 =>
 aB (t118.add 4) fun t120 =>
 eY t120 4 1 (t120.len : Nat) (t120.cap : Nat) fun t121 =>
 nn (some (af t9)) fun t122 =>
 aq (t122.add 4) 0 [.slice t121.a t121.len t121.cap] (
 R2 [])) else
 nn (some (af t9)) fun t125 =>
 aB (t125.add 4) fun t127 =>
 loop (σ := List Value) (fun R3 vs3 =>
 ak .i64 (vs3.getD 0 undef) fun t129 =>
 bif (decide ((t129 : Int) < (t127.len : Nat))) then (
 aL t127 4 t129 fun t131 =>
 fS t131 fun t132 =>
 az #[.int .i64 0, .int .i64 0, .int .i64 0, .slice none 0 0] fun t18 =>
 aq (af t18) 0 [.int .i64 t132.seq, .int .i64 t132.size, .int .i64 t132.broken, .slice t132.l.a t132.l.len t132.l.cap] (
 aB ((af t18).add 3) fun t134 =>
 loop (σ := List Value) (fun R4 vs4 =>
 ak .i64 (vs4.getD 0 undef) fun t136 =>
 bif (decide ((t136 : Int) < (t134.len : Nat))) then (
 aL t134 14 t136 fun t138 =>
 qA t138 fun t139 =>
 az #[.int .i64 0, .int .i64 0, .int .i64 0, .int .i64 0, .int .i64 0, .int .i64 0, .int .i64 0, .int .i64 0, .int .i64 0, .int .i64 0, .int .i64 0, .int .i64 0, .int .i64 0, .slice none 0 0] fun t20 =>
 aq (af t20) 0 [.int .i64 t139.At, .int .i64 t139.eL, .int .i64 t139.iw, .int .i64 t139.iz, .int .i64 t139.iJ, .int .i64 t139.iM, .int .i64 t139.ir, .int .i64 t139.iu, .int .i64 t139.iI, .int .i64 t139.iE, .int .i64 t139.iK, .int .i64 t139.iG, .int .i64 t139.iH, .slice t139.cU.a t139.cU.len t139.cU.cap] (
 nn (some (af t9)) fun t142 =>
 ag .i64 (t142.add 3) fun t144 =>
 bq ((af t20).add 2) fun t146 =>
 mg t146 fun t147 =>
 held (ag .i64 (t142.add 3) fun t144_1 =>
 fun _ => (Value.int .i64 t144_1) = (Value.int .i64 t144)) (
 nn (some (af t9)) fun t149 =>
 aq (t149.add 3) 0 [.int .i64 (if (t147 : Int) > t144 then t147 else t144)] (
 R4 [.int .i64 (ay (t136 + 1))])))) else
 R3 [.int .i64 (ay (t129 + 1))]) [.int .i64 0])) else
 K (some (af t9)) 0) [.int .i64 0]
def ta (C : Cx) (t0 : Option Addr) (t1 : Int) (t2 : Int) (t24 : Bool) (K : Option Addr → Int → HP) : HP :=
 bif t24 then (
 K none 1) else
 mz t1 fun t32 =>
 sI C t0 t32 fun t33 =>
 bif (!decide ((t33 : Int) = 0)) then (
 K none t33) else
 az #[.pointer t0, .int .i64 t1, .int .i64 t2, .int .i64 1, .slice none 0 0] fun t41 =>
 lX C t0 fun t43 =>
 loop (σ := List Value) (fun R1 vs1 =>
 ak .i64 (vs1.getD 0 undef) fun t45 =>
 bif (decide ((t45 : Int) < (t43.len : Nat))) then (
 aL t43 1 t45 fun t47 =>
 bE t47 fun t48 =>
 mz t1 fun t51 =>
 oD t48 t51 fun t52 =>
 bif (!t52) then (
 xG C t0 t1 t41 t43 (t43.len : Nat) t45 K R1) else
 pJ t1 t48 fun t56 =>
 bif (decide ((t56 : Int) = 0)) then (
 K none 12) else
 rL C t0 t1 t56 fun t63a t63b =>
 az #[.int .i64 0, .int .i64 0, .int .i64 0, .slice none 0 0] fun t13 =>
 aq (af t13) 0 [.int .i64 t63a.seq, .int .i64 t63a.size, .int .i64 t63a.broken, .slice t63a.l.a t63a.l.len t63a.l.cap] (
 bif (!decide ((t63b : Int) = 0)) then (
 K none t63b) else
 nn (some (af t41)) fun t71 =>
 aB (t71.add 4) fun t73 =>
 fS (af t13) fun t74 =>
 az #[.int .i64 t74.seq, .int .i64 t74.size, .int .i64 t74.broken, .slice t74.l.a t74.l.len t74.l.cap] fun t75 =>
 held (aB (t71.add 4) fun t73_1 =>
 fun _ => (Value.slice t73_1.a t73_1.len t73_1.cap) = (Value.slice t73.a t73.len t73.cap)) (
 app 4 48 #[.int .i64 0, .int .i64 0, .int .i64 0, .slice none 0 0] t73 (⟨some (af t75), 1, 1⟩ : Sl) fun t76 =>
 nn (some (af t41)) fun t77 =>
 aq (t77.add 4) 0 [.slice t76.a t76.len t76.cap] (
 xG C t0 t1 t41 t43 (t43.len : Nat) t45 K R1)))) else
 nn (some (af t41)) fun t81 =>
 aB (t81.add 4) fun t83 =>
 rY t83 fun t84 =>
 loop (σ := List Value) (fun R2 vs2 =>
 nn (some (af t41)) fun t86 =>
 aB (t86.add 4) fun t88 =>
 bif (decide ((0 : Int) < (t88.len : Nat))) then (
 nn (some (af t41)) fun t93 =>
 aB (t93.add 4) fun t95 =>
 aL t95 4 0 fun t96 =>
 ag .i64 (t96.add 0) fun t98 =>
 lD C t0 t1 t41 t84 (decide ((t98 : Int) < t84)) K R2) else
 lD C t0 t1 t41 t84 false K R2) []) [.int .i64 0]
def j7 (C : Cx) (p0 : Option Addr) (p1 : Int) (p2 : Int) (K : Option Addr → Int → HP) : HP :=
 jH p0 fun t23 =>
 bif t23 then (
 K none 11) else
 qu p1 fun t26 =>
 bif (!t26) then (
 ta C p0 p1 p2 (!t26) K) else
 ta C p0 p1 p2 (decide ((p2 : Int) < 1)) K
def afq (C : Cx) (xs : List Value) (K : Value → HP) : HP :=
 arity xs 3 <|
 bu (xs.getD 0 undef) fun p0 =>
 ak .i64 (xs.getD 1 undef) fun p1 =>
 ak .i64 (xs.getD 2 undef) fun p2 =>
 j7 C p0 p1 p2 (fun r0 r1 => K (.tuple #[.pointer r0, .int .i64 r1]))
def oE (p0 : aZ) (K : Bool → HP) : HP :=
 az #[.int .i64 p0.Kind, .int .i64 p0.bR, .int .i64 p0.Seq, .int .i64 p0.Next, .int .i64 p0.bW, .int .i64 p0.bV, .int .i64 p0.Time, .int .i64 p0.Flags, .int .i64 p0.Body, .int .i64 p0.bQ, .int .i64 p0.Origin, .slice p0.Data.a p0.Data.len p0.Data.cap] fun t1 =>
 ag .i64 ((af t1).add 0) fun t4 =>
 bif (decide ((t4 : Int) = 2)) then (
 K true) else
 ag .i64 ((af t1).add 0) fun t8 =>
 bif (decide ((t8 : Int) = 3)) then (
 K true) else
 ag .i64 ((af t1).add 0) fun t13 =>
 K (decide ((t13 : Int) = 4))
def NS (xs : List Value) (K : Value → HP) : HP :=
 arity xs 1 <|
 fU (xs.getD 0 undef) fun p0 =>
 oE p0 (fun r0 => K (.bool r0))
def kU (p0 : Option Addr) (K : Option Addr → HP) : HP :=
 nn p0 fun t4 =>
 aB (t4.add 4) fun t6 =>
 bif (decide (((t6.len : Nat) : Int) = 0)) then (
 K none) else
 nn p0 fun t10 =>
 aB (t10.add 4) fun t12 =>
 nn p0 fun t14 =>
 aB (t14.add 4) fun t16 =>
 aL t12 4 (ay ((t16.len : Nat) - 1)) fun t19 =>
 K (some t19)
def Wk (xs : List Value) (K : Value → HP) : HP :=
 arity xs 1 <|
 bu (xs.getD 0 undef) fun p0 =>
 kU p0 (fun r0 => K (.pointer r0))
def jN (p0 : Option Addr) (K : Int → HP) : HP :=
 kU p0 fun t5 =>
 bif (!t5.isNone) then (
 nn t5 fun t9 =>
 ag .i64 (t9.add 0) fun t11 =>
 K t11) else
 K 0
def PI (xs : List Value) (K : Value → HP) : HP :=
 arity xs 1 <|
 bu (xs.getD 0 undef) fun p0 =>
 jN p0 (fun r0 => K (.int .i64 r0))
def pP (p0 : Option Addr) (K : Bool → HP) : HP :=
 nn p0 fun t5 =>
 aB (t5.add 3) fun t7 =>
 bif (decide ((0 : Int) < (t7.len : Nat))) then (
 nn p0 fun t13 =>
 aB (t13.add 3) fun t15 =>
 aL t15 14 (ay ((t7.len : Nat) - 1)) fun t18 =>
 ag .i64 (t18.add 0) fun t20 =>
 nn p0 fun t22 =>
 aB (t22.add 3) fun t24 =>
 aL t24 14 (ay ((t7.len : Nat) - 1)) fun t27 =>
 ag .i64 (t27.add 1) fun t29 =>
 nn p0 fun t32 =>
 ag .i64 (t32.add 1) fun t34 =>
 K (decide ((ay (t20 + t29) : Int) = t34))) else
 K false
def Sj (xs : List Value) (K : Value → HP) : HP :=
 arity xs 1 <|
 bu (xs.getD 0 undef) fun p0 =>
 pP p0 (fun r0 => K (.bool r0))
def oT (K : Option Addr → HP) : HP :=
 az #[.slice none 0 0] fun t2 =>
 K (some (af t2))
def acw (xs : List Value) (K : Value → HP) : HP :=
 arity xs 0 <|
 oT (fun r0 => K (.pointer r0))
def uB (p0 : Int) (p1 : Int) (K : Bool → HP) : HP :=
 bif (decide ((p1 : Int) = 8)) then (
 K true) else
 ng (wr .u64 (ay (8 * p1))) (
 K (decide ((eM .u64 p0 (wr .u64 (ay (8 * p1))) : Int) = 0)))
def WY (xs : List Value) (K : Value → HP) : HP :=
 arity xs 2 <|
 ak .u64 (xs.getD 0 undef) fun p0 =>
 ak .i64 (xs.getD 1 undef) fun p1 =>
 uB p0 p1 (fun r0 => K (.bool r0))
def uI (t0 : Int) (t1 : Int) (t16 : Bool) (K : Sl → Bool → HP) : HP :=
 bif t16 then (
 K (⟨none, 0, 0⟩ : Sl) false) else
 oI 1 #[.int .u8 0] t1 t1 fun t18 =>
 loop (σ := List Value) (fun R1 vs1 =>
 ak .i64 (vs1.getD 0 undef) fun t21 =>
 bif (decide ((t21 : Int) < (t18.len : Nat))) then (
 ng (wr .u64 (ay (8 * (ay ((ay (t1 - 1)) - t21))))) (
 aL t18 1 t21 fun t35 =>
 aq t35 0 [.int .u8 (wr .u8 (eM .u64 t0 (wr .u64 (ay (8 * (ay ((ay (t1 - 1)) - t21)))))))] (
 R1 [.int .i64 (ay (t21 + 1))]))) else
 K t18 true) [.int .i64 0]
def tQ (p0 : Int) (p1 : Int) (K : Sl → Bool → HP) : HP :=
 lU p1 fun t9 =>
 bif (!t9) then (
 uI p0 p1 true K) else
 uB p0 p1 fun t14 =>
 uI p0 p1 (!t14) K
def acL (xs : List Value) (K : Value → HP) : HP :=
 arity xs 2 <|
 ak .u64 (xs.getD 0 undef) fun p0 =>
 ak .i64 (xs.getD 1 undef) fun p1 =>
 tQ p0 p1 (fun r0 r1 => K (.tuple #[.slice r0.a r0.len r0.cap, .bool r1]))
def mO (p0 : Option Addr) (p1 : Int) (p2 : Int) (K : Bool → HP) : HP :=
 tQ p1 p2 fun t12a t12b =>
 nn p0 fun t17 =>
 aB (t17.add 0) fun t19 =>
 app 1 1 #[.int .u8 0] t19 t12a fun t21 =>
 nn p0 fun t22 =>
 aq (t22.add 0) 0 [.slice t21.a t21.len t21.cap] (
 K t12b)
def QD (xs : List Value) (K : Value → HP) : HP :=
 arity xs 3 <|
 bu (xs.getD 0 undef) fun p0 =>
 ak .u64 (xs.getD 1 undef) fun p1 =>
 ak .i64 (xs.getD 2 undef) fun p2 =>
 mO p0 p1 p2 (fun r0 => K (.bool r0))
def qn (p0 : Option Addr) (p1 : Sl) (K : HP) : HP :=
 nn p0 fun t6 =>
 aB (t6.add 0) fun t8 =>
 app 1 1 #[.int .u8 0] t8 p1 fun t10 =>
 nn p0 fun t11 =>
 aq (t11.add 0) 0 [.slice t10.a t10.len t10.cap] (
 K)
def Pe (xs : List Value) (K : Value → HP) : HP :=
 arity xs 2 <|
 bu (xs.getD 0 undef) fun p0 =>
 bA (xs.getD 1 undef) fun p1 =>
 qn p0 p1 (K (.tuple #[]))
def mS (p0 : Option Addr) (K : Sl → HP) : HP :=
 nn p0 fun t4 =>
 aB (t4.add 0) fun t6 =>
 om t6 fun t7 =>
 K t7
def abP (xs : List Value) (K : Value → HP) : HP :=
 arity xs 1 <|
 bu (xs.getD 0 undef) fun p0 =>
 mS p0 (fun r0 => K (.slice r0.a r0.len r0.cap))
def rQ (p0 : aZ) (K : Sl → Int → HP) : HP :=
 az #[.int .i64 p0.Kind, .int .i64 p0.bR, .int .i64 p0.Seq, .int .i64 p0.Next, .int .i64 p0.bW, .int .i64 p0.bV, .int .i64 p0.Time, .int .i64 p0.Flags, .int .i64 p0.Body, .int .i64 p0.bQ, .int .i64 p0.Origin, .slice p0.Data.a p0.Data.len p0.Data.cap] fun t1 =>
 bq (af t1) fun t8 =>
 lG t8 fun t9 =>
 bif (!decide ((t9 : Int) = 0)) then (
 K (⟨none, 0, 0⟩ : Sl) t9) else
 oT fun t13 =>
 lC (some (af t1)) fun t14 =>
 loop (σ := List Value) (fun R1 vs1 =>
 ak .i64 (vs1.getD 0 undef) fun t16 =>
 bif (decide ((t16 : Int) < (t14.len : Nat))) then (
 aL t14 4 t16 fun t18 =>
 fM t18 fun t19 =>
 az #[.int .i64 0, .int .i64 0, .int .i64 0, .pointer none] fun t7 =>
 aq (af t7) 0 [.int .i64 t19.width, .int .i64 t19.low, .int .i64 t19.high, .pointer t19.at_] (
 ct ((af t7).add 3) fun t22 =>
 nn t22 fun t23 =>
 ag .i64 t23 fun t24 =>
 ag .i64 ((af t7).add 0) fun t27 =>
 mO t13 (wr .u64 t24) t27 fun t28 =>
 R1 [.int .i64 (ay (t16 + 1))])) else
 aB ((af t1).add 11) fun t32 =>
 qn t13 t32 (
 mS t13 fun t35 =>
 K t35 0)) [.int .i64 0]
def T1 (xs : List Value) (K : Value → HP) : HP :=
 arity xs 1 <|
 fU (xs.getD 0 undef) fun p0 =>
 rQ p0 (fun r0 r1 => K (.tuple #[.slice r0.a r0.len r0.cap, .int .i64 r1]))
def xg (t3 : Sl) (t6 : Sl) (t7 : Int) (t8 : Int) (K : Sl → HP) (R1 : List Value → HP) : HP :=
 R1 [.slice t3.a t3.len t3.cap, .int .i64 (ay (t8 + 1))]
def sO (t3 : Sl) (t5 : Int) (t6 : Sl) (t7 : Int) (t8 : Int) (t17 : Bool) (K : Sl → HP) (R1 : List Value → HP) : HP :=
 bif t17 then (
 az #[.int .u8 81, .int .u8 (wr .u8 (t5 - 80))] fun t21 =>
 app 1 1 #[.int .u8 0] t3 (⟨some (af t21), 2, 2⟩ : Sl) fun t22 =>
 xg t22 t6 t7 t8 K R1) else
 az #[.int .u8 t5] fun t25 =>
 app 1 1 #[.int .u8 0] t3 (⟨some (af t25), 1, 1⟩ : Sl) fun t26 =>
 xg t26 t6 t7 t8 K R1
def rq (p0 : Sl) (K : Sl → HP) : HP :=
 loop (σ := List Value) (fun R1 vs1 =>
 bA (vs1.getD 0 undef) fun t3 =>
 ak .i64 (vs1.getD 1 undef) fun t8 =>
 bif (decide ((t8 : Int) < (p0.len : Nat))) then (
 aL p0 1 t8 fun t10 =>
 ag .u8 t10 fun t11 =>
 bif (decide ((t11 : Int) = 80)) then (
 sO t3 t11 p0 (p0.len : Nat) t8 true K R1) else
 sO t3 t11 p0 (p0.len : Nat) t8 (decide ((t11 : Int) = 81)) K R1) else
 K t3) [.slice none 0 0, .int .i64 0]
def XE (xs : List Value) (K : Value → HP) : HP :=
 arity xs 1 <|
 bA (xs.getD 0 undef) fun p0 =>
 rq p0 (fun r0 => K (.slice r0.a r0.len r0.cap))
def Ds (t0 : Int) (t1 : Sl) (t7 : Bool) (K : Sl → Int → HP) : HP :=
 bif t7 then (
 K (⟨none, 0, 0⟩ : Sl) 1) else
 bif (decide ((65536 : Int) < (t1.len : Nat))) then (
 K (⟨none, 0, 0⟩ : Sl) 4) else
 oT fun t18 =>
 mO t18 (wr .u64 t0) 1 fun t22 =>
 mO t18 (wr .u64 (t1.len : Nat)) 4 fun t27 =>
 mS t18 fun t30 =>
 qE t30 t1 fun t32 =>
 mO t18 (wr .u64 t32) 4 fun t34 =>
 qn t18 t1 (
 az #[.int .u8 80] fun t38 =>
 mS t18 fun t40 =>
 rq t40 fun t41 =>
 app 1 1 #[.int .u8 0] (⟨some (af t38), 1, 1⟩ : Sl) t41 fun t42 =>
 K t42 0)
def qV (p0 : Int) (p1 : Sl) (K : Sl → Int → HP) : HP :=
 bif (decide ((p0 : Int) < 0)) then (
 Ds p0 p1 true K) else
 Ds p0 p1 (decide ((255 : Int) < p0)) K
def UP (xs : List Value) (K : Value → HP) : HP :=
 arity xs 2 <|
 ak .i64 (xs.getD 0 undef) fun p0 =>
 bA (xs.getD 1 undef) fun p1 =>
 qV p0 p1 (fun r0 r1 => K (.tuple #[.slice r0.a r0.len r0.cap, .int .i64 r1]))
def lS (p0 : aZ) (K : Sl → Int → HP) : HP :=
 az #[.int .i64 p0.Kind, .int .i64 p0.bR, .int .i64 p0.Seq, .int .i64 p0.Next, .int .i64 p0.bW, .int .i64 p0.bV, .int .i64 p0.Time, .int .i64 p0.Flags, .int .i64 p0.Body, .int .i64 p0.bQ, .int .i64 p0.Origin, .slice p0.Data.a p0.Data.len p0.Data.cap] fun t1 =>
 bq (af t1) fun t7 =>
 rQ t7 fun t8a t8b =>
 bif (!decide ((t8b : Int) = 0)) then (
 K (⟨none, 0, 0⟩ : Sl) t8b) else
 ag .i64 ((af t1).add 0) fun t15 =>
 qV t15 t8a fun t17a t17b =>
 K t17a t17b
def SY (xs : List Value) (K : Value → HP) : HP :=
 arity xs 1 <|
 fU (xs.getD 0 undef) fun p0 =>
 lS p0 (fun r0 r1 => K (.tuple #[.slice r0.a r0.len r0.cap, .int .i64 r1]))
def kM (p0 : gE) (p1 : ByteArray) (K : ByteArray → HP) : HP :=
 az #[.int .i64 p0.place, .string p0.bytes] fun t2 =>
 ag .i64 ((af t2).add 0) fun t9 =>
 bE ((af t2).add 1) fun t11 =>
 oI 1 #[.int .u8 0] (if (ay (t9 + (t11.size : Nat)) : Int) > (p1.size : Nat) then (ay (t9 + (t11.size : Nat))) else (p1.size : Nat)) (if (ay (t9 + (t11.size : Nat)) : Int) > (p1.size : Nat) then (ay (t9 + (t11.size : Nat))) else (p1.size : Nat)) fun t15 =>
 oq t15 p1 fun t18 =>
 ag .i64 ((af t2).add 0) fun t21 =>
 eY t15 1 t21 (t15.len : Nat) (t15.cap : Nat) fun t22 =>
 bE ((af t2).add 1) fun t24 =>
 oq t22 t24 fun t25 =>
 ef t15 fun t27 =>
 K t27
def Yo (xs : List Value) (K : Value → HP) : HP :=
 arity xs 2 <|
 xU (xs.getD 0 undef) fun p0 =>
 bX (xs.getD 1 undef) fun p1 =>
 kM p0 p1 (fun r0 => K (.string r0))
def tC (p0 : Option Addr) (p1 : Int) (p2 : gE) (K : Int → HP) : HP :=
 az #[.int .i64 p2.place, .string p2.bytes] fun t5 =>
 nn p0 fun t10 =>
 aB (t10.add 1) fun t12 =>
 aL t12 1 p1 fun t14 =>
 ct t14 fun t15 =>
 jb (af t5) fun t16 =>
 nn t15 fun t18 =>
 bE (t18.add 0) fun t20 =>
 kM t16 t20 fun t21 =>
 nn t15 fun t25 =>
 bE (t25.add 0) fun t27 =>
 qO p0 fun t31 =>
 held (bE (t25.add 0) fun t27_1 =>
 fun _ => (Value.string t27_1) = (Value.string t27)) (
 bif (decide ((t31 : Int) < (ay ((t21.size : Nat) - (t27.size : Nat))))) then (
 K 10) else
 nn t15 fun t35 =>
 aq (t35.add 0) 0 [.string t21] (
 nn t15 fun t39 =>
 aB (t39.add 2) fun t41 =>
 jb (af t5) fun t42 =>
 az #[.int .i64 t42.place, .string t42.bytes] fun t43 =>
 held (aB (t39.add 2) fun t41_1 =>
 fun _ => (Value.slice t41_1.a t41_1.len t41_1.cap) = (Value.slice t41.a t41.len t41.cap)) (
 app 2 24 #[.int .i64 0, .string (⟨#[]⟩ : ByteArray)] t41 (⟨some (af t43), 1, 1⟩ : Sl) fun t44 =>
 nn t15 fun t45 =>
 aq (t45.add 2) 0 [.slice t44.a t44.len t44.cap] (
 K 0))))
def abg (xs : List Value) (K : Value → HP) : HP :=
 arity xs 3 <|
 bu (xs.getD 0 undef) fun p0 =>
 ak .i64 (xs.getD 1 undef) fun p1 =>
 xU (xs.getD 2 undef) fun p2 =>
 tC p0 p1 p2 (fun r0 => K (.int .i64 r0))
def tL (p0 : Option Addr) (p1 : ByteArray) (p2 : Sl) (K : Int → HP) : HP :=
 oc p0 p1 fun t12a t12b =>
 bif (!decide ((t12b : Int) = 0)) then (
 K t12b) else
 nn p0 fun t21 =>
 aB (t21.add 1) fun t23 =>
 aL t23 1 t12a fun t25 =>
 ct t25 fun t26 =>
 nn t26 fun t27 =>
 bE (t27.add 0) fun t29 =>
 ef p2 fun t32 =>
 tC p0 t12a (⟨(t29.size : Nat), t32⟩ : gE) fun t34 =>
 K t34
def RI (xs : List Value) (K : Value → HP) : HP :=
 arity xs 3 <|
 bu (xs.getD 0 undef) fun p0 =>
 bX (xs.getD 1 undef) fun p1 =>
 bA (xs.getD 2 undef) fun p2 =>
 tL p0 p1 p2 (fun r0 => K (.int .i64 r0))
def wX (p0 : Addr) (p1 : Addr) (p2 : Addr) (K : Int → HP) : HP :=
 ct p0 fun t4 =>
 bE p1 fun t5 =>
 aB p2 fun t6 =>
 tL t4 t5 t6 fun t7 =>
 K t7
def HW (xs : List Value) (K : Value → HP) : HP :=
 arity xs 3 <|
 dU (xs.getD 0 undef) fun p0 =>
 dU (xs.getD 1 undef) fun p1 =>
 dU (xs.getD 2 undef) fun p2 =>
 wX p0 p1 p2 (fun r0 => K (.int .i64 r0))
def nL (p0 : Option Addr) (K : HP) : HP :=
 nn p0 fun t5 =>
 bE (t5.add 0) fun t7 =>
 nn p0 fun t8 =>
 aq (t8.add 1) 0 [.string t7] (
 nn p0 fun t10 =>
 aq (t10.add 2) 0 [.slice none 0 0] (
 K))
def aeS (xs : List Value) (K : Value → HP) : HP :=
 arity xs 1 <|
 bu (xs.getD 0 undef) fun p0 =>
 nL p0 (K (.tuple #[]))
def sW (p0 : Option Addr) (p1 : ByteArray) (K : Int → HP) : HP :=
 oc p0 p1 fun t10a t10b =>
 bif (!decide ((t10b : Int) = 0)) then (
 K t10b) else
 nn p0 fun t17 =>
 aB (t17.add 1) fun t19 =>
 aL t19 1 t10a fun t21 =>
 ct t21 fun t22 =>
 nL t22 (
 K 0)
def Og (xs : List Value) (K : Value → HP) : HP :=
 arity xs 2 <|
 bu (xs.getD 0 undef) fun p0 =>
 bX (xs.getD 1 undef) fun p1 =>
 sW p0 p1 (fun r0 => K (.int .i64 r0))
def wU (p0 : Addr) (p1 : Addr) (K : Int → HP) : HP :=
 ct p0 fun t3 =>
 bE p1 fun t4 =>
 sW t3 t4 fun t5 =>
 K t5
def DY (xs : List Value) (K : Value → HP) : HP :=
 arity xs 2 <|
 dU (xs.getD 0 undef) fun p0 =>
 dU (xs.getD 1 undef) fun p1 =>
 wU p0 p1 (fun r0 => K (.int .i64 r0))
def ur (C : Cx) (p0 : Option Addr) (p1 : ByteArray) (K : Int → HP) : HP :=
 az #[.pointer p0] fun t2 =>
 az #[.string p1] fun t3 =>
 fI C (fun xs K => DY ([] ++ xs ++ [.pointer (some (af t2)), .pointer (some (af t3))]) K) fun t5 =>
 ld C t5 fun t6 =>
 K t6
def agx (C : Cx) (xs : List Value) (K : Value → HP) : HP :=
 arity xs 2 <|
 bu (xs.getD 0 undef) fun p0 =>
 bX (xs.getD 1 undef) fun p1 =>
 ur C p0 p1 (fun r0 => K (.int .i64 r0))
def xu (C : Cx) (p0 : Addr) (p1 : Addr) (K : Int → HP) : HP :=
 ct p0 fun t3 =>
 bE p1 fun t4 =>
 ur C t3 t4 fun t5 =>
 K t5
def GR (C : Cx) (xs : List Value) (K : Value → HP) : HP :=
 arity xs 2 <|
 dU (xs.getD 0 undef) fun p0 =>
 dU (xs.getD 1 undef) fun p1 =>
 xu C p0 p1 (fun r0 => K (.int .i64 r0))
def oh (C : Cx) (p0 : Option Addr) (p1 : ByteArray) (p2 : Sl) (K : Int → HP) : HP :=
 az #[.pointer p0] fun t3 =>
 az #[.string p1] fun t4 =>
 az #[.slice p2.a p2.len p2.cap] fun t5 =>
 fI C (fun xs K => HW ([] ++ xs ++ [.pointer (some (af t3)), .pointer (some (af t4)), .pointer (some (af t5))]) K) fun t7 =>
 fI C (fun xs K => GR C ([] ++ xs ++ [.pointer (some (af t3)), .pointer (some (af t4))]) K) fun t8 =>
 az #[t7.v, t8.v] fun t9 =>
 lR C (⟨some (af t9), 2, 2⟩ : Sl) fun t10 =>
 K t10
def SO (C : Cx) (xs : List Value) (K : Value → HP) : HP :=
 arity xs 3 <|
 bu (xs.getD 0 undef) fun p0 =>
 bX (xs.getD 1 undef) fun p1 =>
 bA (xs.getD 2 undef) fun p2 =>
 oh C p0 p1 p2 (fun r0 => K (.int .i64 r0))
def wm (C : Cx) (t0 : Option Addr) (t3 : Nat) (t5 : Option Addr) (t6 : Sl) (t7 : Int) (K : Int → HP) : HP :=
 bif (!decide ((t7 : Int) = 0)) then (
 K t7) else
 nn t5 fun t37 =>
 aB (t37.add 3) fun t39 =>
 nn t5 fun t41 =>
 ag .i64 (t41.add 1) fun t43 =>
 bq (af t3) fun t46 =>
 az #[.int .i64 t43, .int .i64 (t6.len : Nat), .int .i64 t46.Kind, .int .i64 t46.bR, .int .i64 t46.Seq, .int .i64 t46.Next, .int .i64 t46.bW, .int .i64 t46.bV, .int .i64 t46.Time, .int .i64 t46.Flags, .int .i64 t46.Body, .int .i64 t46.bQ, .int .i64 t46.Origin, .slice t46.Data.a t46.Data.len t46.Data.cap] fun t48 =>
 held (aB (t37.add 3) fun t39_1 =>
 fun _ => (Value.slice t39_1.a t39_1.len t39_1.cap) = (Value.slice t39.a t39.len t39.cap)) (
 app 14 128 #[.int .i64 0, .int .i64 0, .int .i64 0, .int .i64 0, .int .i64 0, .int .i64 0, .int .i64 0, .int .i64 0, .int .i64 0, .int .i64 0, .int .i64 0, .int .i64 0, .int .i64 0, .slice none 0 0] t39 (⟨some (af t48), 1, 1⟩ : Sl) fun t49 =>
 nn t5 fun t50 =>
 aq (t50.add 3) 0 [.slice t49.a t49.len t49.cap] (
 nn t5 fun t53 =>
 ag .i64 (t53.add 1) fun t55 =>
 nn t5 fun t59 =>
 aq (t59.add 1) 0 [.int .i64 (ay (t55 + (t6.len : Nat)))] (
 nn t0 fun t63 =>
 ag .i64 (t63.add 3) fun t65 =>
 bq (af t3) fun t66 =>
 mg t66 fun t67 =>
 held (ag .i64 (t63.add 3) fun t65_1 =>
 fun _ => (Value.int .i64 t65_1) = (Value.int .i64 t65)) (
 nn t0 fun t69 =>
 aq (t69.add 3) 0 [.int .i64 (if (t67 : Int) > t65 then t67 else t65)] (
 K 0)))))
def oH (C : Cx) (p0 : Option Addr) (p1 : aZ) (K : Int → HP) : HP :=
 az #[.int .i64 p1.Kind, .int .i64 p1.bR, .int .i64 p1.Seq, .int .i64 p1.Next, .int .i64 p1.bW, .int .i64 p1.bV, .int .i64 p1.Time, .int .i64 p1.Flags, .int .i64 p1.Body, .int .i64 p1.bQ, .int .i64 p1.Origin, .slice p1.Data.a p1.Data.len p1.Data.cap] fun t3 =>
 kU p0 fun t9 =>
 bq (af t3) fun t11 =>
 lS t11 fun t12a t12b =>
 bif (decide ((t12b : Int) = 0)) then (
 nn p0 fun t18 =>
 ct (t18.add 0) fun t20 =>
 nn p0 fun t22 =>
 ag .i64 (t22.add 1) fun t24 =>
 nn t9 fun t26 =>
 ag .i64 (t26.add 0) fun t28 =>
 gO t24 t28 fun t29 =>
 held (ct (t18.add 0) fun t20_1 =>
 fun _ => (Value.pointer t20_1) = (Value.pointer t20)) (
 oh C t20 t29 t12a fun t31 =>
 wm C p0 t3 t9 t12a t31 K)) else
 wm C p0 t3 t9 t12a t12b K
def Y1 (C : Cx) (xs : List Value) (K : Value → HP) : HP :=
 arity xs 2 <|
 bu (xs.getD 0 undef) fun p0 =>
 fU (xs.getD 1 undef) fun p1 =>
 oH C p0 p1 (fun r0 => K (.int .i64 r0))
def qP (p0 : Option Addr) (p1 : Int) (p2 : Int) (K : aZ → HP) : HP :=
 az #[.int .i64 0, .int .i64 0, .int .i64 0, .int .i64 0, .int .i64 0, .int .i64 0, .int .i64 0, .int .i64 0, .int .i64 0, .int .i64 0, .int .i64 0, .slice none 0 0] fun t6 =>
 nn p0 fun t8 =>
 ag .i64 (t8.add 1) fun t10 =>
 nn p0 fun t13 =>
 ag .i64 (t13.add 3) fun t15 =>
 aq (af t6) 0 [.int .i64 1, .int .i64 t10, .int .i64 p1, .int .i64 t15, .int .i64 p2, .int .i64 0, .int .i64 0, .int .i64 0, .int .i64 0, .int .i64 0, .int .i64 0, .slice none 0 0] (
 bq (af t6) fun r6 =>
 K r6)
def afs (xs : List Value) (K : Value → HP) : HP :=
 arity xs 3 <|
 bu (xs.getD 0 undef) fun p0 =>
 ak .i64 (xs.getD 1 undef) fun p1 =>
 ak .i64 (xs.getD 2 undef) fun p2 =>
 qP p0 p1 p2 (fun r0 => K (r0.v))
def xA (t0 : Option Addr) (t1 : ByteArray) (t7 : Bool) (K : Int → HP) : HP :=
 bif t7 then (
 K 8) else
 nn t0 fun t27 =>
 gp (t27.add 2) fun t29 =>
 A6 t29 fun t30 =>
 bif (decide ((t30 : Int) = 1024)) then (
 K 6) else
 nn t0 fun t34 =>
 aB (t34.add 1) fun t36 =>
 az #[.string (⟨#[]⟩ : ByteArray), .string (⟨#[]⟩ : ByteArray), .slice none 0 0, .bool true] fun t38 =>
 az #[.pointer (some (af t38))] fun t39 =>
 app 1 8 #[.pointer none] t36 (⟨some (af t39), 1, 1⟩ : Sl) fun t40 =>
 nn t0 fun t41 =>
 aq (t41.add 1) 0 [.slice t40.a t40.len t40.cap] (
 nn t0 fun t45 =>
 aB (t45.add 1) fun t47 =>
 mT t0 (⟨(ay ((t47.len : Nat) - 1)), t1, true⟩ : iA) (
 K 0))
def pV (p0 : Option Addr) (p1 : ByteArray) (K : Int → HP) : HP :=
 mo p0 fun t9 =>
 bif (!decide ((t9 : Int) = 0)) then (
 K t9) else
 nO p1 fun t14 =>
 bif (!t14) then (
 K 3) else
 nn p0 fun t18 =>
 gp (t18.add 2) fun t20 =>
 qZ .string t20 (Value.string p1) (
 xA p0 p1 false K) fun t22 =>
 lW .i64 t22 fun t22_1 =>
 xA p0 p1 true K
def XV (xs : List Value) (K : Value → HP) : HP :=
 arity xs 2 <|
 bu (xs.getD 0 undef) fun p0 =>
 bX (xs.getD 1 undef) fun p1 =>
 pV p0 p1 (fun r0 => K (.int .i64 r0))
def vo (C : Cx) (p0 : Addr) (p1 : Addr) (p2 : Addr) (K : Int → HP) : HP :=
 ct p0 fun t4 =>
 bE p1 fun t5 =>
 aB p2 fun t6 =>
 oh C t4 t5 t6 fun t7 =>
 K t7
def J3 (C : Cx) (xs : List Value) (K : Value → HP) : HP :=
 arity xs 3 <|
 dU (xs.getD 0 undef) fun p0 =>
 dU (xs.getD 1 undef) fun p1 =>
 dU (xs.getD 2 undef) fun p2 =>
 vo C p0 p1 p2 (fun r0 => K (.int .i64 r0))
def wW (C : Cx) (p0 : Addr) (K : Int → HP) : HP :=
 ct p0 fun t2 =>
 fI C (fun xs K => ve ([.pointer t2] ++ xs ++ []) K) fun t3 =>
 ld C t3 fun t4 =>
 K t4
def Jx (C : Cx) (xs : List Value) (K : Value → HP) : HP :=
 arity xs 1 <|
 dU (xs.getD 0 undef) fun p0 =>
 wW C p0 (fun r0 => K (.int .i64 r0))
def qM (p0 : Addr) (p1 : Addr) (K : Int → HP) : HP :=
 ct p0 fun t3 =>
 bE p1 fun t4 =>
 lP t3 t4 fun t5 =>
 K t5
def Iv (xs : List Value) (K : Value → HP) : HP :=
 arity xs 2 <|
 dU (xs.getD 0 undef) fun p0 =>
 dU (xs.getD 1 undef) fun p1 =>
 qM p0 p1 (fun r0 => K (.int .i64 r0))
def qv (C : Cx) (p0 : Option Addr) (p1 : ByteArray) (K : HP) : HP :=
 az #[.pointer p0] fun t2 =>
 az #[.string p1] fun t3 =>
 fI C (fun xs K => Iv ([] ++ xs ++ [.pointer (some (af t2)), .pointer (some (af t3))]) K) fun t4 =>
 ld C t4 fun t5 =>
 K
def TK (C : Cx) (xs : List Value) (K : Value → HP) : HP :=
 arity xs 2 <|
 bu (xs.getD 0 undef) fun p0 =>
 bX (xs.getD 1 undef) fun p1 =>
 qv C p0 p1 (K (.tuple #[]))
def rW (C : Cx) (t3 : Nat) (t4 : Nat) (t8 : Int) (t27 : Bool) (K : Int → HP) : HP :=
 bif t27 then (
 ct (af t3) fun t28 =>
 bE (af t4) fun t29 =>
 qv C t28 t29 (
 K t8)) else
 K t8
def rO (C : Cx) (p0 : Option Addr) (p1 : ByteArray) (p2 : Sl) (K : Int → HP) : HP :=
 az #[.pointer p0] fun t3 =>
 az #[.string p1] fun t4 =>
 az #[.slice p2.a p2.len p2.cap] fun t5 =>
 ct (af t3) fun t9 =>
 bE (af t4) fun t10 =>
 mE t9 t10 fun t11 =>
 bif t11 then (
 K 8) else
 ct (af t3) fun t12 =>
 bE (af t4) fun t13 =>
 pV t12 t13 fun t14 =>
 bif (!decide ((t14 : Int) = 0)) then (
 K t14) else
 fI C (fun xs K => J3 C ([] ++ xs ++ [.pointer (some (af t3)), .pointer (some (af t4)), .pointer (some (af t5))]) K) fun t18 =>
 fI C (fun xs K => Jx C ([] ++ xs ++ [.pointer (some (af t3))]) K) fun t19 =>
 az #[t18.v, t19.v] fun t20 =>
 lR C (⟨some (af t20), 2, 2⟩ : Sl) fun t21 =>
 bif (!decide ((t21 : Int) = 0)) then (
 rW C t3 t4 t21 (!decide ((t21 : Int) = 11)) K) else
 rW C t3 t4 t21 false K
def aeX (C : Cx) (xs : List Value) (K : Value → HP) : HP :=
 arity xs 3 <|
 bu (xs.getD 0 undef) fun p0 =>
 bX (xs.getD 1 undef) fun p1 =>
 bA (xs.getD 2 undef) fun p2 =>
 rO C p0 p1 p2 (fun r0 => K (.int .i64 r0))
def ya (C : Cx) (t0 : Option Addr) (t5 : Int) (t6 : Nat) (t7 : Sl) (t8 : Int) (K : Int → HP) : HP :=
 bif (!decide ((t8 : Int) = 0)) then (
 K t8) else
 nn t0 fun t91 =>
 aB (t91.add 4) fun t93 =>
 bq (af t6) fun t99 =>
 az #[.int .i64 0, .int .i64 (t7.len : Nat), .int .i64 t99.Kind, .int .i64 t99.bR, .int .i64 t99.Seq, .int .i64 t99.Next, .int .i64 t99.bW, .int .i64 t99.bV, .int .i64 t99.Time, .int .i64 t99.Flags, .int .i64 t99.Body, .int .i64 t99.bQ, .int .i64 t99.Origin, .slice t99.Data.a t99.Data.len t99.Data.cap] fun t101 =>
 held (aB (t91.add 4) fun t93_2 =>
 fun _ => (Value.slice t93_2.a t93_2.len t93_2.cap) = (Value.slice t93.a t93.len t93.cap)) (
 az #[.int .i64 t5, .int .i64 (t7.len : Nat), .int .i64 0, .slice (some (af t101)) 1 1] fun t103 =>
 held (aB (t91.add 4) fun t93_1 =>
 fun _ => (Value.slice t93_1.a t93_1.len t93_1.cap) = (Value.slice t93.a t93.len t93.cap)) (
 app 4 48 #[.int .i64 0, .int .i64 0, .int .i64 0, .slice none 0 0] t93 (⟨some (af t103), 1, 1⟩ : Sl) fun t104 =>
 nn t0 fun t105 =>
 aq (t105.add 4) 0 [.slice t104.a t104.len t104.cap] (
 K 0)))
def w5 (C : Cx) (t0 : Option Addr) (K : Int → HP) : HP :=
 jN t0 fun t62 =>
 qP t0 (ay (t62 + 1)) 0 fun t66 =>
 az #[.int .i64 0, .int .i64 0, .int .i64 0, .int .i64 0, .int .i64 0, .int .i64 0, .int .i64 0, .int .i64 0, .int .i64 0, .int .i64 0, .int .i64 0, .slice none 0 0] fun t6 =>
 aq (af t6) 0 [.int .i64 t66.Kind, .int .i64 t66.bR, .int .i64 t66.Seq, .int .i64 t66.Next, .int .i64 t66.bW, .int .i64 t66.bV, .int .i64 t66.Time, .int .i64 t66.Flags, .int .i64 t66.Body, .int .i64 t66.bQ, .int .i64 t66.Origin, .slice t66.Data.a t66.Data.len t66.Data.cap] (
 bq (af t6) fun t68 =>
 lS t68 fun t69a t69b =>
 bif (decide ((t69b : Int) = 0)) then (
 nn t0 fun t75 =>
 ct (t75.add 0) fun t77 =>
 nn t0 fun t79 =>
 ag .i64 (t79.add 1) fun t81 =>
 gO t81 (ay (t62 + 1)) fun t83 =>
 held (ct (t75.add 0) fun t77_1 =>
 fun _ => (Value.pointer t77_1) = (Value.pointer t77)) (
 rO C t77 t83 t69a fun t85 =>
 ya C t0 (ay (t62 + 1)) t6 t69a t85 K)) else
 ya C t0 (ay (t62 + 1)) t6 t69a t69b K)
def ow (C : Cx) (t0 : Option Addr) (t50 : Bool) (K : Int → HP) : HP :=
 bif t50 then (
 nn t0 fun t53 =>
 ag .i64 (t53.add 3) fun t55 =>
 oH C t0 (⟨5, 0, 0, t55, 0, 0, 0, 0, 0, 0, 0, (⟨none, 0, 0⟩ : Sl)⟩ : aZ) fun t57 =>
 bif (!decide ((t57 : Int) = 0)) then (
 K t57) else
 w5 C t0 K) else
 w5 C t0 K
def mW (C : Cx) (t0 : Option Addr) (t3 : Option Addr) (t27 : Bool) (K : Int → HP) : HP :=
 bif t27 then (
 K 0) else
 bif (!t3.isNone) then (
 pP t3 fun t32 =>
 bif t32 then (
 nn t3 fun t36 =>
 aB (t36.add 3) fun t38 =>
 nn t3 fun t40 =>
 aB (t40.add 3) fun t42 =>
 aL t38 14 (ay ((t42.len : Nat) - 1)) fun t45 =>
 ag .i64 ((t45.add 2).add 0) fun t48 =>
 ow C t0 (!decide ((t48 : Int) = 5)) K) else
 ow C t0 false K) else
 ow C t0 false K
def sF (C : Cx) (p0 : Option Addr) (K : Int → HP) : HP :=
 kU p0 fun t10 =>
 bif (!t10.isNone) then (
 pP t10 fun t15 =>
 bif t15 then (
 nn t10 fun t19 =>
 ag .i64 (t19.add 1) fun t21 =>
 nn p0 fun t23 =>
 ag .i64 (t23.add 2) fun t25 =>
 mW C p0 t10 (decide ((t21 : Int) < t25)) K) else
 mW C p0 t10 false K) else
 mW C p0 t10 false K
def WR (C : Cx) (xs : List Value) (K : Value → HP) : HP :=
 arity xs 1 <|
 bu (xs.getD 0 undef) fun p0 =>
 sF C p0 (fun r0 => K (.int .i64 r0))
def xK (C : Cx) (t0 : Option Addr) (t3 : Nat) (t4 : Nat) (t6 : Int) (K : fB → Int → HP) : HP :=
 bif (!decide ((t6 : Int) = 0)) then (
 aq (af t4) 0 [.int .i64 0, .int .i64 0, .int .i64 0, .int .i64 0, .int .i64 0, .int .i64 0, .int .i64 0, .int .i64 0, .int .i64 0, .int .i64 0, .int .i64 0, .int .i64 0, .int .i64 0, .slice none 0 0] (
 kF (af t4) fun r4 =>
 K r4 t6)) else
 kU t0 fun t34 =>
 nn t34 fun t36 =>
 ag .i64 (t36.add 0) fun t38 =>
 nn t34 fun t40 =>
 aB (t40.add 3) fun t42 =>
 nn t34 fun t44 =>
 aB (t44.add 3) fun t46 =>
 aL t42 14 (ay ((t46.len : Nat) - 1)) fun t49 =>
 ag .i64 (t49.add 0) fun t51 =>
 bq (af t3) fun t52 =>
 aq (af t4) 0 [.int .i64 t38, .int .i64 t51, .int .i64 t52.Kind, .int .i64 t52.bR, .int .i64 t52.Seq, .int .i64 t52.Next, .int .i64 t52.bW, .int .i64 t52.bV, .int .i64 t52.Time, .int .i64 t52.Flags, .int .i64 t52.Body, .int .i64 t52.bQ, .int .i64 t52.Origin, .slice t52.Data.a t52.Data.len t52.Data.cap] (
 kF (af t4) fun r4_1 =>
 K r4_1 0)
def pF (C : Cx) (t0 : Option Addr) (t3 : Nat) (t4 : Nat) (t20 : Bool) (K : fB → Int → HP) : HP :=
 bif t20 then (
 aq (af t4) 0 [.int .i64 0, .int .i64 0, .int .i64 0, .int .i64 0, .int .i64 0, .int .i64 0, .int .i64 0, .int .i64 0, .int .i64 0, .int .i64 0, .int .i64 0, .int .i64 0, .int .i64 0, .slice none 0 0] (
 kF (af t4) fun r4 =>
 K r4 1)) else
 sF C t0 fun t23 =>
 bif (decide ((t23 : Int) = 0)) then (
 bq (af t3) fun t27 =>
 oH C t0 t27 fun t28 =>
 xK C t0 t3 t4 t28 K) else
 xK C t0 t3 t4 t23 K
def nT (C : Cx) (p0 : Option Addr) (p1 : aZ) (K : fB → Int → HP) : HP :=
 az #[.int .i64 p1.Kind, .int .i64 p1.bR, .int .i64 p1.Seq, .int .i64 p1.Next, .int .i64 p1.bW, .int .i64 p1.bV, .int .i64 p1.Time, .int .i64 p1.Flags, .int .i64 p1.Body, .int .i64 p1.bQ, .int .i64 p1.Origin, .slice p1.Data.a p1.Data.len p1.Data.cap] fun t3 =>
 az #[.int .i64 0, .int .i64 0, .int .i64 0, .int .i64 0, .int .i64 0, .int .i64 0, .int .i64 0, .int .i64 0, .int .i64 0, .int .i64 0, .int .i64 0, .int .i64 0, .int .i64 0, .slice none 0 0] fun t4 =>
 bq (af t3) fun t8 =>
 oE t8 fun t9 =>
 bif (!t9) then (
 pF C p0 t3 t4 true K) else
 bq (af t3) fun t12 =>
 lG t12 fun t13 =>
 bif (!decide ((t13 : Int) = 0)) then (
 pF C p0 t3 t4 true K) else
 jN p0 fun t18 =>
 pF C p0 t3 t4 (decide ((t18 : Int) = 99999999)) K
def acK (C : Cx) (xs : List Value) (K : Value → HP) : HP :=
 arity xs 2 <|
 bu (xs.getD 0 undef) fun p0 =>
 fU (xs.getD 1 undef) fun p1 =>
 nT C p0 p1 (fun r0 r1 => K (.tuple #[r0.v, .int .i64 r1]))
def xk (t3 : Sl) (t5 : Nat) (t11 : Sl) (t12 : Int) (t13 : Int) (t18 : Sl) (t19 : Int) (t20 : Int) (K : Sl → HP) (R1 : List Value → HP) (R2 : List Value → HP) : HP :=
 R2 [.slice t3.a t3.len t3.cap, .int .i64 (ay (t20 + 1))]
def jE (p0 : Option Addr) (K : Sl → HP) : HP :=
 nn p0 fun t9 =>
 aB (t9.add 4) fun t11 =>
 loop (σ := List Value) (fun R1 vs1 =>
 bA (vs1.getD 0 undef) fun t3 =>
 ak .i64 (vs1.getD 1 undef) fun t13 =>
 bif (decide ((t13 : Int) < (t11.len : Nat))) then (
 aL t11 4 t13 fun t15 =>
 fS t15 fun t16 =>
 az #[.int .i64 0, .int .i64 0, .int .i64 0, .slice none 0 0] fun t5 =>
 aq (af t5) 0 [.int .i64 t16.seq, .int .i64 t16.size, .int .i64 t16.broken, .slice t16.l.a t16.l.len t16.l.cap] (
 aB ((af t5).add 3) fun t18 =>
 loop (σ := List Value) (fun R2 vs2 =>
 bA (vs2.getD 0 undef) fun t3_1 =>
 ak .i64 (vs2.getD 1 undef) fun t20 =>
 bif (decide ((t20 : Int) < (t18.len : Nat))) then (
 aL t18 14 t20 fun t22 =>
 qA t22 fun t23 =>
 az #[.int .i64 0, .int .i64 0, .int .i64 0, .int .i64 0, .int .i64 0, .int .i64 0, .int .i64 0, .int .i64 0, .int .i64 0, .int .i64 0, .int .i64 0, .int .i64 0, .int .i64 0, .slice none 0 0] fun t7 =>
 aq (af t7) 0 [.int .i64 t23.At, .int .i64 t23.eL, .int .i64 t23.iw, .int .i64 t23.iz, .int .i64 t23.iJ, .int .i64 t23.iM, .int .i64 t23.ir, .int .i64 t23.iu, .int .i64 t23.iI, .int .i64 t23.iE, .int .i64 t23.iK, .int .i64 t23.iG, .int .i64 t23.iH, .slice t23.cU.a t23.cU.len t23.cU.cap] (
 bq ((af t7).add 2) fun t25 =>
 oE t25 fun t26 =>
 bif t26 then (
 ag .i64 ((af t5).add 0) fun t29 =>
 ag .i64 ((af t7).add 0) fun t31 =>
 bq ((af t7).add 2) fun t33 =>
 az #[.int .i64 t29, .int .i64 t31, .int .i64 t33.Kind, .int .i64 t33.bR, .int .i64 t33.Seq, .int .i64 t33.Next, .int .i64 t33.bW, .int .i64 t33.bV, .int .i64 t33.Time, .int .i64 t33.Flags, .int .i64 t33.Body, .int .i64 t33.bQ, .int .i64 t33.Origin, .slice t33.Data.a t33.Data.len t33.Data.cap] fun t35 =>
 app 14 128 #[.int .i64 0, .int .i64 0, .int .i64 0, .int .i64 0, .int .i64 0, .int .i64 0, .int .i64 0, .int .i64 0, .int .i64 0, .int .i64 0, .int .i64 0, .int .i64 0, .int .i64 0, .slice none 0 0] t3_1 (⟨some (af t35), 1, 1⟩ : Sl) fun t36 =>
 xk t36 t5 t11 (t11.len : Nat) t13 t18 (t18.len : Nat) t20 K R1 R2) else
 xk t3_1 t5 t11 (t11.len : Nat) t13 t18 (t18.len : Nat) t20 K R1 R2)) else
 R1 [.slice t3_1.a t3_1.len t3_1.cap, .int .i64 (ay (t13 + 1))]) [.slice t3.a t3.len t3.cap, .int .i64 0])) else
 K t3) [.slice none 0 0, .int .i64 0]
def N3 (xs : List Value) (K : Value → HP) : HP :=
 arity xs 1 <|
 bu (xs.getD 0 undef) fun p0 =>
 jE p0 (fun r0 => K (.slice r0.a r0.len r0.cap))
def xe (p0 : fB) (p1 : Addr) (K : Bool → HP) : HP :=
 az #[.int .i64 p0.Seq, .int .i64 p0.At, .int .i64 p0.iw, .int .i64 p0.iz, .int .i64 p0.iJ, .int .i64 p0.iM, .int .i64 p0.ir, .int .i64 p0.iu, .int .i64 p0.iI, .int .i64 p0.iE, .int .i64 p0.iK, .int .i64 p0.iG, .int .i64 p0.iH, .slice p0.cU.a p0.cU.len p0.cU.cap] fun t2 =>
 ag .i64 ((af t2).add 0) fun t5 =>
 ag .i64 (p1.add 0) fun t7 =>
 bif (decide ((t5 : Int) = t7)) then (
 ag .i64 ((af t2).add 1) fun t11 =>
 ag .i64 (p1.add 1) fun t13 =>
 K (decide ((t11 : Int) = t13))) else
 K false
def JE (xs : List Value) (K : Value → HP) : HP :=
 arity xs 2 <|
 BA (xs.getD 0 undef) fun p0 =>
 dU (xs.getD 1 undef) fun p1 =>
 xe p0 p1 (fun r0 => K (.bool r0))
def ym (C : Cx) (p0 : Sl) (p1 : FV) (K : Int → HP) : HP :=
 loop (σ := List Value) (fun R1 vs1 =>
 ak .i64 (vs1.getD 0 undef) fun t8 =>
 bif (decide ((t8 : Int) < (p0.len : Nat))) then (
 aL p0 14 t8 fun t14 =>
 kF t14 fun t15 =>
 C.ap p1 [.agg #[.int .i64 t15.Seq, .int .i64 t15.At, .int .i64 t15.iw, .int .i64 t15.iz, .int .i64 t15.iJ, .int .i64 t15.iM, .int .i64 t15.ir, .int .i64 t15.iu, .int .i64 t15.iI, .int .i64 t15.iE, .int .i64 t15.iK, .int .i64 t15.iG, .int .i64 t15.iH, .slice t15.cU.a t15.cU.len t15.cU.cap]] fun t16 =>
 jk t16 fun t16_1 =>
 bif t16_1 then (
 K t8) else
 R1 [.int .i64 (ay (t8 + 1))]) else
 K (-1)) [.int .i64 0]
def ac6 (C : Cx) (xs : List Value) (K : Value → HP) : HP :=
 arity xs 2 <|
 bA (xs.getD 0 undef) fun p0 =>
 j9 (xs.getD 1 undef) fun p1 =>
 ym C p0 p1 (fun r0 => K (.int .i64 r0))
def sx (C : Cx) (p0 : Sl) (p1 : FV) (K : Bool → HP) : HP :=
 ym C p0 p1 fun t7 =>
 K (decide ((0 : Int) ≤ t7))
def VQ (C : Cx) (xs : List Value) (K : Value → HP) : HP :=
 arity xs 2 <|
 bA (xs.getD 0 undef) fun p0 =>
 j9 (xs.getD 1 undef) fun p1 =>
 sx C p0 p1 (fun r0 => K (.bool r0))
def sR (C : Cx) (t4 : Nat) (t8 : Sl) (t55 : Bool) (K : aZ → Int → HP) : HP :=
 bif t55 then (
 aq (af t4) 0 [.int .i64 0, .int .i64 0, .int .i64 0, .int .i64 0, .int .i64 0, .int .i64 0, .int .i64 0, .int .i64 0, .int .i64 0, .int .i64 0, .int .i64 0, .slice none 0 0] (
 bq (af t4) fun r4 =>
 K r4 12)) else
 aL t8 14 0 fun t58 =>
 bq (t58.add 2) fun t60 =>
 aq (af t4) 0 [.int .i64 t60.Kind, .int .i64 t60.bR, .int .i64 t60.Seq, .int .i64 t60.Next, .int .i64 t60.bW, .int .i64 t60.bV, .int .i64 t60.Time, .int .i64 t60.Flags, .int .i64 t60.Body, .int .i64 t60.bQ, .int .i64 t60.Origin, .slice t60.Data.a t60.Data.len t60.Data.cap] (
 bq (af t4) fun r4_2 =>
 K r4_2 0)
def rH (C : Cx) (p0 : Option Addr) (p1 : fB) (K : aZ → Int → HP) : HP :=
 az #[.int .i64 p1.Seq, .int .i64 p1.At, .int .i64 p1.iw, .int .i64 p1.iz, .int .i64 p1.iJ, .int .i64 p1.iM, .int .i64 p1.ir, .int .i64 p1.iu, .int .i64 p1.iI, .int .i64 p1.iE, .int .i64 p1.iK, .int .i64 p1.iG, .int .i64 p1.iH, .slice p1.cU.a p1.cU.len p1.cU.cap] fun t3 =>
 az #[.int .i64 0, .int .i64 0, .int .i64 0, .int .i64 0, .int .i64 0, .int .i64 0, .int .i64 0, .int .i64 0, .int .i64 0, .int .i64 0, .int .i64 0, .slice none 0 0] fun t4 =>
 nn p0 fun t12 =>
 ct (t12.add 0) fun t14 =>
 nn p0 fun t16 =>
 ag .i64 (t16.add 1) fun t18 =>
 ag .i64 ((af t3).add 0) fun t20 =>
 gO t18 t20 fun t21 =>
 held (ct (t12.add 0) fun t14_1 =>
 fun _ => (Value.pointer t14_1) = (Value.pointer t14)) (
 mZ t14 t21 fun t22a t22b =>
 bif (!decide ((t22b : Int) = 0)) then (
 aq (af t4) 0 [.int .i64 0, .int .i64 0, .int .i64 0, .int .i64 0, .int .i64 0, .int .i64 0, .int .i64 0, .int .i64 0, .int .i64 0, .int .i64 0, .int .i64 0, .slice none 0 0] (
 bq (af t4) fun r4 =>
 K r4 t22b)) else
 jE p0 fun t30 =>
 fI C (fun xs K => JE ([] ++ xs ++ [.pointer (some (af t3))]) K) fun t31 =>
 sx C t30 t31 fun t32 =>
 bif (!t32) then (
 aq (af t4) 0 [.int .i64 0, .int .i64 0, .int .i64 0, .int .i64 0, .int .i64 0, .int .i64 0, .int .i64 0, .int .i64 0, .int .i64 0, .int .i64 0, .int .i64 0, .slice none 0 0] (
 bq (af t4) fun r4_1 =>
 K r4_1 7)) else
 ag .i64 ((af t3).add 1) fun t38 =>
 eY t22a 1 (if ((t22a.len : Nat) : Int) < t38 then (t22a.len : Nat) else t38) (t22a.len : Nat) (t22a.cap : Nat) fun t42 =>
 pH C t42 fun t43a t43b =>
 bif (decide (((t43a.len : Nat) : Int) = 0)) then (
 sR C t4 t43a true K) else
 aL t43a 14 0 fun t51 =>
 ag .i64 (t51.add 0) fun t53 =>
 sR C t4 t43a (!decide ((t53 : Int) = 0)) K)
def Te (C : Cx) (xs : List Value) (K : Value → HP) : HP :=
 arity xs 2 <|
 bu (xs.getD 0 undef) fun p0 =>
 BA (xs.getD 1 undef) fun p1 =>
 rH C p0 p1 (fun r0 r1 => K (.tuple #[r0.v, .int .i64 r1]))
def jV (p0 : Option Addr) (K : Int → HP) : HP :=
 nn p0 fun t4 =>
 ag .i64 (t4.add 3) fun t6 =>
 K t6
def V2 (xs : List Value) (K : Value → HP) : HP :=
 arity xs 1 <|
 bu (xs.getD 0 undef) fun p0 =>
 jV p0 (fun r0 => K (.int .i64 r0))
def mP (p0 : Option Addr) (K : Int → HP) : HP :=
 nn p0 fun t7 =>
 aB (t7.add 4) fun t9 =>
 loop (σ := List Value) (fun R1 vs1 =>
 ak .i64 (vs1.getD 0 undef) fun t3 =>
 ak .i64 (vs1.getD 1 undef) fun t11 =>
 bif (decide ((t11 : Int) < (t9.len : Nat))) then (
 aL t9 4 t11 fun t13 =>
 fS t13 fun t14 =>
 az #[.int .i64 0, .int .i64 0, .int .i64 0, .slice none 0 0] fun t5 =>
 aq (af t5) 0 [.int .i64 t14.seq, .int .i64 t14.size, .int .i64 t14.broken, .slice t14.l.a t14.l.len t14.l.cap] (
 ag .i64 ((af t5).add 2) fun t17 =>
 R1 [.int .i64 (ay (t3 + t17)), .int .i64 (ay (t11 + 1))])) else
 K t3) [.int .i64 0, .int .i64 0]
def Rp (xs : List Value) (K : Value → HP) : HP :=
 arity xs 1 <|
 bu (xs.getD 0 undef) fun p0 =>
 mP p0 (fun r0 => K (.int .i64 r0))
def zH (C : Cx) (t2 : Option Addr) (t25 : Bool) (K : Bool → HP) : HP :=
 bif t25 then (
 K false) else
 nT C t2 (⟨3, 0, 0, 0, 0, 3, 0, 0, 0, 0, 0, (⟨none, 0, 0⟩ : Sl)⟩ : aZ) fun t29a t29b =>
 az #[.int .i64 0, .int .i64 0, .int .i64 0, .int .i64 0, .int .i64 0, .int .i64 0, .int .i64 0, .int .i64 0, .int .i64 0, .int .i64 0, .int .i64 0, .int .i64 0, .int .i64 0, .slice none 0 0] fun t4 =>
 aq (af t4) 0 [.int .i64 t29a.Seq, .int .i64 t29a.At, .int .i64 t29a.iw, .int .i64 t29a.iz, .int .i64 t29a.iJ, .int .i64 t29a.iM, .int .i64 t29a.ir, .int .i64 t29a.iu, .int .i64 t29a.iI, .int .i64 t29a.iE, .int .i64 t29a.iK, .int .i64 t29a.iG, .int .i64 t29a.iH, .slice t29a.cU.a t29a.cU.len t29a.cU.cap] (
 kF (af t4) fun t34 =>
 rH C t2 t34 fun t35a t35b =>
 az #[.int .i64 0, .int .i64 0, .int .i64 0, .int .i64 0, .int .i64 0, .int .i64 0, .int .i64 0, .int .i64 0, .int .i64 0, .int .i64 0, .int .i64 0, .slice none 0 0] fun t6 =>
 aq (af t6) 0 [.int .i64 t35a.Kind, .int .i64 t35a.bR, .int .i64 t35a.Seq, .int .i64 t35a.Next, .int .i64 t35a.bW, .int .i64 t35a.bV, .int .i64 t35a.Time, .int .i64 t35a.Flags, .int .i64 t35a.Body, .int .i64 t35a.bQ, .int .i64 t35a.Origin, .slice t35a.Data.a t35a.Data.len t35a.Data.cap] (
 bif (decide ((t29b : Int) = 0)) then (
 bif (decide ((t35b : Int) = 0)) then (
 ag .i64 ((af t6).add 5) fun t46 =>
 bif (decide ((t46 : Int) = 3)) then (
 ag .i64 ((af t4).add 0) fun t51 =>
 bif (decide ((t51 : Int) = 1)) then (
 ag .i64 ((af t4).add 1) fun t56 =>
 bif (decide ((0 : Int) < t56)) then (
 jV t2 fun t61 =>
 bif (decide ((t61 : Int) = 4)) then (
 jE t2 fun t66 =>
 bif (decide (((t66.len : Nat) : Int) = 1)) then (
 jN t2 fun t72 =>
 bif (decide ((t72 : Int) = 1)) then (
 mP t2 fun t77 =>
 K (decide ((t77 : Int) = 0))) else
 K false) else
 K false) else
 K false) else
 K false) else
 K false) else
 K false) else
 K false) else
 K false))
def DP (C : Cx) (t1 : Option Addr) (t14 : Bool) (K : Bool → HP) : HP :=
 bif t14 then (
 K false) else
 j7 C t1 7 100 fun t17a t17b =>
 bif t17a.isNone then (
 zH C t17a true K) else
 zH C t17a (!decide ((t17b : Int) = 0)) K
def nM (C : Cx) (K : Bool → HP) : HP :=
 mL (⟨none, 0, 0⟩ : Sl) 1000 fun t8 =>
 bif t8.isNone then (
 DP C t8 true K) else
 gO 7 1 fun t12 =>
 DP C t8 (!decide (t12 = (⟨#[99, 48, 48, 55, 45, 48, 48, 48, 48, 48, 48, 48, 49]⟩ : ByteArray))) K
def WU (C : Cx) (xs : List Value) (K : Value → HP) : HP :=
 arity xs 0 <|
 nM C (fun r0 => K (.bool r0))
def Jb (t0 : Sl) (t1 : Int) (t5 : Int) (t6 : Int) (t15 : Bool) (K : Int → HP) (R1 : List Value → HP) : HP :=
 bif t15 then (
 aL t0 2 t6 fun t22 =>
 aB (t22.add 1) fun t24 =>
 R1 [.int .i64 (ay ((ay (t5 + 1)) + (if (ay (t1 + 1) : Int) < (t24.len : Nat) then (ay (t1 + 1)) else (t24.len : Nat)))), .int .i64 (ay (t6 + 1))]) else
 K t5
def zQ (p0 : Sl) (p1 : Int) (K : Int → HP) : HP :=
 loop (σ := List Value) (fun R1 vs1 =>
 ak .i64 (vs1.getD 0 undef) fun t5 =>
 ak .i64 (vs1.getD 1 undef) fun t6 =>
 bif (decide ((t6 : Int) < (p0.len : Nat))) then (
 Jb p0 p1 t5 t6 (decide ((t5 : Int) ≤ p1)) K R1) else
 Jb p0 p1 t5 t6 false K R1) [.int .i64 0, .int .i64 0]
def Rl (xs : List Value) (K : Value → HP) : HP :=
 arity xs 2 <|
 bA (xs.getD 0 undef) fun p0 =>
 ak .i64 (xs.getD 1 undef) fun p1 =>
 zQ p0 p1 (fun r0 => K (.int .i64 r0))
def qJ (p0 : Int) (p1 : Int) (K : ByteArray → HP) : HP :=
 loop (σ := List Value) (fun R1 vs1 =>
 ak .i64 (vs1.getD 0 undef) fun t0 =>
 bX (vs1.getD 1 undef) fun t5 =>
 ak .i64 (vs1.getD 2 undef) fun t6 =>
 bif (decide ((t6 : Int) < p1)) then (
 nz 10 (
 az #[.int .u8 (wr .u8 (ay (48 + (Int.tmod t0 10))))] fun t16 =>
 ef (⟨some (af t16), 1, 1⟩ : Sl) fun t17 =>
 cat t17 t5 fun t19 =>
 nz 10 (
 R1 [.int .i64 (ay (Int.tdiv t0 10)), .string t19, .int .i64 (ay (t6 + 1))]))) else
 K t5) [.int .i64 p0, .string (⟨#[]⟩ : ByteArray), .int .i64 0]
def TT (xs : List Value) (K : Value → HP) : HP :=
 arity xs 2 <|
 ak .i64 (xs.getD 0 undef) fun p0 =>
 ak .i64 (xs.getD 1 undef) fun p1 =>
 qJ p0 p1 (fun r0 => K (.string r0))
def yG (t0 : Int) (t1 : Int) (t18 : Bool) (K : ByteArray → HP) : HP :=
 bif t18 then (
 K (⟨#[]⟩ : ByteArray)) else
 qJ t0 3 fun t20 =>
 cat (⟨#[99]⟩ : ByteArray) t20 fun t21 =>
 cat t21 (⟨#[45]⟩ : ByteArray) fun t22 =>
 qJ t1 8 fun t24 =>
 cat t22 t24 fun t25 =>
 K t25
def sE (p0 : Int) (p1 : Int) (K : ByteArray → HP) : HP :=
 bif (decide ((p0 : Int) < 1)) then (
 yG p0 p1 true K) else
 bif (decide ((999 : Int) < p0)) then (
 yG p0 p1 true K) else
 bif (decide ((p1 : Int) < 1)) then (
 yG p0 p1 true K) else
 yG p0 p1 (decide ((99999999 : Int) < p1)) K
def Z9 (xs : List Value) (K : Value → HP) : HP :=
 arity xs 2 <|
 ak .i64 (xs.getD 0 undef) fun p0 =>
 ak .i64 (xs.getD 1 undef) fun p1 =>
 sE p0 p1 (fun r0 => K (.string r0))
def iy (t0 : ByteArray) (t3 : Int) (t45 : Bool) (K : Bool → HP) (R1 : List Value → HP) : HP :=
 bif t45 then (
 K false) else
 R1 [.int .i64 (ay (t3 + 1))]
def E0 (t0 : ByteArray) (t12 : Bool) (K : Bool → HP) : HP :=
 bif t12 then (
 K false) else
 loop (σ := List Value) (fun R1 vs1 =>
 ak .i64 (vs1.getD 0 undef) fun t3 =>
 bif (decide ((t3 : Int) < (t0.size : Nat))) then (
 nR t0 t3 fun t21 =>
 bif (decide ((97 : Int) ≤ t21)) then (
 bif (!(decide ((t21 : Int) ≤ 122))) then (
 bif (decide ((48 : Int) ≤ t21)) then (
 bif (!(decide ((t21 : Int) ≤ 57))) then (
 bif (!decide ((t21 : Int) = 46)) then (
 iy t0 t3 (!decide ((t21 : Int) = 45)) K R1) else
 iy t0 t3 false K R1) else
 iy t0 t3 false K R1) else
 bif (!false) then (
 bif (!decide ((t21 : Int) = 46)) then (
 iy t0 t3 (!decide ((t21 : Int) = 45)) K R1) else
 iy t0 t3 false K R1) else
 iy t0 t3 false K R1) else
 iy t0 t3 false K R1) else
 bif (!false) then (
 bif (decide ((48 : Int) ≤ t21)) then (
 bif (!(decide ((t21 : Int) ≤ 57))) then (
 bif (!decide ((t21 : Int) = 46)) then (
 iy t0 t3 (!decide ((t21 : Int) = 45)) K R1) else
 iy t0 t3 false K R1) else
 iy t0 t3 false K R1) else
 bif (!false) then (
 bif (!decide ((t21 : Int) = 46)) then (
 iy t0 t3 (!decide ((t21 : Int) = 45)) K R1) else
 iy t0 t3 false K R1) else
 iy t0 t3 false K R1) else
 iy t0 t3 false K R1) else
 K true) [.int .i64 0]
def Co (p0 : ByteArray) (K : Bool → HP) : HP :=
 bif (decide (((p0.size : Nat) : Int) < 1)) then (
 E0 p0 true K) else
 E0 p0 (decide ((32 : Int) < (p0.size : Nat))) K
def W6 (xs : List Value) (K : Value → HP) : HP :=
 arity xs 1 <|
 bX (xs.getD 0 undef) fun p0 =>
 Co p0 (fun r0 => K (.bool r0))
def nI (p0 : Sl) (p1 : ByteArray) (K : Int → HP) : HP :=
 loop (σ := List Value) (fun R1 vs1 =>
 ak .i64 (vs1.getD 0 undef) fun t5 =>
 bif (decide ((t5 : Int) < (p0.len : Nat))) then (
 aL p0 2 t5 fun t14 =>
 bE (t14.add 0) fun t16 =>
 bif (decide (t16 = p1)) then (
 aL p0 2 t5 fun t21 =>
 ag .i64 (t21.add 1) fun t23 =>
 K t23) else
 R1 [.int .i64 (ay (t5 + 1))]) else
 K (-1)) [.int .i64 0]
def OW (xs : List Value) (K : Value → HP) : HP :=
 arity xs 2 <|
 bA (xs.getD 0 undef) fun p0 =>
 bX (xs.getD 1 undef) fun p1 =>
 nI p0 p1 (fun r0 => K (.int .i64 r0))
def KG (t0 : Sl) (t1 : ByteArray) (t5 : Sl) (t6 : Int) (K : Sl → HP) (R1 : List Value → HP) : HP :=
 R1 [.slice t5.a t5.len t5.cap, .int .i64 (ay (t6 + 1))]
def xS (p0 : Sl) (p1 : ByteArray) (K : Sl → HP) : HP :=
 loop (σ := List Value) (fun R1 vs1 =>
 bA (vs1.getD 0 undef) fun t5 =>
 ak .i64 (vs1.getD 1 undef) fun t6 =>
 bif (decide ((t6 : Int) < (p0.len : Nat))) then (
 aL p0 2 t6 fun t15 =>
 bE (t15.add 0) fun t17 =>
 bif (!decide (t17 = p1)) then (
 aL p0 2 t6 fun t23 =>
 MG t23 fun t24 =>
 az #[.string t24.Name, .int .i64 t24.aO] fun t25 =>
 app 2 24 #[.string (⟨#[]⟩ : ByteArray), .int .i64 0] t5 (⟨some (af t25), 1, 1⟩ : Sl) fun t26 =>
 KG p0 p1 t26 t6 K R1) else
 KG p0 p1 t5 t6 K R1) else
 K t5) [.slice none 0 0, .int .i64 0]
def YI (xs : List Value) (K : Value → HP) : HP :=
 arity xs 2 <|
 bA (xs.getD 0 undef) fun p0 =>
 bX (xs.getD 1 undef) fun p1 =>
 xS p0 p1 (fun r0 => K (.slice r0.a r0.len r0.cap))
def Fv (t0 : Sl) (t3 : Nat) (t5 : Int) (t25 : Bool) (K : Sl → HP) (R1 : List Value → HP) : HP :=
 bif t25 then (
 R1 [.int .i64 (ay (t5 - 1))]) else
 eY t0 2 0 t5 (t0.cap : Nat) fun t31 =>
 app 2 24 #[.string (⟨#[]⟩ : ByteArray), .int .i64 0] (⟨none, 0, 0⟩ : Sl) t31 fun t32 =>
 MG (af t3) fun t34 =>
 az #[.string t34.Name, .int .i64 t34.aO] fun t35 =>
 app 2 24 #[.string (⟨#[]⟩ : ByteArray), .int .i64 0] t32 (⟨some (af t35), 1, 1⟩ : Sl) fun t36 =>
 eY t0 2 t5 (t0.len : Nat) (t0.cap : Nat) fun t40 =>
 app 2 24 #[.string (⟨#[]⟩ : ByteArray), .int .i64 0] t36 t40 fun t41 =>
 K t41
def wV (p0 : Sl) (p1 : jR) (K : Sl → HP) : HP :=
 az #[.string p1.Name, .int .i64 p1.aO] fun t3 =>
 bE ((af t3).add 0) fun t9 =>
 xS p0 t9 fun t10 =>
 loop (σ := List Value) (fun R1 vs1 =>
 ak .i64 (vs1.getD 0 undef) fun t5 =>
 bif (decide ((0 : Int) < t5)) then (
 aL t10 2 (ay (t5 - 1)) fun t19 =>
 bE (t19.add 0) fun t21 =>
 bE ((af t3).add 0) fun t23 =>
 Fv t10 t3 t5 (!(slt t21 t23 || decide (t21 = t23))) K R1) else
 Fv t10 t3 t5 false K R1) [.int .i64 (t10.len : Nat)]
def aaK (xs : List Value) (K : Value → HP) : HP :=
 arity xs 2 <|
 bA (xs.getD 0 undef) fun p0 =>
 KP (xs.getD 1 undef) fun p1 =>
 wV p0 p1 (fun r0 => K (.slice r0.a r0.len r0.cap))
def Dz (t0 : Sl) (t1 : Int) (t5 : Nat) (t6 : Int) (t7 : Int) (t8 : Nat) (t55 : Bool) (K : Option Addr → HP) (R1 : List Value → HP) : HP :=
 bif t55 then (
 K none) else
 aB ((af t8).add 1) fun t58 =>
 nn (some (af t5)) fun t63 =>
 aB (t63.add 0) fun t65 =>
 aB ((af t8).add 1) fun t67 =>
 ef t67 fun t68 =>
 aB ((af t8).add 1) fun t70 =>
 ef t70 fun t71 =>
 az #[.string t68, .string t71, .slice none 0 0] fun t73 =>
 held (aB (t63.add 0) fun t65_1 =>
 fun _ => (Value.slice t65_1.a t65_1.len t65_1.cap) = (Value.slice t65.a t65.len t65.cap)) (
 app 3 56 #[.string (⟨#[]⟩ : ByteArray), .string (⟨#[]⟩ : ByteArray), .slice none 0 0] t65 (⟨some (af t73), 1, 1⟩ : Sl) fun t74 =>
 nn (some (af t5)) fun t75 =>
 aq (t75.add 0) 0 [.slice t74.a t74.len t74.cap] (
 nn (some (af t5)) fun t79 =>
 aB (t79.add 1) fun t81 =>
 bE ((af t8).add 0) fun t83 =>
 wV t81 (⟨t83, t7⟩ : jR) fun t86 =>
 nn (some (af t5)) fun t87 =>
 aq (t87.add 1) 0 [.slice t86.a t86.len t86.cap] (
 R1 [.int .i64 (ay (t6 + (t58.len : Nat))), .int .i64 (ay (t7 + 1))])))
def Cn (t0 : Sl) (t1 : Int) (t19 : Bool) (K : Option Addr → HP) : HP :=
 bif t19 then (
 K none) else
 az #[.slice none 0 0, .slice none 0 0, .slice none 0 0, .slice none 0 0, .int .i64 t1, .bool false, .int .i64 0, .int .i64 (-1), .int .i64 (-1), .int .i64 0] fun t22 =>
 loop (σ := List Value) (fun R1 vs1 =>
 ak .i64 (vs1.getD 0 undef) fun t6 =>
 ak .i64 (vs1.getD 1 undef) fun t7 =>
 bif (decide ((t7 : Int) < (t0.len : Nat))) then (
 aL t0 2 t7 fun t31 =>
 C9 t31 fun t32 =>
 az #[.string (⟨#[]⟩ : ByteArray), .slice none 0 0] fun t8 =>
 aq (af t8) 0 [.string t32.Name, .slice t32.Data.a t32.Data.len t32.Data.cap] (
 bE ((af t8).add 0) fun t34 =>
 Co t34 fun t35 =>
 bif (!t35) then (
 Dz t0 t1 t22 t6 t7 t8 true K R1) else
 nn (some (af t22)) fun t39 =>
 aB (t39.add 1) fun t41 =>
 bE ((af t8).add 0) fun t43 =>
 nI t41 t43 fun t44 =>
 bif (decide ((0 : Int) ≤ t44)) then (
 Dz t0 t1 t22 t6 t7 t8 true K R1) else
 aB ((af t8).add 1) fun t49 =>
 Dz t0 t1 t22 t6 t7 t8 (decide ((ay (t1 - t6) : Int) < (t49.len : Nat))) K R1)) else
 nn (some (af t22)) fun t91 =>
 aB (t91.add 1) fun t93 =>
 nn (some (af t22)) fun t94 =>
 aq (t94.add 2) 0 [.slice t93.a t93.len t93.cap] (
 K (some (af t22)))) [.int .i64 0, .int .i64 0]
def By (p0 : Sl) (p1 : Int) (K : Option Addr → HP) : HP :=
 bif (decide ((p1 : Int) < 1)) then (
 Cn p0 p1 true K) else
 bif (decide ((4194304 : Int) < p1)) then (
 Cn p0 p1 true K) else
 Cn p0 p1 (decide ((1024 : Int) < (p0.len : Nat))) K
def Yy (xs : List Value) (K : Value → HP) : HP :=
 arity xs 2 <|
 bA (xs.getD 0 undef) fun p0 =>
 ak .i64 (xs.getD 1 undef) fun p1 =>
 By p0 p1 (fun r0 => K (.pointer r0))
def Kz (t0 : Option Addr) (t3 : Bool) (t4 : Bool) (K : Int → HP) : HP :=
 bif t3 then (
 nn t0 fun t55 =>
 aq (t55.add 5) 0 [.bool true] (
 K 11)) else
 bif t4 then (
 nn t0 fun t59 =>
 ag .i64 (t59.add 9) fun t61 =>
 K t61) else
 K 0
def Mq (t0 : Option Addr) (t3 : Bool) (t4 : Bool) (K : Int → HP) : HP :=
 nn t0 fun t41 =>
 ag .i64 (t41.add 7) fun t43 =>
 bif (decide ((0 : Int) ≤ t43)) then (
 nn t0 fun t47 =>
 ag .i64 (t47.add 7) fun t49 =>
 nn t0 fun t51 =>
 aq (t51.add 7) 0 [.int .i64 (ay (t49 - 1))] (
 Kz t0 t3 t4 K)) else
 Kz t0 t3 t4 K
def yB (p0 : Option Addr) (K : Int → HP) : HP :=
 nn p0 fun t6 =>
 fX (t6.add 5) fun t8 =>
 bif t8 then (
 K 11) else
 nn p0 fun t11 =>
 ag .i64 (t11.add 6) fun t13 =>
 nn p0 fun t15 =>
 aq (t15.add 6) 0 [.int .i64 (ay (t13 + 1))] (
 nn p0 fun t18 =>
 ag .i64 (t18.add 8) fun t20 =>
 nn p0 fun t23 =>
 ag .i64 (t23.add 7) fun t25 =>
 nn p0 fun t28 =>
 ag .i64 (t28.add 8) fun t30 =>
 bif (decide ((0 : Int) ≤ t30)) then (
 nn p0 fun t34 =>
 ag .i64 (t34.add 8) fun t36 =>
 nn p0 fun t38 =>
 aq (t38.add 8) 0 [.int .i64 (ay (t36 - 1))] (
 Mq p0 (decide ((t20 : Int) = 0)) (decide ((t25 : Int) = 0)) K)) else
 Mq p0 (decide ((t20 : Int) = 0)) (decide ((t25 : Int) = 0)) K)
def U8 (xs : List Value) (K : Value → HP) : HP :=
 arity xs 1 <|
 bu (xs.getD 0 undef) fun p0 =>
 yB p0 (fun r0 => K (.int .i64 r0))
def yu (p0 : Option Addr) (p1 : ByteArray) (K : Int → HP) : HP :=
 nn p0 fun t6 =>
 aB (t6.add 1) fun t8 =>
 nI t8 p1 fun t10 =>
 K t10
def Z5 (xs : List Value) (K : Value → HP) : HP :=
 arity xs 2 <|
 bu (xs.getD 0 undef) fun p0 =>
 bX (xs.getD 1 undef) fun p1 =>
 yu p0 p1 (fun r0 => K (.int .i64 r0))
def J0 (t0 : Sl) (t3 : Nat) (t5 : Int) (K : Sl → HP) : HP :=
 bE ((af t3).add 1) fun t22 =>
 bif (decide (t22 = (⟨#[]⟩ : ByteArray))) then (
 K t0) else
 bE ((af t3).add 1) fun t27 =>
 wV t0 (⟨t27, t5⟩ : jR) fun t30 =>
 K t30
def Cy (p0 : Sl) (p1 : jf) (K : Sl → HP) : HP :=
 az #[.string p1.cV, .string p1.To, .int .i64 p1.aO] fun t3 =>
 ag .i64 ((af t3).add 2) fun t7 =>
 bif (decide ((t7 : Int) < 0)) then (
 bE ((af t3).add 0) fun t12 =>
 nI p0 t12 fun t13 =>
 bif (decide ((t13 : Int) < 0)) then (
 K p0) else
 bE ((af t3).add 0) fun t19 =>
 xS p0 t19 fun t20 =>
 J0 t20 t3 t13 K) else
 J0 p0 t3 t7 K
def Tx (xs : List Value) (K : Value → HP) : HP :=
 arity xs 2 <|
 bA (xs.getD 0 undef) fun p0 =>
 CT (xs.getD 1 undef) fun p1 =>
 Cy p0 p1 (fun r0 => K (.slice r0.a r0.len r0.cap))
def AD (p0 : Option Addr) (p1 : jf) (K : HP) : HP :=
 az #[.string p1.cV, .string p1.To, .int .i64 p1.aO] fun t3 =>
 nn p0 fun t7 =>
 aB (t7.add 3) fun t9 =>
 app 3 40 #[.string (⟨#[]⟩ : ByteArray), .string (⟨#[]⟩ : ByteArray), .int .i64 0] (⟨none, 0, 0⟩ : Sl) t9 fun t10 =>
 EW (af t3) fun t13 =>
 az #[.string t13.cV, .string t13.To, .int .i64 t13.aO] fun t14 =>
 app 3 40 #[.string (⟨#[]⟩ : ByteArray), .string (⟨#[]⟩ : ByteArray), .int .i64 0] t10 (⟨some (af t14), 1, 1⟩ : Sl) fun t15 =>
 nn p0 fun t16 =>
 aq (t16.add 3) 0 [.slice t15.a t15.len t15.cap] (
 nn p0 fun t20 =>
 aB (t20.add 1) fun t22 =>
 EW (af t3) fun t23 =>
 Cy t22 t23 fun t24 =>
 nn p0 fun t25 =>
 aq (t25.add 1) 0 [.slice t24.a t24.len t24.cap] (
 K))
def Oo (xs : List Value) (K : Value → HP) : HP :=
 arity xs 2 <|
 bu (xs.getD 0 undef) fun p0 =>
 CT (xs.getD 1 undef) fun p1 =>
 AD p0 p1 (K (.tuple #[]))
def xm (p0 : Option Addr) (p1 : ByteArray) (K : Int → HP) : HP :=
 yB p0 fun t7 =>
 bif (!decide ((t7 : Int) = 0)) then (
 K t7) else
 yu p0 p1 fun t13 =>
 bif (decide ((t13 : Int) < 0)) then (
 K 7) else
 AD p0 (⟨p1, (⟨#[]⟩ : ByteArray), (-1)⟩ : jf) (
 K 0)
def Zr (xs : List Value) (K : Value → HP) : HP :=
 arity xs 2 <|
 bu (xs.getD 0 undef) fun p0 =>
 bX (xs.getD 1 undef) fun p1 =>
 xm p0 p1 (fun r0 => K (.int .i64 r0))
def Hl (t0 : Option Addr) (t1 : ByteArray) (t5 : Sl) (t6 : Int) (K : Int → HP) (R1 : List Value → HP) : HP :=
 R1 [.slice t5.a t5.len t5.cap, .int .i64 (ay (t6 + 1))]
def uG (t0 : Option Addr) (t1 : ByteArray) (t5 : Sl) (t6 : Int) (t7 : ByteArray) (t56 : Bool) (K : Int → HP) (R1 : List Value → HP) : HP :=
 bif t56 then (
 az #[.string t7] fun t59 =>
 app 1 16 #[.string (⟨#[]⟩ : ByteArray)] t5 (⟨some (af t59), 1, 1⟩ : Sl) fun t60 =>
 Hl t0 t1 t60 t6 K R1) else
 Hl t0 t1 t5 t6 K R1
def BG (p0 : Option Addr) (p1 : ByteArray) (K : Int → HP) : HP :=
 nn p0 fun t12 =>
 fX (t12.add 5) fun t14 =>
 bif t14 then (
 K 0) else
 loop (σ := List Value) (fun R1 vs1 =>
 bA (vs1.getD 0 undef) fun t5 =>
 ak .i64 (vs1.getD 1 undef) fun t6 =>
 nn p0 fun t17 =>
 aB (t17.add 1) fun t19 =>
 bif (decide ((t6 : Int) < (t19.len : Nat))) then (
 nn p0 fun t25 =>
 aB (t25.add 1) fun t27 =>
 aL t27 2 t6 fun t29 =>
 bE (t29.add 0) fun t31 =>
 bif (decide (((p1.size : Nat) : Int) ≤ (t31.size : Nat))) then (
 lz t31 0 (p1.size : Nat) fun t42 =>
 bif (decide (t42 = p1)) then (
 bif (decide ((2 : Int) ≤ (t31.size : Nat))) then (
 lz t31 (ay ((t31.size : Nat) - 2)) (t31.size : Nat) fun t54 =>
 uG p0 p1 t5 t6 t31 (decide (t54 = (⟨#[46, 110]⟩ : ByteArray))) K R1) else
 uG p0 p1 t5 t6 t31 false K R1) else
 uG p0 p1 t5 t6 t31 false K R1) else
 uG p0 p1 t5 t6 t31 false K R1) else
 loop (σ := List Value) (fun R2 vs2 =>
 ak .i64 (vs2.getD 0 undef) fun t9 =>
 bif (decide ((t9 : Int) < (t5.len : Nat))) then (
 aL t5 1 t9 fun t70 =>
 bE t70 fun t71 =>
 xm p0 t71 fun t72 =>
 bif (!decide ((t72 : Int) = 0)) then (
 K t72) else
 R2 [.int .i64 (ay (t9 + 1))]) else
 K 0) [.int .i64 0]) [.slice none 0 0, .int .i64 0]
def Qt (xs : List Value) (K : Value → HP) : HP :=
 arity xs 2 <|
 bu (xs.getD 0 undef) fun p0 =>
 bX (xs.getD 1 undef) fun p1 =>
 BG p0 p1 (fun r0 => K (.int .i64 r0))
def Az (t1 : ByteArray) (t6 : Int) (t7 : Int) (t41 : Bool) (K : Int → HP) (R1 : List Value → HP) : HP :=
 bif t41 then (
 K 0) else
 nR t1 t7 fun t46 =>
 R1 [.int .i64 (ay ((ay ((ay (10 * t6)) + (ay t46))) - 48)), .int .i64 (ay (t7 + 1))]
def EA (t1 : ByteArray) (t20 : Bool) (K : Int → HP) : HP :=
 bif t20 then (
 K (-1)) else
 loop (σ := List Value) (fun R1 vs1 =>
 ak .i64 (vs1.getD 0 undef) fun t6 =>
 ak .i64 (vs1.getD 1 undef) fun t7 =>
 bif (decide ((t7 : Int) < (t1.size : Nat))) then (
 nR t1 t7 fun t29 =>
 bif (decide ((t29 : Int) < 48)) then (
 Az t1 t6 t7 true K R1) else
 nR t1 t7 fun t34 =>
 bif (decide ((57 : Int) < t34)) then (
 Az t1 t6 t7 true K R1) else
 Az t1 t6 t7 (!decide (((t1.size : Nat) : Int) = 13)) K R1) else
 K t6) [.int .i64 0, .int .i64 5]
def A8 (p0 : Int) (p1 : ByteArray) (K : Int → HP) : HP :=
 qJ p0 3 fun t9 =>
 cat (⟨#[99]⟩ : ByteArray) t9 fun t10 =>
 cat t10 (⟨#[45]⟩ : ByteArray) fun t11 =>
 bif (decide (((p1.size : Nat) : Int) < 5)) then (
 EA p1 true K) else
 lz p1 0 5 fun t17 =>
 EA p1 (!decide (t17 = t11)) K
def agw (xs : List Value) (K : Value → HP) : HP :=
 arity xs 2 <|
 ak .i64 (xs.getD 0 undef) fun p0 =>
 bX (xs.getD 1 undef) fun p1 =>
 A8 p0 p1 (fun r0 => K (.int .i64 r0))
def rI (t0 : Sl) (t1 : Int) (t2 : Int) (t33 : Bool) (K : Int → Bool → HP) : HP :=
 bif t33 then (
 K 0 false) else
 loop (σ := List Value) (fun R1 vs1 =>
 ak .u64 (vs1.getD 0 undef) fun t8 =>
 ak .i64 (vs1.getD 1 undef) fun t9 =>
 bif (decide ((t9 : Int) < t2)) then (
 aL t0 1 (ay (t1 + t9)) fun t45 =>
 ag .u8 t45 fun t46 =>
 R1 [.int .u64 (wr .u64 ((wr .u64 (256 * t8)) + (wr .u64 t46))), .int .i64 (ay (t9 + 1))]) else
 K t8 true) [.int .u64 0, .int .i64 0]
def vr (p0 : Sl) (p1 : Int) (p2 : Int) (K : Int → Bool → HP) : HP :=
 bif (decide ((p2 : Int) < 1)) then (
 rI p0 p1 p2 true K) else
 bif (decide ((8 : Int) < p2)) then (
 rI p0 p1 p2 true K) else
 bif (decide ((p1 : Int) < 0)) then (
 rI p0 p1 p2 true K) else
 bif (decide (((p0.len : Nat) : Int) < p1)) then (
 rI p0 p1 p2 true K) else
 rI p0 p1 p2 (decide ((ay ((p0.len : Nat) - p1) : Int) < p2)) K
def Q7 (xs : List Value) (K : Value → HP) : HP :=
 arity xs 3 <|
 bA (xs.getD 0 undef) fun p0 =>
 ak .i64 (xs.getD 1 undef) fun p1 =>
 ak .i64 (xs.getD 2 undef) fun p2 =>
 vr p0 p1 p2 (fun r0 r1 => K (.tuple #[.int .u64 r0, .bool r1]))
def Da (p0 : Sl) (p1 : Int) (K : uH → HP) : HP :=
 az #[.int .u8 0, .int .i64 0, .int .i64 0] fun t4 =>
 bif (decide (((p0.len : Nat) : Int) ≤ p1)) then (
 aq (af t4) 0 [.int .u8 0, .int .i64 0, .int .i64 2] (
 nj (af t4) fun r4 =>
 K r4)) else
 aL p0 1 p1 fun t12 =>
 ag .u8 t12 fun t13 =>
 bif (decide ((t13 : Int) = 80)) then (
 aq (af t4) 0 [.int .u8 0, .int .i64 0, .int .i64 3] (
 nj (af t4) fun r4_1 =>
 K r4_1)) else
 aL p0 1 p1 fun t18 =>
 ag .u8 t18 fun t19 =>
 bif (!decide ((t19 : Int) = 81)) then (
 aL p0 1 p1 fun t23 =>
 ag .u8 t23 fun t24 =>
 aq (af t4) 0 [.int .u8 t24, .int .i64 (ay (p1 + 1)), .int .i64 0] (
 nj (af t4) fun r4_2 =>
 K r4_2)) else
 bif (decide (((p0.len : Nat) : Int) ≤ (ay (p1 + 1)))) then (
 aq (af t4) 0 [.int .u8 0, .int .i64 0, .int .i64 2] (
 nj (af t4) fun r4_3 =>
 K r4_3)) else
 aL p0 1 (ay (p1 + 1)) fun t37 =>
 ag .u8 t37 fun t38 =>
 bif (decide ((t38 : Int) = 0)) then (
 aq (af t4) 0 [.int .u8 80, .int .i64 (ay (p1 + 2)), .int .i64 0] (
 nj (af t4) fun r4_4 =>
 K r4_4)) else
 aL p0 1 (ay (p1 + 1)) fun t46 =>
 ag .u8 t46 fun t47 =>
 bif (decide ((t47 : Int) = 1)) then (
 aq (af t4) 0 [.int .u8 81, .int .i64 (ay (p1 + 2)), .int .i64 0] (
 nj (af t4) fun r4_5 =>
 K r4_5)) else
 aq (af t4) 0 [.int .u8 0, .int .i64 0, .int .i64 3] (
 nj (af t4) fun r4_6 =>
 K r4_6)
def afy (xs : List Value) (K : Value → HP) : HP :=
 arity xs 2 <|
 bA (xs.getD 0 undef) fun p0 =>
 ak .i64 (xs.getD 1 undef) fun p1 =>
 Da p0 p1 (fun r0 => K (r0.v))
def De (p0 : Int) (p1 : Int) (K : Bool → HP) : HP :=
 loop (σ := List Value) (fun R1 vs1 =>
 ak .u64 (vs1.getD 0 undef) fun t0 =>
 ak .i64 (vs1.getD 1 undef) fun t5 =>
 bif (decide ((t5 : Int) < p1)) then (
 nz 256 (
 R1 [.int .u64 (wr .u64 (Int.tdiv t0 256)), .int .i64 (ay (t5 + 1))])) else
 K (decide ((t0 : Int) = 0))) [.int .u64 p0, .int .i64 0]
def acR (xs : List Value) (K : Value → HP) : HP :=
 arity xs 2 <|
 ak .u64 (xs.getD 0 undef) fun p0 =>
 ak .i64 (xs.getD 1 undef) fun p1 =>
 De p0 p1 (fun r0 => K (.bool r0))
def Ct (t0 : Int) (t1 : Int) (t19 : Bool) (K : Sl → Bool → HP) : HP :=
 bif t19 then (
 K (⟨none, 0, 0⟩ : Sl) false) else
 loop (σ := List Value) (fun R1 vs1 =>
 ak .u64 (vs1.getD 0 undef) fun t0 =>
 bA (vs1.getD 1 undef) fun t6 =>
 ak .i64 (vs1.getD 2 undef) fun t7 =>
 bif (decide ((t7 : Int) < t1)) then (
 nz 256 (
 az #[.int .u8 (wr .u8 (Int.tmod t0 256))] fun t28 =>
 app 1 1 #[.int .u8 0] (⟨some (af t28), 1, 1⟩ : Sl) t6 fun t30 =>
 nz 256 (
 R1 [.int .u64 (wr .u64 (Int.tdiv t0 256)), .slice t30.a t30.len t30.cap, .int .i64 (ay (t7 + 1))]))) else
 K t6 true) [.int .u64 t0, .slice none 0 0, .int .i64 0]
def Bq (p0 : Int) (p1 : Int) (K : Sl → Bool → HP) : HP :=
 bif (decide ((p1 : Int) < 1)) then (
 Ct p0 p1 true K) else
 bif (decide ((8 : Int) < p1)) then (
 Ct p0 p1 true K) else
 De p0 p1 fun t17 =>
 Ct p0 p1 (!t17) K
def Tt (xs : List Value) (K : Value → HP) : HP :=
 arity xs 2 <|
 ak .u64 (xs.getD 0 undef) fun p0 =>
 ak .i64 (xs.getD 1 undef) fun p1 =>
 Bq p0 p1 (fun r0 r1 => K (.tuple #[.slice r0.a r0.len r0.cap, .bool r1]))
def oK (p0 : Int) (p1 : Int) (K : ByteArray → HP) : HP :=
 Bq p0 p1 fun t10a t10b =>
 ef t10a fun t14 =>
 K t14
def afb (xs : List Value) (K : Value → HP) : HP :=
 arity xs 2 <|
 ak .u64 (xs.getD 0 undef) fun p0 =>
 ak .i64 (xs.getD 1 undef) fun p1 =>
 oK p0 p1 (fun r0 => K (.string r0))
def AU (p0 : Int) (K : Int → HP) : HP :=
 nz 2 (
 bif (decide ((Int.tmod p0 2 : Int) = 1)) then (
 nz 2 (
 K (gu .u32 (wr .u32 (Int.tdiv p0 2)) 3988292384))) else
 nz 2 (
 K (wr .u32 (Int.tdiv p0 2))))
def Xq (xs : List Value) (K : Value → HP) : HP :=
 arity xs 1 <|
 ak .u32 (xs.getD 0 undef) fun p0 =>
 AU p0 (fun r0 => K (.int .u32 r0))
def CM (p0 : Int) (p1 : Sl) (K : Int → HP) : HP :=
 loop (σ := List Value) (fun R1 vs1 =>
 ak .u32 (vs1.getD 0 undef) fun t5 =>
 ak .i64 (vs1.getD 1 undef) fun t6 =>
 bif (decide ((t6 : Int) < (p1.len : Nat))) then (
 aL p1 1 t6 fun t19 =>
 ag .u8 t19 fun t20 =>
 loop (σ := List Value) (fun R2 vs2 =>
 ak .u32 (vs2.getD 0 undef) fun t5_1 =>
 ak .i64 (vs2.getD 1 undef) fun t7 =>
 bif (decide ((t7 : Int) < 8)) then (
 AU t5_1 fun t28 =>
 R2 [.int .u32 t28, .int .i64 (ay (t7 + 1))]) else
 R1 [.int .u32 t5_1, .int .i64 (ay (t6 + 1))]) [.int .u32 (gu .u32 t5 (wr .u32 t20)), .int .i64 0]) else
 K (wr .u32 (4294967295 - t5))) [.int .u32 (wr .u32 (4294967295 - p0)), .int .i64 0]
def Vz (xs : List Value) (K : Value → HP) : HP :=
 arity xs 2 <|
 ak .u32 (xs.getD 0 undef) fun p0 =>
 bA (xs.getD 1 undef) fun p1 =>
 CM p0 p1 (fun r0 => K (.int .u32 r0))
def Dv (p0 : Sl) (K : Int → HP) : HP :=
 CM 0 p0 fun t4 =>
 K t4
def Ny (xs : List Value) (K : Value → HP) : HP :=
 arity xs 1 <|
 bA (xs.getD 0 undef) fun p0 =>
 Dv p0 (fun r0 => K (.int .u32 r0))
def zL (t0 : Sl) (t3 : Sl) (t4 : Int) (K : Sl → HP) (R1 : List Value → HP) : HP :=
 R1 [.slice t3.a t3.len t3.cap, .int .i64 (ay (t4 + 1))]
def qB (p0 : Sl) (K : Sl → HP) : HP :=
 loop (σ := List Value) (fun R1 vs1 =>
 bA (vs1.getD 0 undef) fun t3 =>
 ak .i64 (vs1.getD 1 undef) fun t4 =>
 bif (decide ((t4 : Int) < (p0.len : Nat))) then (
 aL p0 1 t4 fun t13 =>
 ag .u8 t13 fun t14 =>
 bif (decide ((t14 : Int) = 80)) then (
 az #[.int .u8 81, .int .u8 0] fun t17 =>
 app 1 1 #[.int .u8 0] t3 (⟨some (af t17), 2, 2⟩ : Sl) fun t18 =>
 zL p0 t18 t4 K R1) else
 aL p0 1 t4 fun t21 =>
 ag .u8 t21 fun t22 =>
 bif (decide ((t22 : Int) = 81)) then (
 az #[.int .u8 81, .int .u8 1] fun t25 =>
 app 1 1 #[.int .u8 0] t3 (⟨some (af t25), 2, 2⟩ : Sl) fun t26 =>
 zL p0 t26 t4 K R1) else
 aL p0 1 t4 fun t30 =>
 ag .u8 t30 fun t31 =>
 az #[.int .u8 t31] fun t32 =>
 app 1 1 #[.int .u8 0] t3 (⟨some (af t32), 1, 1⟩ : Sl) fun t33 =>
 zL p0 t33 t4 K R1) else
 K t3) [.slice none 0 0, .int .i64 0]
def acm (xs : List Value) (K : Value → HP) : HP :=
 arity xs 1 <|
 bA (xs.getD 0 undef) fun p0 =>
 qB p0 (fun r0 => K (.slice r0.a r0.len r0.cap))
def EM (t0 : Int) (t1 : Sl) (t13 : Bool) (K : Sl → Int → HP) : HP :=
 bif t13 then (
 K (⟨none, 0, 0⟩ : Sl) 1) else
 bif (decide ((65536 : Int) < (t1.len : Nat))) then (
 K (⟨none, 0, 0⟩ : Sl) 4) else
 oK (wr .u64 t0) 1 fun t19 =>
 oK (wr .u64 (t1.len : Nat)) 4 fun t23 =>
 cat t19 t23 fun t24 =>
 ef t1 fun t27 =>
 cat t24 t27 fun t28 =>
 kD t28 fun t29 =>
 Dv t29 fun t30 =>
 ef t1 fun t38 =>
 both (
 az #[.int .u8 80] fun t31 =>
 held (ef t1 fun t38_2 =>
 fun _ => (Value.string t38_2) = (Value.string t38)) (
 oK (wr .u64 t30) 4 fun t35 =>
 held (ef t1 fun t38_1 =>
 fun _ => (Value.string t38_1) = (Value.string t38)) (
 cat t24 t35 fun t36 =>
 cat t36 t38 fun t39 =>
 kD t39 fun t40 =>
 qB t40 fun t41 =>
 app 1 1 #[.int .u8 0] (⟨some (af t31), 1, 1⟩ : Sl) t41 fun t42 =>
 K t42 0))) (
 oK (wr .u64 t30) 4 fun t35_1 =>
 held (ef t1 fun t38_6 =>
 fun _ => (Value.string t38_6) = (Value.string t38)) (
 cat t24 t35_1 fun t36_1 =>
 cat t36_1 t38 fun t39_1 =>
 both (
 az #[.int .u8 80] fun t31_1 =>
 held (ef t1 fun t38_3 =>
 fun _ => (Value.string t38_3) = (Value.string t38)) (
 kD t39_1 fun t40_1 =>
 qB t40_1 fun t41_1 =>
 app 1 1 #[.int .u8 0] (⟨some (af t31_1), 1, 1⟩ : Sl) t41_1 fun t42_1 =>
 K t42_1 0)) (
 kD t39_1 fun t40_2 =>
 both (
 az #[.int .u8 80] fun t31_2 =>
 held (ef t1 fun t38_4 =>
 fun _ => (Value.string t38_4) = (Value.string t38)) (
 qB t40_2 fun t41_2 =>
 app 1 1 #[.int .u8 0] (⟨some (af t31_2), 1, 1⟩ : Sl) t41_2 fun t42_2 =>
 K t42_2 0)) (
 qB t40_2 fun t41_3 =>
 az #[.int .u8 80] fun t31_3 =>
 held (ef t1 fun t38_5 =>
 fun _ => (Value.string t38_5) = (Value.string t38)) (
 app 1 1 #[.int .u8 0] (⟨some (af t31_3), 1, 1⟩ : Sl) t41_3 fun t42_3 =>
 K t42_3 0)))))
def Aa (p0 : Int) (p1 : Sl) (K : Sl → Int → HP) : HP :=
 bif (decide ((p0 : Int) < 0)) then (
 EM p0 p1 true K) else
 EM p0 p1 (decide ((255 : Int) < p0)) K
def Vg (xs : List Value) (K : Value → HP) : HP :=
 arity xs 2 <|
 ak .i64 (xs.getD 0 undef) fun p0 =>
 bA (xs.getD 1 undef) fun p1 =>
 Aa p0 p1 (fun r0 r1 => K (.tuple #[.slice r0.a r0.len r0.cap, .int .i64 r1]))
def Ge (t0 : Sl) (t1 : Int) (t4 : Nat) (t6 : Int) (t7 : Sl) (t8 : Int) (K : iD → Int → HP) (R1 : List Value → HP) : HP :=
 Da t0 t6 fun t56 =>
 az #[.int .u8 0, .int .i64 0, .int .i64 0] fun t11 =>
 aq (af t11) 0 [.int .u8 t56.C, .int .i64 t56.Next, .int .i64 t56.E] (
 ag .i64 ((af t11).add 2) fun t58 =>
 bif (!decide ((t58 : Int) = 0)) then (
 ag .i64 ((af t11).add 2) fun t62 =>
 aq (af t4) 0 [.int .i64 0, .int .i64 0, .int .i64 0, .slice none 0 0] (
 held (ag .i64 ((af t11).add 2) fun t62_1 =>
 fun _ => (Value.int .i64 t62_1) = (Value.int .i64 t62)) (
 dG (af t4) fun r4 =>
 K r4 t62))) else
 ag .u8 ((af t11).add 0) fun t65 =>
 az #[.int .u8 t65] fun t66 =>
 app 1 1 #[.int .u8 0] t7 (⟨some (af t66), 1, 1⟩ : Sl) fun t67 =>
 ag .i64 ((af t11).add 1) fun t69 =>
 R1 [.int .i64 t69, .slice t67.a t67.len t67.cap, .int .i64 t8])
def Nc (t0 : Sl) (t1 : Int) (t4 : Nat) (t21 : Bool) (K : iD → Int → HP) : HP :=
 bif t21 then (
 aq (af t4) 0 [.int .i64 0, .int .i64 0, .int .i64 0, .slice none 0 0] (
 dG (af t4) fun r4 =>
 K r4 1)) else
 bif (decide ((t1 : Int) = (t0.len : Nat))) then (
 aq (af t4) 0 [.int .i64 0, .int .i64 0, .int .i64 0, .slice none 0 0] (
 dG (af t4) fun r4 =>
 K r4 2)) else
 aL t0 1 t1 fun t30 =>
 ag .u8 t30 fun t31 =>
 bif (!decide ((t31 : Int) = 80)) then (
 aq (af t4) 0 [.int .i64 0, .int .i64 0, .int .i64 0, .slice none 0 0] (
 dG (af t4) fun r4_1 =>
 K r4_1 3)) else
 loop (σ := List Value) (fun R1 vs1 =>
 ak .i64 (vs1.getD 0 undef) fun t6 =>
 bA (vs1.getD 1 undef) fun t7 =>
 ak .i64 (vs1.getD 2 undef) fun t8 =>
 bif (decide (((t7.len : Nat) : Int) < t8)) then (
 bif (decide (((t7.len : Nat) : Int) = 5)) then (
 vr t7 1 4 fun t45a t45b =>
 bif (decide ((65536 : Int) < t45a)) then (
 aq (af t4) 0 [.int .i64 0, .int .i64 0, .int .i64 0, .slice none 0 0] (
 dG (af t4) fun r4_2 =>
 K r4_2 4)) else
 Ge t0 t1 t4 t6 t7 (ay (9 + (ay t45a))) K R1) else
 Ge t0 t1 t4 t6 t7 t8 K R1) else
 aL t7 1 0 fun t72 =>
 ag .u8 t72 fun t73 =>
 eY t7 1 9 (t7.len : Nat) (t7.cap : Nat) fun t76 =>
 Aa (ay t73) t76 fun t77a t77b =>
 ef t77a fun t81 =>
 eY t0 1 t1 t6 (t0.cap : Nat) fun t85 =>
 ef t85 fun t86 =>
 bif (!decide (t81 = t86)) then (
 aq (af t4) 0 [.int .i64 0, .int .i64 0, .int .i64 0, .slice none 0 0] (
 dG (af t4) fun r4_3 =>
 K r4_3 5)) else
 aL t7 1 0 fun t94 =>
 ag .u8 t94 fun t95 =>
 eY t7 1 9 (t7.len : Nat) (t7.cap : Nat) fun t98 =>
 aq (af t4) 0 [.int .i64 t1, .int .i64 (ay (t6 - t1)), .int .i64 (ay t95), .slice t98.a t98.len t98.cap] (
 dG (af t4) fun r4_4 =>
 K r4_4 0)) [.int .i64 (ay (t1 + 1)), .slice none 0 0, .int .i64 9]
def CU (p0 : Sl) (p1 : Int) (K : iD → Int → HP) : HP :=
 az #[.int .i64 0, .int .i64 0, .int .i64 0, .slice none 0 0] fun t4 =>
 bif (decide ((p1 : Int) < 0)) then (
 Nc p0 p1 t4 true K) else
 Nc p0 p1 t4 (decide (((p0.len : Nat) : Int) < p1)) K
def aeA (xs : List Value) (K : Value → HP) : HP :=
 arity xs 2 <|
 bA (xs.getD 0 undef) fun p0 =>
 ak .i64 (xs.getD 1 undef) fun p1 =>
 CU p0 p1 (fun r0 r1 => K (.tuple #[r0.v, .int .i64 r1]))
def xV (t0 : Sl) (t2 : Nat) (t3 : Nat) (t4 : Int) (K : qN → HP) (R1 : List Value → HP) : HP :=
 R1 [.int .i64 (ay (t4 + 1))]
def Et (t0 : Sl) (t2 : Nat) (t3 : Nat) (t4 : Int) (t7 : Int) (t47 : Bool) (K : qN → HP) (R1 : List Value → HP) : HP :=
 bif t47 then (
 aB ((af t3).add 1) fun t49 =>
 aL t49 2 (ay (t7 - 1)) fun t52 =>
 ag .i64 (t52.add 0) fun t54 =>
 az #[.int .i64 0, .int .i64 0] fun t8 =>
 aq (af t8) 0 [.int .i64 t54, .int .i64 (ay (t4 + 1))] (
 aB ((af t3).add 1) fun t60 =>
 eY t60 2 0 (ay (t7 - 1)) (t60.cap : Nat) fun t63 =>
 qC (af t8) fun t65 =>
 both (
 az #[] fun t58 =>
 held (aB ((af t3).add 1) fun t60_3 =>
 fun _ => (Value.slice t60_3.a t60_3.len t60_3.cap) = (Value.slice t60.a t60.len t60.cap)) (
 held (qC (af t8) fun t65_3 =>
 fun _ => (Value.agg #[.int .i64 t65_3.cV, .int .i64 t65_3.To]) = (Value.agg #[.int .i64 t65.cV, .int .i64 t65.To])) (
 both (
 app 2 16 #[.int .i64 0, .int .i64 0] (⟨some (af t58), 0, 0⟩ : Sl) t63 fun t64 =>
 held (qC (af t8) fun t65_1 =>
 fun _ => (Value.agg #[.int .i64 t65_1.cV, .int .i64 t65_1.To]) = (Value.agg #[.int .i64 t65.cV, .int .i64 t65.To])) (
 az #[.int .i64 t65.cV, .int .i64 t65.To] fun t66 =>
 held (aB ((af t3).add 1) fun t60_1 =>
 fun _ => (Value.slice t60_1.a t60_1.len t60_1.cap) = (Value.slice t60.a t60.len t60.cap)) (
 app 2 16 #[.int .i64 0, .int .i64 0] t64 (⟨some (af t66), 1, 1⟩ : Sl) fun t67 =>
 aq ((af t3).add 1) 0 [.slice t67.a t67.len t67.cap] (
 xV t0 t2 t3 t4 K R1)))) (
 az #[.int .i64 t65.cV, .int .i64 t65.To] fun t66_1 =>
 held (aB ((af t3).add 1) fun t60_2 =>
 fun _ => (Value.slice t60_2.a t60_2.len t60_2.cap) = (Value.slice t60.a t60.len t60.cap)) (
 app 2 16 #[.int .i64 0, .int .i64 0] (⟨some (af t58), 0, 0⟩ : Sl) t63 fun t64_1 =>
 held (qC (af t8) fun t65_2 =>
 fun _ => (Value.agg #[.int .i64 t65_2.cV, .int .i64 t65_2.To]) = (Value.agg #[.int .i64 t65.cV, .int .i64 t65.To])) (
 app 2 16 #[.int .i64 0, .int .i64 0] t64_1 (⟨some (af t66_1), 1, 1⟩ : Sl) fun t67_1 =>
 aq ((af t3).add 1) 0 [.slice t67_1.a t67_1.len t67_1.cap] (
 xV t0 t2 t3 t4 K R1))))))) (
 az #[.int .i64 t65.cV, .int .i64 t65.To] fun t66_2 =>
 held (aB ((af t3).add 1) fun t60_5 =>
 fun _ => (Value.slice t60_5.a t60_5.len t60_5.cap) = (Value.slice t60.a t60.len t60.cap)) (
 az #[] fun t58_1 =>
 held (aB ((af t3).add 1) fun t60_4 =>
 fun _ => (Value.slice t60_4.a t60_4.len t60_4.cap) = (Value.slice t60.a t60.len t60.cap)) (
 held (qC (af t8) fun t65_5 =>
 fun _ => (Value.agg #[.int .i64 t65_5.cV, .int .i64 t65_5.To]) = (Value.agg #[.int .i64 t65.cV, .int .i64 t65.To])) (
 app 2 16 #[.int .i64 0, .int .i64 0] (⟨some (af t58_1), 0, 0⟩ : Sl) t63 fun t64_2 =>
 held (qC (af t8) fun t65_4 =>
 fun _ => (Value.agg #[.int .i64 t65_4.cV, .int .i64 t65_4.To]) = (Value.agg #[.int .i64 t65.cV, .int .i64 t65.To])) (
 app 2 16 #[.int .i64 0, .int .i64 0] t64_2 (⟨some (af t66_2), 1, 1⟩ : Sl) fun t67_2 =>
 aq ((af t3).add 1) 0 [.slice t67_2.a t67_2.len t67_2.cap] (
 xV t0 t2 t3 t4 K R1)))))))) else
 aB ((af t3).add 1) fun t70 =>
 az #[.int .i64 t4, .int .i64 (ay (t4 + 1))] fun t75 =>
 app 2 16 #[.int .i64 0, .int .i64 0] t70 (⟨some (af t75), 1, 1⟩ : Sl) fun t76 =>
 aq ((af t3).add 1) 0 [.slice t76.a t76.len t76.cap] (
 xV t0 t2 t3 t4 K R1)
def Dx (p0 : Sl) (K : qN → HP) : HP :=
 az #[.slice none 0 0, .slice none 0 0] fun t2 =>
 az #[.slice none 0 0, .slice none 0 0] fun t3 =>
 aq (af t3) 0 [.slice none 0 0, .slice none 0 0] (
 loop (σ := List Value) (fun R1 vs1 =>
 ak .i64 (vs1.getD 0 undef) fun t4 =>
 bif (decide ((t4 : Int) < (p0.len : Nat))) then (
 CU p0 t4 fun t17a t17b =>
 az #[.int .i64 0, .int .i64 0, .int .i64 0, .slice none 0 0] fun t5 =>
 aq (af t5) 0 [.int .i64 t17a.At, .int .i64 t17a.eL, .int .i64 t17a.Kind, .slice t17a.cq.a t17a.cq.len t17a.cq.cap] (
 bif (decide ((t17b : Int) = 0)) then (
 aB ((af t3).add 0) fun t23 =>
 dG (af t5) fun t24 =>
 az #[.int .i64 t24.At, .int .i64 t24.eL, .int .i64 t24.Kind, .slice t24.cq.a t24.cq.len t24.cq.cap] fun t25 =>
 app 4 48 #[.int .i64 0, .int .i64 0, .int .i64 0, .slice none 0 0] t23 (⟨some (af t25), 1, 1⟩ : Sl) fun t26 =>
 aq ((af t3).add 0) 0 [.slice t26.a t26.len t26.cap] (
 ag .i64 ((af t5).add 1) fun t30 =>
 R1 [.int .i64 (ay (t4 + t30))])) else
 aB ((af t3).add 1) fun t33 =>
 bif (decide ((0 : Int) < (t33.len : Nat))) then (
 aB ((af t3).add 1) fun t39 =>
 aL t39 2 (ay ((t33.len : Nat) - 1)) fun t42 =>
 ag .i64 (t42.add 1) fun t44 =>
 Et p0 t2 t3 t4 (t33.len : Nat) (decide ((t44 : Int) = t4)) K R1) else
 Et p0 t2 t3 t4 (t33.len : Nat) false K R1)) else
 GY (af t3) fun t80 =>
 aq (af t2) 0 [.slice t80.L.a t80.L.len t80.L.cap, .slice t80.oR.a t80.oR.len t80.oR.cap] (
 GY (af t2) fun r2 =>
 K r2)) [.int .i64 0])
def WK (xs : List Value) (K : Value → HP) : HP :=
 arity xs 1 <|
 bA (xs.getD 0 undef) fun p0 =>
 Dx p0 (fun r0 => K (r0.v))
def gC (p0 : Sl) (p1 : Int) (p2 : Int) (K : Int → HP) : HP :=
 vr p0 p1 p2 fun t13a t13b =>
 bif (decide ((9223372036854775807 : Int) < t13a)) then (
 K 9223372036854775807) else
 K (ay t13a)
def Pw (xs : List Value) (K : Value → HP) : HP :=
 arity xs 3 <|
 bA (xs.getD 0 undef) fun p0 =>
 ak .i64 (xs.getD 1 undef) fun p1 =>
 ak .i64 (xs.getD 2 undef) fun p2 =>
 gC p0 p1 p2 (fun r0 => K (.int .i64 r0))
def gA (p0 : Int) (p1 : Int) (p2 : Int) (K : Bool → HP) : HP :=
 bif (decide ((p1 : Int) ≤ p0)) then (
 K (decide ((p0 : Int) ≤ p2))) else
 K false
def adw (xs : List Value) (K : Value → HP) : HP :=
 arity xs 3 <|
 ak .i64 (xs.getD 0 undef) fun p0 =>
 ak .i64 (xs.getD 1 undef) fun p1 =>
 ak .i64 (xs.getD 2 undef) fun p2 =>
 gA p0 p1 p2 (fun r0 => K (.bool r0))
def CA (p0 : aZ) (K : Bool → HP) : HP :=
 az #[.int .i64 p0.Kind, .int .i64 p0.bR, .int .i64 p0.Seq, .int .i64 p0.Next, .int .i64 p0.bW, .int .i64 p0.bV, .int .i64 p0.Time, .int .i64 p0.Flags, .int .i64 p0.Body, .int .i64 p0.bQ, .int .i64 p0.Origin, .slice p0.Data.a p0.Data.len p0.Data.cap] fun t1 =>
 ag .i64 ((af t1).add 0) fun t4 =>
 bif (decide ((t4 : Int) = 1)) then (
 ag .i64 ((af t1).add 1) fun t8 =>
 gA t8 1 999 fun t9 =>
 bif t9 then (
 ag .i64 ((af t1).add 2) fun t12 =>
 gA t12 1 2147483648 fun t13 =>
 bif t13 then (
 ag .i64 ((af t1).add 3) fun t17 =>
 gA t17 1 2147483649 fun t18 =>
 bif t18 then (
 ag .i64 ((af t1).add 4) fun t22 =>
 gA t22 0 2147483648 fun t23 =>
 K t23) else
 K false) else
 K false) else
 K false) else
 bif (decide ((t4 : Int) = 2)) then (
 ag .i64 ((af t1).add 5) fun t28 =>
 gA t28 1 2147483648 fun t29 =>
 bif t29 then (
 ag .i64 ((af t1).add 6) fun t32 =>
 gA t32 0 4503599627370496 fun t33 =>
 bif t33 then (
 ag .i64 ((af t1).add 7) fun t37 =>
 gA t37 0 31 fun t38 =>
 bif t38 then (
 ag .i64 ((af t1).add 8) fun t42 =>
 gA t42 1 2147483648 fun t43 =>
 bif t43 then (
 ag .i64 ((af t1).add 9) fun t47 =>
 gA t47 0 32768 fun t48 =>
 bif t48 then (
 ag .i64 ((af t1).add 10) fun t52 =>
 gA t52 0 9007199254740992 fun t53 =>
 K t53) else
 K false) else
 K false) else
 K false) else
 K false) else
 K false) else
 bif (decide ((t4 : Int) = 3)) then (
 ag .i64 ((af t1).add 5) fun t58 =>
 gA t58 1 2147483648 fun t59 =>
 K t59) else
 bif (decide ((t4 : Int) = 4)) then (
 ag .i64 ((af t1).add 5) fun t63 =>
 gA t63 1 2147483648 fun t64 =>
 bif t64 then (
 ag .i64 ((af t1).add 7) fun t67 =>
 gA t67 0 31 fun t68 =>
 K t68) else
 K false) else
 bif (decide ((t4 : Int) = 5)) then (
 ag .i64 ((af t1).add 3) fun t73 =>
 gA t73 1 2147483649 fun t74 =>
 K t74) else
 ag .i64 ((af t1).add 8) fun t76 =>
 gA t76 1 2147483648 fun t77 =>
 K t77
def PD (xs : List Value) (K : Value → HP) : HP :=
 arity xs 1 <|
 fU (xs.getD 0 undef) fun p0 =>
 CA p0 (fun r0 => K (.bool r0))
def nJ (t4 : Nat) (t8 : Nat) (K : aZ → Int → HP) : HP :=
 bq (af t8) fun t104 =>
 CA t104 fun t105 =>
 bif (!t105) then (
 aq (af t4) 0 [.int .i64 0, .int .i64 0, .int .i64 0, .int .i64 0, .int .i64 0, .int .i64 0, .int .i64 0, .int .i64 0, .int .i64 0, .int .i64 0, .int .i64 0, .slice none 0 0] (
 bq (af t4) fun r4 =>
 K r4 1)) else
 bq (af t8) fun t108 =>
 aq (af t4) 0 [.int .i64 t108.Kind, .int .i64 t108.bR, .int .i64 t108.Seq, .int .i64 t108.Next, .int .i64 t108.bW, .int .i64 t108.bV, .int .i64 t108.Time, .int .i64 t108.Flags, .int .i64 t108.Body, .int .i64 t108.bQ, .int .i64 t108.Origin, .slice t108.Data.a t108.Data.len t108.Data.cap] (
 bq (af t4) fun r4_1 =>
 K r4_1 0)
def FI (t0 : Int) (t1 : Sl) (t4 : Nat) (t7 : Int) (t33 : Bool) (K : aZ → Int → HP) : HP :=
 bif t33 then (
 aq (af t4) 0 [.int .i64 0, .int .i64 0, .int .i64 0, .int .i64 0, .int .i64 0, .int .i64 0, .int .i64 0, .int .i64 0, .int .i64 0, .int .i64 0, .int .i64 0, .slice none 0 0] (
 bq (af t4) fun r4 =>
 K r4 3)) else
 bif (decide ((ay (t7 + 32768) : Int) < (t1.len : Nat))) then (
 aq (af t4) 0 [.int .i64 0, .int .i64 0, .int .i64 0, .int .i64 0, .int .i64 0, .int .i64 0, .int .i64 0, .int .i64 0, .int .i64 0, .int .i64 0, .int .i64 0, .slice none 0 0] (
 bq (af t4) fun r4_1 =>
 K r4_1 4)) else
 az #[.int .i64 0, .int .i64 0, .int .i64 0, .int .i64 0, .int .i64 0, .int .i64 0, .int .i64 0, .int .i64 0, .int .i64 0, .int .i64 0, .int .i64 0, .slice none 0 0] fun t8 =>
 aq (af t8) 0 [.int .i64 t0, .int .i64 0, .int .i64 0, .int .i64 0, .int .i64 0, .int .i64 0, .int .i64 0, .int .i64 0, .int .i64 0, .int .i64 0, .int .i64 0, .slice none 0 0] (
 bif (decide ((t0 : Int) = 1)) then (
 gC t1 0 2 fun t47 =>
 aq ((af t8).add 1) 0 [.int .i64 t47] (
 gC t1 2 4 fun t50 =>
 aq ((af t8).add 2) 0 [.int .i64 t50] (
 gC t1 6 4 fun t53 =>
 aq ((af t8).add 3) 0 [.int .i64 t53] (
 gC t1 10 4 fun t56 =>
 aq ((af t8).add 4) 0 [.int .i64 t56] (
 nJ t4 t8 K))))) else
 bif (decide ((t0 : Int) = 2)) then (
 gC t1 0 4 fun t61 =>
 aq ((af t8).add 5) 0 [.int .i64 t61] (
 gC t1 4 8 fun t64 =>
 aq ((af t8).add 6) 0 [.int .i64 t64] (
 gC t1 12 1 fun t67 =>
 aq ((af t8).add 7) 0 [.int .i64 t67] (
 gC t1 13 4 fun t70 =>
 aq ((af t8).add 8) 0 [.int .i64 t70] (
 gC t1 17 4 fun t73 =>
 aq ((af t8).add 9) 0 [.int .i64 t73] (
 gC t1 21 8 fun t76 =>
 aq ((af t8).add 10) 0 [.int .i64 t76] (
 nJ t4 t8 K))))))) else
 bif (decide ((t0 : Int) = 3)) then (
 gC t1 0 4 fun t81 =>
 aq ((af t8).add 5) 0 [.int .i64 t81] (
 nJ t4 t8 K)) else
 bif (decide ((t0 : Int) = 4)) then (
 gC t1 0 4 fun t86 =>
 aq ((af t8).add 5) 0 [.int .i64 t86] (
 gC t1 4 1 fun t89 =>
 aq ((af t8).add 7) 0 [.int .i64 t89] (
 nJ t4 t8 K))) else
 bif (decide ((t0 : Int) = 5)) then (
 gC t1 0 4 fun t94 =>
 aq ((af t8).add 3) 0 [.int .i64 t94] (
 nJ t4 t8 K)) else
 bif (decide ((t0 : Int) = 6)) then (
 gC t1 0 4 fun t99 =>
 aq ((af t8).add 8) 0 [.int .i64 t99] (
 eY t1 1 4 (t1.len : Nat) (t1.cap : Nat) fun t102 =>
 aq ((af t8).add 11) 0 [.slice t102.a t102.len t102.cap] (
 nJ t4 t8 K))) else
 nJ t4 t8 K)
def Ky (t0 : Int) (t1 : Sl) (t4 : Nat) (t6 : Sl) (t15 : Bool) (K : aZ → Int → HP) : HP :=
 bif t15 then (
 aq (af t4) 0 [.int .i64 0, .int .i64 0, .int .i64 0, .int .i64 0, .int .i64 0, .int .i64 0, .int .i64 0, .int .i64 0, .int .i64 0, .int .i64 0, .int .i64 0, .slice none 0 0] (
 bq (af t4) fun r4 =>
 K r4 16)) else
 aL t6 1 t0 fun t19 =>
 ag .i64 t19 fun t20 =>
 bif (decide (((t1.len : Nat) : Int) < t20)) then (
 aq (af t4) 0 [.int .i64 0, .int .i64 0, .int .i64 0, .int .i64 0, .int .i64 0, .int .i64 0, .int .i64 0, .int .i64 0, .int .i64 0, .int .i64 0, .int .i64 0, .slice none 0 0] (
 bq (af t4) fun r4 =>
 K r4 2)) else
 bif (decide ((t20 : Int) < (t1.len : Nat))) then (
 FI t0 t1 t4 t20 (!decide ((t0 : Int) = 6)) K) else
 FI t0 t1 t4 t20 false K
def uS (p0 : Int) (p1 : Sl) (K : aZ → Int → HP) : HP :=
 az #[.int .i64 0, .int .i64 0, .int .i64 0, .int .i64 0, .int .i64 0, .int .i64 0, .int .i64 0, .int .i64 0, .int .i64 0, .int .i64 0, .int .i64 0, .slice none 0 0] fun t4 =>
 az #[.int .i64 0, .int .i64 14, .int .i64 29, .int .i64 4, .int .i64 5, .int .i64 4, .int .i64 4] fun t9 =>
 bif (decide ((p0 : Int) < 1)) then (
 Ky p0 p1 t4 (⟨some (af t9), 7, 7⟩ : Sl) true K) else
 Ky p0 p1 t4 (⟨some (af t9), 7, 7⟩ : Sl) (decide ((6 : Int) < p0)) K
def TY (xs : List Value) (K : Value → HP) : HP :=
 arity xs 2 <|
 ak .i64 (xs.getD 0 undef) fun p0 =>
 bA (xs.getD 1 undef) fun p1 =>
 uS p0 p1 (fun r0 r1 => K (.tuple #[r0.v, .int .i64 r1]))
def KR (t2 : Nat) (t3 : Nat) (t4 : Sl) (t5 : Int) (K : qo → HP) (R1 : List Value → HP) : HP :=
 R1 [.int .i64 (ay (t5 + 1))]
def HM (t2 : Nat) (t3 : Nat) (t4 : Sl) (t5 : Int) (t6 : Nat) (t7 : Int) (K : qo → HP) (R1 : List Value → HP) : HP :=
 bif (decide ((t7 : Int) = 0)) then (
 aB ((af t3).add 0) fun t37 =>
 aL t4 4 t5 fun t40 =>
 ag .i64 (t40.add 0) fun t42 =>
 aL t4 4 t5 fun t45 =>
 ag .i64 (t45.add 1) fun t47 =>
 bq (af t6) fun t48 =>
 az #[.int .i64 t42, .int .i64 t47, .int .i64 t48.Kind, .int .i64 t48.bR, .int .i64 t48.Seq, .int .i64 t48.Next, .int .i64 t48.bW, .int .i64 t48.bV, .int .i64 t48.Time, .int .i64 t48.Flags, .int .i64 t48.Body, .int .i64 t48.bQ, .int .i64 t48.Origin, .slice t48.Data.a t48.Data.len t48.Data.cap] fun t50 =>
 held (aB ((af t3).add 0) fun t37_1 =>
 fun _ => (Value.slice t37_1.a t37_1.len t37_1.cap) = (Value.slice t37.a t37.len t37.cap)) (
 app 14 128 #[.int .i64 0, .int .i64 0, .int .i64 0, .int .i64 0, .int .i64 0, .int .i64 0, .int .i64 0, .int .i64 0, .int .i64 0, .int .i64 0, .int .i64 0, .int .i64 0, .int .i64 0, .slice none 0 0] t37 (⟨some (af t50), 1, 1⟩ : Sl) fun t51 =>
 aq ((af t3).add 0) 0 [.slice t51.a t51.len t51.cap] (
 ag .i64 ((af t3).add 1) fun t54 =>
 aL t4 4 t5 fun t57 =>
 ag .i64 (t57.add 1) fun t59 =>
 aq ((af t3).add 1) 0 [.int .i64 (ay (t54 - t59))] (
 KR t2 t3 t4 t5 K R1)))) else
 KR t2 t3 t4 t5 K R1
def Dd (p0 : Sl) (K : qo → HP) : HP :=
 az #[.slice none 0 0, .int .i64 0] fun t2 =>
 az #[.slice none 0 0, .int .i64 0] fun t3 =>
 aq (af t3) 0 [.slice none 0 0, .int .i64 (p0.len : Nat)] (
 Dx p0 fun t12 =>
 loop (σ := List Value) (fun R1 vs1 =>
 ak .i64 (vs1.getD 0 undef) fun t5 =>
 bif (decide ((t5 : Int) < (t12.L.len : Nat))) then (
 aL t12.L 4 t5 fun t23 =>
 ag .i64 (t23.add 2) fun t25 =>
 aL t12.L 4 t5 fun t28 =>
 aB (t28.add 3) fun t30 =>
 both (
 uS t25 t30 fun t31a t31b =>
 az #[.int .i64 0, .int .i64 0, .int .i64 0, .int .i64 0, .int .i64 0, .int .i64 0, .int .i64 0, .int .i64 0, .int .i64 0, .int .i64 0, .int .i64 0, .slice none 0 0] fun t6 =>
 held (ag .i64 (t23.add 2) fun t25_1 =>
 fun _ => (Value.int .i64 t25_1) = (Value.int .i64 t25)) (
 held (aB (t28.add 3) fun t30_1 =>
 fun _ => (Value.slice t30_1.a t30_1.len t30_1.cap) = (Value.slice t30.a t30.len t30.cap)) (
 aq (af t6) 0 [.int .i64 t31a.Kind, .int .i64 t31a.bR, .int .i64 t31a.Seq, .int .i64 t31a.Next, .int .i64 t31a.bW, .int .i64 t31a.bV, .int .i64 t31a.Time, .int .i64 t31a.Flags, .int .i64 t31a.Body, .int .i64 t31a.bQ, .int .i64 t31a.Origin, .slice t31a.Data.a t31a.Data.len t31a.Data.cap] (
 HM t2 t3 t12.L t5 t6 t31b K R1)))) (
 az #[.int .i64 0, .int .i64 0, .int .i64 0, .int .i64 0, .int .i64 0, .int .i64 0, .int .i64 0, .int .i64 0, .int .i64 0, .int .i64 0, .int .i64 0, .slice none 0 0] fun t6_1 =>
 held (ag .i64 (t23.add 2) fun t25_2 =>
 fun _ => (Value.int .i64 t25_2) = (Value.int .i64 t25)) (
 held (aB (t28.add 3) fun t30_2 =>
 fun _ => (Value.slice t30_2.a t30_2.len t30_2.cap) = (Value.slice t30.a t30.len t30.cap)) (
 uS t25 t30 fun t31a_1 t31b_1 =>
 aq (af t6_1) 0 [.int .i64 t31a_1.Kind, .int .i64 t31a_1.bR, .int .i64 t31a_1.Seq, .int .i64 t31a_1.Next, .int .i64 t31a_1.bW, .int .i64 t31a_1.bV, .int .i64 t31a_1.Time, .int .i64 t31a_1.Flags, .int .i64 t31a_1.Body, .int .i64 t31a_1.bQ, .int .i64 t31a_1.Origin, .slice t31a_1.Data.a t31a_1.Data.len t31a_1.Data.cap] (
 HM t2 t3 t12.L t5 t6_1 t31b_1 K R1))))) else
 J4 (af t3) fun t62 =>
 aq (af t2) 0 [.slice t62.L.a t62.L.len t62.L.cap, .int .i64 t62.pO] (
 J4 (af t2) fun r2 =>
 K r2)) [.int .i64 0])
def acn (xs : List Value) (K : Value → HP) : HP :=
 arity xs 1 <|
 bA (xs.getD 0 undef) fun p0 =>
 Dd p0 (fun r0 => K (r0.v))
def rB (p0 : Int) (p1 : Int) (K : Int → HP) : HP :=
 bif (decide ((p1 : Int) < p0)) then (
 K p0) else
 K p1
def afS (xs : List Value) (K : Value → HP) : HP :=
 arity xs 2 <|
 ak .i64 (xs.getD 0 undef) fun p0 =>
 ak .i64 (xs.getD 1 undef) fun p1 =>
 rB p0 p1 (fun r0 => K (.int .i64 r0))
def xD (p0 : Option Addr) (K : Int → HP) : HP :=
 yB p0 fun t5 =>
 bif (!decide ((t5 : Int) = 0)) then (
 K t5) else
 nn p0 fun t11 =>
 aB (t11.add 1) fun t13 =>
 nn p0 fun t14 =>
 aq (t14.add 2) 0 [.slice t13.a t13.len t13.cap] (
 nn p0 fun t17 =>
 aq (t17.add 3) 0 [.slice none 0 0] (
 K 0))
def NC (xs : List Value) (K : Value → HP) : HP :=
 arity xs 1 <|
 bu (xs.getD 0 undef) fun p0 =>
 xD p0 (fun r0 => K (.int .i64 r0))
def Cd (p0 : Int) (K : Bool → HP) : HP :=
 bif (!decide ((p0 : Int) = 0)) then (
 K (!decide ((p0 : Int) = 11))) else
 K false
def aei (xs : List Value) (K : Value → HP) : HP :=
 arity xs 1 <|
 ak .i64 (xs.getD 0 undef) fun p0 =>
 Cd p0 (fun r0 => K (.bool r0))
def Bv (p0 : Option Addr) (K : Int → HP) : HP :=
 xD p0 fun t5 =>
 Cd t5 fun t7 =>
 bif t7 then (
 xD p0 fun t9 =>
 K t9) else
 K t5
def Oh (xs : List Value) (K : Value → HP) : HP :=
 arity xs 1 <|
 bu (xs.getD 0 undef) fun p0 =>
 Bv p0 (fun r0 => K (.int .i64 r0))
def EJ (t0 : Option Addr) (t1 : ByteArray) (t16 : Bool) (K : Int → HP) : HP :=
 bif t16 then (
 K 0) else
 xm t0 t1 fun t19 =>
 bif (!decide ((t19 : Int) = 0)) then (
 K t19) else
 Bv t0 fun t24 =>
 K t24
def zl (p0 : Option Addr) (p1 : ByteArray) (K : Int → HP) : HP :=
 nn p0 fun t7 =>
 fX (t7.add 5) fun t9 =>
 bif (!t9) then (
 yu p0 p1 fun t14 =>
 EJ p0 p1 (decide ((t14 : Int) < 0)) K) else
 EJ p0 p1 false K
def aen (xs : List Value) (K : Value → HP) : HP :=
 arity xs 2 <|
 bu (xs.getD 0 undef) fun p0 =>
 bX (xs.getD 1 undef) fun p1 =>
 zl p0 p1 (fun r0 => K (.int .i64 r0))
def Bi (p0 : Int) (p1 : aZ) (K : Int → HP) : HP :=
 az #[.int .i64 p1.Kind, .int .i64 p1.bR, .int .i64 p1.Seq, .int .i64 p1.Next, .int .i64 p1.bW, .int .i64 p1.bV, .int .i64 p1.Time, .int .i64 p1.Flags, .int .i64 p1.Body, .int .i64 p1.bQ, .int .i64 p1.Origin, .slice p1.Data.a p1.Data.len p1.Data.cap] fun t3 =>
 ag .i64 ((af t3).add 3) fun t7 =>
 ag .i64 ((af t3).add 5) fun t10 =>
 rB p0 t7 fun t8 =>
 held (ag .i64 ((af t3).add 5) fun t10_1 =>
 fun _ => (Value.int .i64 t10_1) = (Value.int .i64 t10)) (
 rB t8 (ay (t10 + 1)) fun t12 =>
 K t12)
def acN (xs : List Value) (K : Value → HP) : HP :=
 arity xs 2 <|
 ak .i64 (xs.getD 0 undef) fun p0 =>
 fU (xs.getD 1 undef) fun p1 =>
 Bi p0 p1 (fun r0 => K (.int .i64 r0))
def GZ (t0 : Option Addr) (t1 : Int) (t9 : Nat) (t10 : Int) (t11 : Int) (t12 : Int) (t14 : Nat) (t15 : Int) (K : Option Addr → Int → HP) (R1 : List Value → HP) (R2 : List Value → HP) : HP :=
 R2 [.int .i64 t10, .int .i64 (ay (t15 + 1))]
def JI (t0 : Option Addr) (t1 : Int) (t9 : Nat) (t10 : Int) (t11 : Int) (t12 : Int) (t14 : Nat) (t15 : Int) (t131 : Bool) (K : Option Addr → Int → HP) (R1 : List Value → HP) (R2 : List Value → HP) : HP :=
 bif t131 then (
 aB ((af t14).add 0) fun t134 =>
 aL t134 14 t15 fun t136 =>
 ag .i64 ((t136.add 2).add 4) fun t139 =>
 rB t10 t139 fun t140 =>
 GZ t0 t1 t9 t140 t11 t12 t14 t15 K R1 R2) else
 GZ t0 t1 t9 t10 t11 t12 t14 t15 K R1 R2
def D7 (t0 : Option Addr) (t1 : Int) (t9 : Nat) (t10 : Int) (t11 : Int) (K : Option Addr → Int → HP) (R1 : List Value → HP) : HP :=
 R1 [.int .i64 t10, .int .i64 (ay (t11 + 1))]
def Gh (t0 : Option Addr) (t1 : Int) (t9 : Nat) (t10 : Int) (t16 : Sl) (t17 : Int) (K : Option Addr → Int → HP) (R3 : List Value → HP) : HP :=
 R3 [.slice t16.a t16.len t16.cap, .int .i64 (ay (t17 + 1))]
def zj (t0 : Option Addr) (t1 : Int) (t2 : Int) (t33 : Bool) (K : Option Addr → Int → HP) : HP :=
 bif t33 then (
 K none 1) else
 qJ t1 3 fun t36 =>
 cat (⟨#[99]⟩ : ByteArray) t36 fun t37 =>
 cat t37 (⟨#[45]⟩ : ByteArray) fun t38 =>
 BG t0 t38 fun t39 =>
 bif (!decide ((t39 : Int) = 0)) then (
 K none t39) else
 az #[.pointer t0, .int .i64 t1, .int .i64 t2, .int .i64 1, .slice none 0 0] fun t47 =>
 loop (σ := List Value) (fun R1 vs1 =>
 ak .i64 (vs1.getD 0 undef) fun t10 =>
 ak .i64 (vs1.getD 1 undef) fun t11 =>
 nn t0 fun t50 =>
 aB (t50.add 1) fun t52 =>
 bif (decide ((t11 : Int) < (t52.len : Nat))) then (
 nn t0 fun t59 =>
 aB (t59.add 1) fun t61 =>
 aL t61 2 t11 fun t63 =>
 bE (t63.add 0) fun t65 =>
 A8 t1 t65 fun t66 =>
 bif (decide ((t66 : Int) = 0)) then (
 K none 12) else
 bif (decide ((t66 : Int) < 0)) then (
 D7 t0 t1 t47 t10 t11 K R1) else
 nn t0 fun t72 =>
 aB (t72.add 0) fun t74 =>
 nn t0 fun t76 =>
 aB (t76.add 1) fun t78 =>
 aL t78 2 t11 fun t80 =>
 ag .i64 (t80.add 1) fun t82 =>
 aL t74 3 t82 fun t83 =>
 bE (t83.add 0) fun t85 =>
 kD t85 fun t87 =>
 Dd t87 fun t88 =>
 az #[.slice none 0 0, .int .i64 0] fun t14 =>
 aq (af t14) 0 [.slice t88.L.a t88.L.len t88.L.cap, .int .i64 t88.pO] (
 nn (some (af t47)) fun t91 =>
 aB (t91.add 4) fun t93 =>
 ag .i64 ((af t14).add 1) fun t98 =>
 aB ((af t14).add 0) fun t100 =>
 az #[.int .i64 t66, .int .i64 (t85.size : Nat), .int .i64 t98, .slice t100.a t100.len t100.cap] fun t102 =>
 held (aB (t91.add 4) fun t93_1 =>
 fun _ => (Value.slice t93_1.a t93_1.len t93_1.cap) = (Value.slice t93.a t93.len t93.cap)) (
 app 4 48 #[.int .i64 0, .int .i64 0, .int .i64 0, .slice none 0 0] t93 (⟨some (af t102), 1, 1⟩ : Sl) fun t103 =>
 nn (some (af t47)) fun t104 =>
 aq (t104.add 4) 0 [.slice t103.a t103.len t103.cap] (
 loop (σ := List Value) (fun R2 vs2 =>
 ak .i64 (vs2.getD 0 undef) fun t10_1 =>
 ak .i64 (vs2.getD 1 undef) fun t15 =>
 aB ((af t14).add 0) fun t108 =>
 bif (decide ((t15 : Int) < (t108.len : Nat))) then (
 aB ((af t14).add 0) fun t114 =>
 aL t114 14 t15 fun t116 =>
 ag .i64 ((t116.add 2).add 0) fun t119 =>
 bif (decide ((t119 : Int) = 1)) then (
 aB ((af t14).add 0) fun t123 =>
 aL t123 14 t15 fun t125 =>
 ag .i64 ((t125.add 2).add 4) fun t128 =>
 JI t0 t1 t47 t10_1 t11 t66 t14 t15 (decide ((t128 : Int) ≤ t66)) K R1 R2) else
 JI t0 t1 t47 t10_1 t11 t66 t14 t15 false K R1 R2) else
 D7 t0 t1 t47 t10_1 t11 K R1) [.int .i64 t10, .int .i64 0])))) else
 loop (σ := List Value) (fun R3 vs3 =>
 bA (vs3.getD 0 undef) fun t16 =>
 ak .i64 (vs3.getD 1 undef) fun t17 =>
 nn (some (af t47)) fun t143 =>
 aB (t143.add 4) fun t145 =>
 bif (decide ((t17 : Int) < (t145.len : Nat))) then (
 nn (some (af t47)) fun t151 =>
 aB (t151.add 4) fun t153 =>
 aL t153 4 t17 fun t155 =>
 ag .i64 (t155.add 0) fun t157 =>
 bif (decide ((t157 : Int) < t10)) then (
 nn (some (af t47)) fun t163 =>
 aB (t163.add 4) fun t165 =>
 aL t165 4 t17 fun t167 =>
 ag .i64 (t167.add 0) fun t169 =>
 sE t1 t169 fun t170 =>
 zl t0 t170 fun t171 =>
 bif (!decide ((t171 : Int) = 0)) then (
 K none t171) else
 Gh t0 t1 t47 t10 t16 t17 K R3) else
 nn (some (af t47)) fun t177 =>
 aB (t177.add 4) fun t179 =>
 aL t179 4 t17 fun t181 =>
 Y3 t181 fun t182 =>
 az #[.int .i64 t182.Seq, .int .i64 t182.bQ, .int .i64 t182.pO, .slice t182.L.a t182.L.len t182.L.cap] fun t183 =>
 app 4 48 #[.int .i64 0, .int .i64 0, .int .i64 0, .slice none 0 0] t16 (⟨some (af t183), 1, 1⟩ : Sl) fun t184 =>
 loop (σ := List Value) (fun R4 vs4 =>
 ak .i64 (vs4.getD 0 undef) fun t19 =>
 nn (some (af t47)) fun t187 =>
 aB (t187.add 4) fun t189 =>
 aL t189 4 t17 fun t191 =>
 aB (t191.add 3) fun t193 =>
 bif (decide ((t19 : Int) < (t193.len : Nat))) then (
 nn (some (af t47)) fun t200 =>
 ag .i64 (t200.add 3) fun t202 =>
 nn (some (af t47)) fun t204 =>
 aB (t204.add 4) fun t206 =>
 aL t206 4 t17 fun t208 =>
 aB (t208.add 3) fun t210 =>
 aL t210 14 t19 fun t212 =>
 bq (t212.add 2) fun t214 =>
 Bi t202 t214 fun t215 =>
 nn (some (af t47)) fun t216 =>
 aq (t216.add 3) 0 [.int .i64 t215] (
 R4 [.int .i64 (ay (t19 + 1))])) else
 Gh t0 t1 t47 t10 t184 t17 K R3) [.int .i64 0]) else
 nn (some (af t47)) fun t220 =>
 aq (t220.add 4) 0 [.slice t16.a t16.len t16.cap] (
 K (some (af t47)) 0)) [.slice none 0 0, .int .i64 0]) [.int .i64 0, .int .i64 0]
def AB (p0 : Option Addr) (p1 : Int) (p2 : Int) (K : Option Addr → Int → HP) : HP :=
 nn p0 fun t21 =>
 fX (t21.add 5) fun t23 =>
 bif t23 then (
 K none 11) else
 bif (decide ((p1 : Int) < 1)) then (
 zj p0 p1 p2 true K) else
 bif (decide ((999 : Int) < p1)) then (
 zj p0 p1 p2 true K) else
 zj p0 p1 p2 (decide ((p2 : Int) < 1)) K
def adb (xs : List Value) (K : Value → HP) : HP :=
 arity xs 3 <|
 bu (xs.getD 0 undef) fun p0 =>
 ak .i64 (xs.getD 1 undef) fun p1 =>
 ak .i64 (xs.getD 2 undef) fun p2 =>
 AB p0 p1 p2 (fun r0 r1 => K (.tuple #[.pointer r0, .int .i64 r1]))
def DL (p0 : Option Addr) (K : Int → HP) : HP :=
 nn p0 fun t4 =>
 ag .i64 (t4.add 6) fun t6 =>
 K t6
def Ur (xs : List Value) (K : Value → HP) : HP :=
 arity xs 1 <|
 bu (xs.getD 0 undef) fun p0 =>
 DL p0 (fun r0 => K (.int .i64 r0))
def y8 (t3 : Sl) (t8 : Sl) (t44 : Sl) (t45 : Int) (t46 : Int) (K : Sl → HP) (R3 : List Value → HP) : HP :=
 R3 [.slice t8.a t8.len t8.cap, .int .i64 (ay (t46 + 1))]
def yI (t3 : Sl) (t8 : Sl) (t10 : Option Addr) (t44 : Sl) (t45 : Int) (t46 : Int) (t60 : Bool) (K : Sl → HP) (R3 : List Value → HP) : HP :=
 bif t60 then (
 az #[.pointer t10] fun t63 =>
 app 1 8 #[.pointer none] t8 (⟨some (af t63), 1, 1⟩ : Sl) fun t64 =>
 y8 t3 t64 t44 t45 t46 K R3) else
 y8 t3 t8 t44 t45 t46 K R3
def pM (p0 : Option Addr) (K : Sl → HP) : HP :=
 nn p0 fun t12 =>
 aB (t12.add 1) fun t14 =>
 oI 1 #[.bool false] (t14.len : Nat) (t14.len : Nat) fun t16 =>
 nn p0 fun t18 =>
 gp (t18.add 2) fun t20 =>
 nn p0 fun t22 =>
 gp (t22.add 3) fun t24 =>
 az #[.map t20, .map t24] fun t25 =>
 loop (σ := List Value) (fun R1 vs1 =>
 ak .i64 (vs1.getD 0 undef) fun t27 =>
 bif (decide ((t27 : Int) < (2 : Nat))) then (
 aL (⟨some (af t25), 2, 2⟩ : Sl) 1 t27 fun t29 =>
 gp t29 fun t30 =>
 mc t30 fun t32 =>
 loop (σ := List Value) (fun R2 vs2 =>
 ki t32 (
 R1 [.int .i64 (ay (t27 + 1))]) fun t33k t33v =>
 mQ t32 fun t35k t35v =>
 rF t35k fun t35k =>
 lW .i64 t35v fun t35v =>
 aL t16 1 t35v fun t39 =>
 aq t39 0 [.bool true] (
 R2 [])) []) else
 nn p0 fun t42 =>
 aB (t42.add 1) fun t44 =>
 loop (σ := List Value) (fun R3 vs3 =>
 bA (vs3.getD 0 undef) fun t8 =>
 ak .i64 (vs3.getD 1 undef) fun t46 =>
 bif (decide ((t46 : Int) < (t44.len : Nat))) then (
 aL t44 1 t46 fun t49 =>
 ct t49 fun t50 =>
 aL t16 1 t46 fun t53 =>
 fX t53 fun t54 =>
 bif t54 then (
 yI t16 t8 t50 t44 (t44.len : Nat) t46 true K R3) else
 nn t50 fun t57 =>
 fX (t57.add 3) fun t59 =>
 yI t16 t8 t50 t44 (t44.len : Nat) t46 t59 K R3) else
 K t8) [.slice none 0 0, .int .i64 0]) [.int .i64 0]
def adP (xs : List Value) (K : Value → HP) : HP :=
 arity xs 1 <|
 bu (xs.getD 0 undef) fun p0 =>
 pM p0 (fun r0 => K (.slice r0.a r0.len r0.cap))
def Dr (p0 : Option Addr) (K : Int → Int → HP) : HP :=
 nn p0 fun t7 =>
 fX (t7.add 5) fun t9 =>
 bif t9 then (
 K 0 0) else
 pM p0 fun t11 =>
 loop (σ := List Value) (fun R1 vs1 =>
 ak .i64 (vs1.getD 0 undef) fun t3 =>
 ak .i64 (vs1.getD 1 undef) fun t13 =>
 bif (decide ((t13 : Int) < (t11.len : Nat))) then (
 aL t11 1 t13 fun t15 =>
 ct t15 fun t16 =>
 nn t16 fun t19 =>
 aB (t19.add 2) fun t21 =>
 R1 [.int .i64 (ay (t3 + (t21.len : Nat))), .int .i64 (ay (t13 + 1))]) else
 nn p0 fun t26 =>
 aB (t26.add 4) fun t28 =>
 K (t28.len : Nat) t3) [.int .i64 0, .int .i64 0]
def abc (xs : List Value) (K : Value → HP) : HP :=
 arity xs 1 <|
 bu (xs.getD 0 undef) fun p0 =>
 Dr p0 (fun r0 r1 => K (.tuple #[.int .i64 r0, .int .i64 r1]))
def AW (p0 : Option Addr) (p1 : Int) (K : Bool → HP) : HP :=
 loop (σ := List Value) (fun R1 vs1 =>
 ak .i64 (vs1.getD 0 undef) fun t5 =>
 nn p0 fun t10 =>
 aB (t10.add 1) fun t12 =>
 bif (decide ((t5 : Int) < (t12.len : Nat))) then (
 nn p0 fun t18 =>
 aB (t18.add 1) fun t20 =>
 aL t20 2 t5 fun t22 =>
 ag .i64 (t22.add 1) fun t24 =>
 bif (decide ((t24 : Int) = p1)) then (
 K true) else
 R1 [.int .i64 (ay (t5 + 1))]) else
 loop (σ := List Value) (fun R2 vs2 =>
 ak .i64 (vs2.getD 0 undef) fun t6 =>
 nn p0 fun t29 =>
 aB (t29.add 2) fun t31 =>
 bif (decide ((t6 : Int) < (t31.len : Nat))) then (
 nn p0 fun t37 =>
 aB (t37.add 2) fun t39 =>
 aL t39 2 t6 fun t41 =>
 ag .i64 (t41.add 1) fun t43 =>
 bif (decide ((t43 : Int) = p1)) then (
 K true) else
 R2 [.int .i64 (ay (t6 + 1))]) else
 loop (σ := List Value) (fun R3 vs3 =>
 ak .i64 (vs3.getD 0 undef) fun t7 =>
 nn p0 fun t48 =>
 aB (t48.add 3) fun t50 =>
 bif (decide ((t7 : Int) < (t50.len : Nat))) then (
 nn p0 fun t56 =>
 aB (t56.add 3) fun t58 =>
 aL t58 3 t7 fun t60 =>
 ag .i64 (t60.add 2) fun t62 =>
 bif (decide ((t62 : Int) = p1)) then (
 K true) else
 R3 [.int .i64 (ay (t7 + 1))]) else
 K false) [.int .i64 0]) [.int .i64 0]) [.int .i64 0]
def RY (xs : List Value) (K : Value → HP) : HP :=
 arity xs 2 <|
 bu (xs.getD 0 undef) fun p0 =>
 ak .i64 (xs.getD 1 undef) fun p1 =>
 AW p0 p1 (fun r0 => K (.bool r0))
def HB (t0 : Option Addr) (t3 : Int) (t4 : Int) (K : Int → HP) (R1 : List Value → HP) : HP :=
 R1 [.int .i64 t3, .int .i64 (ay (t4 + 1))]
def Cr (p0 : Option Addr) (K : Int → HP) : HP :=
 loop (σ := List Value) (fun R1 vs1 =>
 ak .i64 (vs1.getD 0 undef) fun t3 =>
 ak .i64 (vs1.getD 1 undef) fun t4 =>
 nn p0 fun t7 =>
 aB (t7.add 0) fun t9 =>
 bif (decide ((t4 : Int) < (t9.len : Nat))) then (
 AW p0 t4 fun t16 =>
 bif t16 then (
 nn p0 fun t19 =>
 aB (t19.add 0) fun t21 =>
 aL t21 3 t4 fun t23 =>
 aB (t23.add 2) fun t25 =>
 HB p0 (ay (t3 + (t25.len : Nat))) t4 K R1) else
 HB p0 t3 t4 K R1) else
 K t3) [.int .i64 0, .int .i64 0]
def U5 (xs : List Value) (K : Value → HP) : HP :=
 arity xs 1 <|
 bu (xs.getD 0 undef) fun p0 =>
 Cr p0 (fun r0 => K (.int .i64 r0))
def GG (C : Cx) (t0 : Option Addr) (t1 : Option Addr) (t5 : Sl) (t8 : Int) (t111 : Bool) (K : Bool → HP) (R1 : List Value → HP) : HP :=
 bif t111 then (
 K false) else
 R1 [.int .i64 (ay (t8 + 1))]
def BT (C : Cx) (t0 : Option Addr) (t1 : Option Addr) (t5 : Sl) (t63 : Bool) (K : Bool → HP) : HP :=
 bif t63 then (
 K false) else
 loop (σ := List Value) (fun R1 vs1 =>
 ak .i64 (vs1.getD 0 undef) fun t8 =>
 bif (decide ((t8 : Int) < (t5.len : Nat))) then (
 aL t5 1 t8 fun t74 =>
 bE t74 fun t75 =>
 mZ t0 t75 fun t76a t76b =>
 aL t5 1 t8 fun t81 =>
 bE t81 fun t82 =>
 nn t1 fun t84 =>
 aB (t84.add 1) fun t86 =>
 aL t86 2 t8 fun t88 =>
 bE (t88.add 0) fun t90 =>
 bif (!decide (t82 = t90)) then (
 GG C t0 t1 t5 t8 true K R1) else
 ef t76a fun t94 =>
 nn t1 fun t96 =>
 aB (t96.add 0) fun t98 =>
 nn t1 fun t100 =>
 aB (t100.add 1) fun t102 =>
 aL t102 2 t8 fun t104 =>
 ag .i64 (t104.add 1) fun t106 =>
 aL t98 3 t106 fun t107 =>
 bE (t107.add 0) fun t109 =>
 GG C t0 t1 t5 t8 (!decide (t94 = t109)) K R1) else
 K true) [.int .i64 0]
def MK (C : Cx) (t0 : Option Addr) (t1 : Option Addr) (t26 : Bool) (K : Bool → HP) : HP :=
 bif t26 then (
 K false) else
 lX C t0 fun t28 =>
 nn t1 fun t30 =>
 fX (t30.add 5) fun t32 =>
 bif t32 then (
 K (decide (((t28.len : Nat) : Int) = 0))) else
 Dr t0 fun t38a t38b =>
 nn t1 fun t44 =>
 aB (t44.add 1) fun t46 =>
 bif (!decide (((t28.len : Nat) : Int) = (t46.len : Nat))) then (
 BT C t0 t1 t28 true K) else
 nn t1 fun t52 =>
 aB (t52.add 3) fun t54 =>
 bif (!decide ((t38a : Int) = (t54.len : Nat))) then (
 BT C t0 t1 t28 true K) else
 Cr t1 fun t61 =>
 BT C t0 t1 t28 (!decide ((t38b : Int) = t61)) K
def Bu (C : Cx) (p0 : Option Addr) (p1 : Option Addr) (K : Bool → HP) : HP :=
 nn p1 fun t14 =>
 fX (t14.add 5) fun t16 =>
 jH p0 fun t12 =>
 held (fX (t14.add 5) fun t16_1 =>
 fun _ => (Value.bool t16_1) = (Value.bool t16)) (
 bif (!(t12 == t16)) then (
 held (fun _ => True) (
 MK C p0 p1 true K)) else
 nn p1 fun t22 =>
 ag .i64 (t22.add 6) fun t24 =>
 DL p0 fun t20 =>
 held (ag .i64 (t22.add 6) fun t24_1 =>
 fun _ => (Value.int .i64 t24_1) = (Value.int .i64 t24)) (
 MK C p0 p1 (!decide ((t20 : Int) = t24)) K))
def QJ (C : Cx) (xs : List Value) (K : Value → HP) : HP :=
 arity xs 2 <|
 bu (xs.getD 0 undef) fun p0 =>
 bu (xs.getD 1 undef) fun p1 =>
 Bu C p0 p1 (fun r0 => K (.bool r0))
def B6 (C : Cx) (p0 : Option Addr) (p1 : Option Addr) (K : Int → HP) : HP :=
 Bu C p0 p1 fun t7 =>
 bif t7 then (
 K 0) else
 K 1
def OJ (C : Cx) (xs : List Value) (K : Value → HP) : HP :=
 arity xs 2 <|
 bu (xs.getD 0 undef) fun p0 =>
 bu (xs.getD 1 undef) fun p1 =>
 B6 C p0 p1 (fun r0 => K (.int .i64 r0))
def B1 (p0 : aZ) (K : Bool → HP) : HP :=
 az #[.int .i64 p0.Kind, .int .i64 p0.bR, .int .i64 p0.Seq, .int .i64 p0.Next, .int .i64 p0.bW, .int .i64 p0.bV, .int .i64 p0.Time, .int .i64 p0.Flags, .int .i64 p0.Body, .int .i64 p0.bQ, .int .i64 p0.Origin, .slice p0.Data.a p0.Data.len p0.Data.cap] fun t1 =>
 ag .i64 ((af t1).add 0) fun t4 =>
 bif (decide ((t4 : Int) = 2)) then (
 K true) else
 ag .i64 ((af t1).add 0) fun t8 =>
 bif (decide ((t8 : Int) = 3)) then (
 K true) else
 ag .i64 ((af t1).add 0) fun t13 =>
 K (decide ((t13 : Int) = 4))
def aa2 (xs : List Value) (K : Value → HP) : HP :=
 arity xs 1 <|
 fU (xs.getD 0 undef) fun p0 =>
 B1 p0 (fun r0 => K (.bool r0))
def M6 (t0 : Option Addr) (t3 : Sl) (t4 : Int) (t5 : Int) (K : Sl → HP) (R1 : List Value → HP) (R2 : List Value → HP) : HP :=
 R2 [.slice t3.a t3.len t3.cap, .int .i64 (ay (t5 + 1))]
def CK (p0 : Option Addr) (K : Sl → HP) : HP :=
 loop (σ := List Value) (fun R1 vs1 =>
 bA (vs1.getD 0 undef) fun t3 =>
 ak .i64 (vs1.getD 1 undef) fun t4 =>
 nn p0 fun t9 =>
 aB (t9.add 4) fun t11 =>
 bif (decide ((t4 : Int) < (t11.len : Nat))) then (
 loop (σ := List Value) (fun R2 vs2 =>
 bA (vs2.getD 0 undef) fun t3_1 =>
 ak .i64 (vs2.getD 1 undef) fun t5 =>
 nn p0 fun t18 =>
 aB (t18.add 4) fun t20 =>
 aL t20 4 t4 fun t22 =>
 aB (t22.add 3) fun t24 =>
 bif (decide ((t5 : Int) < (t24.len : Nat))) then (
 nn p0 fun t30 =>
 aB (t30.add 4) fun t32 =>
 aL t32 4 t4 fun t34 =>
 aB (t34.add 3) fun t36 =>
 aL t36 14 t5 fun t38 =>
 qA t38 fun t39 =>
 az #[.int .i64 0, .int .i64 0, .int .i64 0, .int .i64 0, .int .i64 0, .int .i64 0, .int .i64 0, .int .i64 0, .int .i64 0, .int .i64 0, .int .i64 0, .int .i64 0, .int .i64 0, .slice none 0 0] fun t6 =>
 aq (af t6) 0 [.int .i64 t39.At, .int .i64 t39.eL, .int .i64 t39.iw, .int .i64 t39.iz, .int .i64 t39.iJ, .int .i64 t39.iM, .int .i64 t39.ir, .int .i64 t39.iu, .int .i64 t39.iI, .int .i64 t39.iE, .int .i64 t39.iK, .int .i64 t39.iG, .int .i64 t39.iH, .slice t39.cU.a t39.cU.len t39.cU.cap] (
 bq ((af t6).add 2) fun t41 =>
 B1 t41 fun t42 =>
 bif t42 then (
 nn p0 fun t45 =>
 aB (t45.add 4) fun t47 =>
 aL t47 4 t4 fun t49 =>
 ag .i64 (t49.add 0) fun t51 =>
 ag .i64 ((af t6).add 0) fun t53 =>
 bq ((af t6).add 2) fun t55 =>
 az #[.int .i64 t51, .int .i64 t53, .int .i64 t55.Kind, .int .i64 t55.bR, .int .i64 t55.Seq, .int .i64 t55.Next, .int .i64 t55.bW, .int .i64 t55.bV, .int .i64 t55.Time, .int .i64 t55.Flags, .int .i64 t55.Body, .int .i64 t55.bQ, .int .i64 t55.Origin, .slice t55.Data.a t55.Data.len t55.Data.cap] fun t57 =>
 app 14 128 #[.int .i64 0, .int .i64 0, .int .i64 0, .int .i64 0, .int .i64 0, .int .i64 0, .int .i64 0, .int .i64 0, .int .i64 0, .int .i64 0, .int .i64 0, .int .i64 0, .int .i64 0, .slice none 0 0] t3_1 (⟨some (af t57), 1, 1⟩ : Sl) fun t58 =>
 M6 p0 t58 t4 t5 K R1 R2) else
 M6 p0 t3_1 t4 t5 K R1 R2)) else
 R1 [.slice t3_1.a t3_1.len t3_1.cap, .int .i64 (ay (t4 + 1))]) [.slice t3.a t3.len t3.cap, .int .i64 0]) else
 K t3) [.slice none 0 0, .int .i64 0]
def NK (xs : List Value) (K : Value → HP) : HP :=
 arity xs 1 <|
 bu (xs.getD 0 undef) fun p0 =>
 CK p0 (fun r0 => K (.slice r0.a r0.len r0.cap))
end Go.Ph.S
end
section
set_option linter.all false
set_option maxRecDepth 100000
namespace Go.Ph.S
def lp (t2 : Nat) (t3 : Nat) (t44 : Bool) (K : Bool → HP) : HP :=
 bif t44 then (
 K false) else
 ag .i64 ((af t2).add 6) fun t46 =>
 ag .i64 ((af t3).add 6) fun t48 =>
 bif (decide ((t46 : Int) = t48)) then (
 ag .i64 ((af t2).add 7) fun t52 =>
 ag .i64 ((af t3).add 7) fun t54 =>
 bif (decide ((t52 : Int) = t54)) then (
 ag .i64 ((af t2).add 8) fun t59 =>
 ag .i64 ((af t3).add 8) fun t61 =>
 bif (decide ((t59 : Int) = t61)) then (
 ag .i64 ((af t2).add 9) fun t66 =>
 ag .i64 ((af t3).add 9) fun t68 =>
 bif (decide ((t66 : Int) = t68)) then (
 ag .i64 ((af t2).add 10) fun t73 =>
 ag .i64 ((af t3).add 10) fun t75 =>
 bif (decide ((t73 : Int) = t75)) then (
 aB ((af t2).add 11) fun t80 =>
 ef t80 fun t81 =>
 aB ((af t3).add 11) fun t83 =>
 ef t83 fun t84 =>
 K (decide (t81 = t84))) else
 K false) else
 K false) else
 K false) else
 K false) else
 K false
def kS (p0 : aZ) (p1 : aZ) (K : Bool → HP) : HP :=
 az #[.int .i64 p0.Kind, .int .i64 p0.bR, .int .i64 p0.Seq, .int .i64 p0.Next, .int .i64 p0.bW, .int .i64 p0.bV, .int .i64 p0.Time, .int .i64 p0.Flags, .int .i64 p0.Body, .int .i64 p0.bQ, .int .i64 p0.Origin, .slice p0.Data.a p0.Data.len p0.Data.cap] fun t2 =>
 az #[.int .i64 p1.Kind, .int .i64 p1.bR, .int .i64 p1.Seq, .int .i64 p1.Next, .int .i64 p1.bW, .int .i64 p1.bV, .int .i64 p1.Time, .int .i64 p1.Flags, .int .i64 p1.Body, .int .i64 p1.bQ, .int .i64 p1.Origin, .slice p1.Data.a p1.Data.len p1.Data.cap] fun t3 =>
 ag .i64 ((af t2).add 0) fun t6 =>
 ag .i64 ((af t3).add 0) fun t8 =>
 bif (!decide ((t6 : Int) = t8)) then (
 lp t2 t3 true K) else
 ag .i64 ((af t2).add 1) fun t12 =>
 ag .i64 ((af t3).add 1) fun t14 =>
 bif (!decide ((t12 : Int) = t14)) then (
 lp t2 t3 true K) else
 ag .i64 ((af t2).add 2) fun t19 =>
 ag .i64 ((af t3).add 2) fun t21 =>
 bif (!decide ((t19 : Int) = t21)) then (
 lp t2 t3 true K) else
 ag .i64 ((af t2).add 3) fun t26 =>
 ag .i64 ((af t3).add 3) fun t28 =>
 bif (!decide ((t26 : Int) = t28)) then (
 lp t2 t3 true K) else
 ag .i64 ((af t2).add 4) fun t33 =>
 ag .i64 ((af t3).add 4) fun t35 =>
 bif (!decide ((t33 : Int) = t35)) then (
 lp t2 t3 true K) else
 ag .i64 ((af t2).add 5) fun t40 =>
 ag .i64 ((af t3).add 5) fun t42 =>
 lp t2 t3 (!decide ((t40 : Int) = t42)) K
def afj (xs : List Value) (K : Value → HP) : HP :=
 arity xs 2 <|
 fU (xs.getD 0 undef) fun p0 =>
 fU (xs.getD 1 undef) fun p1 =>
 kS p0 p1 (fun r0 => K (.bool r0))
def Ac (t0 : Sl) (t1 : Sl) (t5 : Int) (t54 : Bool) (K : Bool → HP) (R1 : List Value → HP) : HP :=
 bif t54 then (
 K false) else
 R1 [.int .i64 (ay (t5 + 1))]
def zv (p0 : Sl) (p1 : Sl) (K : Bool → HP) : HP :=
 bif (!decide (((p0.len : Nat) : Int) = (p1.len : Nat))) then (
 K false) else
 loop (σ := List Value) (fun R1 vs1 =>
 ak .i64 (vs1.getD 0 undef) fun t5 =>
 bif (decide ((t5 : Int) < (p0.len : Nat))) then (
 aL p0 14 t5 fun t19 =>
 ag .i64 (t19.add 0) fun t21 =>
 aL p1 14 t5 fun t24 =>
 ag .i64 (t24.add 0) fun t26 =>
 bif (!decide ((t21 : Int) = t26)) then (
 Ac p0 p1 t5 true K R1) else
 aL p0 14 t5 fun t31 =>
 ag .i64 (t31.add 1) fun t33 =>
 aL p1 14 t5 fun t36 =>
 ag .i64 (t36.add 1) fun t38 =>
 bif (!decide ((t33 : Int) = t38)) then (
 Ac p0 p1 t5 true K R1) else
 aL p0 14 t5 fun t44 =>
 bq (t44.add 2) fun t46 =>
 aL p1 14 t5 fun t49 =>
 bq (t49.add 2) fun t51 =>
 kS t46 t51 fun t52 =>
 Ac p0 p1 t5 (!t52) K R1) else
 K true) [.int .i64 0]
def Y2 (xs : List Value) (K : Value → HP) : HP :=
 arity xs 2 <|
 bA (xs.getD 0 undef) fun p0 =>
 bA (xs.getD 1 undef) fun p1 =>
 zv p0 p1 (fun r0 => K (.bool r0))
def zb (p0 : Option Addr) (K : Int → HP) : HP :=
 nn p0 fun t4 =>
 aB (t4.add 4) fun t6 =>
 bif (decide (((t6.len : Nat) : Int) = 0)) then (
 K 0) else
 nn p0 fun t10 =>
 aB (t10.add 4) fun t12 =>
 nn p0 fun t14 =>
 aB (t14.add 4) fun t16 =>
 aL t12 4 (ay ((t16.len : Nat) - 1)) fun t19 =>
 ag .i64 (t19.add 0) fun t21 =>
 K t21
def TE (xs : List Value) (K : Value → HP) : HP :=
 arity xs 1 <|
 bu (xs.getD 0 undef) fun p0 =>
 zb p0 (fun r0 => K (.int .i64 r0))
def Bd (p0 : Option Addr) (K : Int → HP) : HP :=
 loop (σ := List Value) (fun R1 vs1 =>
 ak .i64 (vs1.getD 0 undef) fun t3 =>
 ak .i64 (vs1.getD 1 undef) fun t4 =>
 nn p0 fun t7 =>
 aB (t7.add 4) fun t9 =>
 bif (decide ((t4 : Int) < (t9.len : Nat))) then (
 nn p0 fun t16 =>
 aB (t16.add 4) fun t18 =>
 aL t18 4 t4 fun t20 =>
 ag .i64 (t20.add 2) fun t22 =>
 R1 [.int .i64 (ay (t3 + t22)), .int .i64 (ay (t4 + 1))]) else
 K t3) [.int .i64 0, .int .i64 0]
def YY (xs : List Value) (K : Value → HP) : HP :=
 arity xs 1 <|
 bu (xs.getD 0 undef) fun p0 =>
 Bd p0 (fun r0 => K (.int .i64 r0))
def DD (p0 : Option Addr) (K : Sl → HP) : HP :=
 nn p0 fun t7 =>
 aB (t7.add 4) fun t9 =>
 loop (σ := List Value) (fun R1 vs1 =>
 bA (vs1.getD 0 undef) fun t3 =>
 ak .i64 (vs1.getD 1 undef) fun t11 =>
 bif (decide ((t11 : Int) < (t9.len : Nat))) then (
 aL t9 4 t11 fun t13 =>
 fS t13 fun t14 =>
 az #[.int .i64 0, .int .i64 0, .int .i64 0, .slice none 0 0] fun t5 =>
 aq (af t5) 0 [.int .i64 t14.seq, .int .i64 t14.size, .int .i64 t14.broken, .slice t14.l.a t14.l.len t14.l.cap] (
 ag .i64 ((af t5).add 0) fun t17 =>
 az #[.int .i64 t17] fun t18 =>
 app 1 8 #[.int .i64 0] t3 (⟨some (af t18), 1, 1⟩ : Sl) fun t19 =>
 R1 [.slice t19.a t19.len t19.cap, .int .i64 (ay (t11 + 1))])) else
 K t3) [.slice none 0 0, .int .i64 0]
def abu (xs : List Value) (K : Value → HP) : HP :=
 arity xs 1 <|
 bu (xs.getD 0 undef) fun p0 =>
 DD p0 (fun r0 => K (.slice r0.a r0.len r0.cap))
def xM (t0 : Option Addr) (t1 : Option Addr) (t35 : Bool) (K : Bool → HP) : HP :=
 bif t35 then (
 K false) else
 DD t0 fun t37 =>
 nn t1 fun t41 =>
 aB (t41.add 4) fun t43 =>
 bif (!decide (((t37.len : Nat) : Int) = (t43.len : Nat))) then (
 K false) else
 loop (σ := List Value) (fun R1 vs1 =>
 ak .i64 (vs1.getD 0 undef) fun t6 =>
 bif (decide ((t6 : Int) < (t37.len : Nat))) then (
 aL t37 1 t6 fun t54 =>
 ag .i64 t54 fun t55 =>
 nn t1 fun t57 =>
 aB (t57.add 4) fun t59 =>
 aL t59 4 t6 fun t61 =>
 ag .i64 (t61.add 0) fun t63 =>
 bif (!decide ((t55 : Int) = t63)) then (
 K false) else
 R1 [.int .i64 (ay (t6 + 1))]) else
 K true) [.int .i64 0]
def y4 (p0 : Option Addr) (p1 : Option Addr) (K : Bool → HP) : HP :=
 jE p0 fun t8 =>
 CK p1 fun t10 =>
 zv t8 t10 fun t11 =>
 bif (!t11) then (
 held (fun _ => True) (
 xM p0 p1 true K)) else
 nn p1 fun t17 =>
 ag .i64 (t17.add 3) fun t19 =>
 jV p0 fun t15 =>
 held (ag .i64 (t17.add 3) fun t19_1 =>
 fun _ => (Value.int .i64 t19_1) = (Value.int .i64 t19)) (
 bif (!decide ((t15 : Int) = t19)) then (
 xM p0 p1 true K) else
 jN p0 fun t24 =>
 zb p1 fun t26 =>
 bif (!decide ((t24 : Int) = t26)) then (
 xM p0 p1 true K) else
 mP p0 fun t31 =>
 Bd p1 fun t33 =>
 xM p0 p1 (!decide ((t31 : Int) = t33)) K)
def SQ (xs : List Value) (K : Value → HP) : HP :=
 arity xs 2 <|
 bu (xs.getD 0 undef) fun p0 =>
 bu (xs.getD 1 undef) fun p1 =>
 y4 p0 p1 (fun r0 => K (.bool r0))
def C8 (C : Cx) (t9 : Option Addr) (t11 : Option Addr) (t89 : Bool) (K : Bool → HP) : HP :=
 bif t89 then (
 K false) else
 bif t9.isNone then (
 K true) else
 y4 t9 t11 fun t95 =>
 K t95
def JP (C : Cx) (t1 : Int) (t2 : Int) (t7 : Option Addr) (t8 : Option Addr) (t53 : Bool) (K : Bool → HP) : HP :=
 bif t53 then (
 bif t7.isNone then (
 K t8.isNone) else
 K false) else
 j7 C t7 t1 t2 fun t64a t64b =>
 AB t8 t1 t2 fun t71a t71b =>
 bif (!decide ((t64b : Int) = t71b)) then (
 C8 C t64a t71a true K) else
 bif (!(t64a.isNone == t71a.isNone)) then (
 C8 C t64a t71a true K) else
 B6 C t7 t8 fun t87 =>
 C8 C t64a t71a (!decide ((t87 : Int) = 0)) K
def zc (C : Cx) (t0 : Sl) (t1 : Int) (t2 : Int) (t31 : Bool) (K : Bool → HP) : HP :=
 bif t31 then (
 bif (decide ((20 : Int) < (t0.len : Nat))) then (
 K true) else
 gO t1 t2 fun t38 =>
 sE t1 t2 fun t41 =>
 K (decide (t38 = t41))) else
 mL t0 100000 fun t45 =>
 By t0 100000 fun t47 =>
 bif t45.isNone then (
 JP C t1 t2 t45 t47 true K) else
 JP C t1 t2 t45 t47 t47.isNone K
def Wy (C : Cx) (p0 : Sl) (p1 : Int) (p2 : Int) (K : Bool → HP) : HP :=
 nM C fun t13 =>
 bif (!t13) then (
 K false) else
 bif (decide ((20 : Int) < (p0.len : Nat))) then (
 zc C p0 p1 p2 true K) else
 zQ p0 2000 fun t20 =>
 bif (decide ((2000 : Int) < t20)) then (
 zc C p0 p1 p2 true K) else
 gO p1 p2 fun t26 =>
 sE p1 p2 fun t29 =>
 zc C p0 p1 p2 (!decide (t26 = t29)) K
def rD (t0 : Int) (t1 : Int) (t4 : Nat) (t14 : Bool) (K : oW → HP) : HP :=
 bif t14 then (
 aq (af t4) 0 [.int .i64 (-1), .int .i64 0] (
 wI (af t4) fun r4 =>
 K r4)) else
 aq (af t4) 0 [.int .i64 t0, .int .i64 t1] (
 wI (af t4) fun r4 =>
 K r4)
def sK (p0 : Int) (p1 : Int) (K : oW → HP) : HP :=
 az #[.int .i64 0, .int .i64 0] fun t4 =>
 bif (decide ((p0 : Int) < 0)) then (
 rD p0 p1 t4 true K) else
 bif (decide ((4611686018427387904 : Int) ≤ p0)) then (
 rD p0 p1 t4 true K) else
 rD p0 p1 t4 (decide ((p1 : Int) = 0)) K
def XI (xs : List Value) (K : Value → HP) : HP :=
 arity xs 2 <|
 ak .i64 (xs.getD 0 undef) fun p0 =>
 ak .i64 (xs.getD 1 undef) fun p1 =>
 sK p0 p1 (fun r0 => K (r0.v))
def kr (p0 : Option Addr) (p1 : Int) (K : HP) : HP :=
 sK p1 11 fun t6 =>
 nn p0 fun t7 =>
 aq (t7.add 9) 0 [.int .i64 t6.left, .int .i64 t6.code] (
 K)
def Tv (xs : List Value) (K : Value → HP) : HP :=
 arity xs 2 <|
 bu (xs.getD 0 undef) fun p0 =>
 ak .i64 (xs.getD 1 undef) fun p1 =>
 kr p0 p1 (K (.tuple #[]))
def oU (p0 : aZ) (K : Bool → HP) : HP :=
 az #[.int .i64 p0.Kind, .int .i64 p0.bR, .int .i64 p0.Seq, .int .i64 p0.Next, .int .i64 p0.bW, .int .i64 p0.bV, .int .i64 p0.Time, .int .i64 p0.Flags, .int .i64 p0.Body, .int .i64 p0.bQ, .int .i64 p0.Origin, .slice p0.Data.a p0.Data.len p0.Data.cap] fun t1 =>
 aB ((af t1).add 11) fun t4 =>
 K (decide (((t4.len : Nat) : Int) ≤ 1000))
def Y0 (xs : List Value) (K : Value → HP) : HP :=
 arity xs 1 <|
 fU (xs.getD 0 undef) fun p0 =>
 oU p0 (fun r0 => K (.bool r0))
def vR (t3 : Nat) (t4 : Nat) (t5 : Int) (K : gE → HP) : HP :=
 ag .i64 ((af t3).add 0) fun t28 =>
 bE ((af t3).add 1) fun t30 =>
 lz t30 0 t5 fun t32 =>
 aq (af t4) 0 [.int .i64 t28, .string t32] (
 jb (af t4) fun r4 =>
 K r4)
def qx (p0 : Option Addr) (p1 : gE) (K : gE → HP) : HP :=
 az #[.int .i64 p1.place, .string p1.bytes] fun t3 =>
 az #[.int .i64 0, .string (⟨#[]⟩ : ByteArray)] fun t4 =>
 nn p0 fun t7 =>
 aB t7 fun t8 =>
 bif (decide ((0 : Int) < (t8.len : Nat))) then (
 nn p0 fun t12 =>
 aB t12 fun t13 =>
 aL t13 1 0 fun t14 =>
 ag .i64 t14 fun t15 =>
 bE ((af t3).add 1) fun t18 =>
 nn p0 fun t23 =>
 aB t23 fun t24 =>
 eY t24 1 1 (t24.len : Nat) (t24.cap : Nat) fun t25 =>
 nn p0 fun t26 =>
 aq t26 0 [.slice t25.a t25.len t25.cap] (
 vR t3 t4 (if ((t18.size : Nat) : Int) < (if (0 : Int) > t15 then 0 else t15) then (t18.size : Nat) else (if (0 : Int) > t15 then 0 else t15)) K)) else
 vR t3 t4 0 K
def Uz (xs : List Value) (K : Value → HP) : HP :=
 arity xs 2 <|
 bu (xs.getD 0 undef) fun p0 =>
 xU (xs.getD 1 undef) fun p1 =>
 qx p0 p1 (fun r0 => K (r0.v))
def pN (t0 : Option Addr) (t1 : Int) (t7 : Nat) (t9 : Option Addr) (t22 : Sl) (t23 : Int) (t24 : Int) (t38 : Sl) (t39 : Int) (t40 : Int) (K : Int → HP) (R1 : List Value → HP) (R2 : List Value → HP) : HP :=
 R2 [.int .i64 (ay (t40 + 1))]
def vC (t0 : Option Addr) (t1 : Int) (t73 : Sl) (t74 : Int) (t75 : Int) (K : Int → HP) (R3 : List Value → HP) : HP :=
 R3 [.int .i64 (ay (t75 + 1))]
def nX (p0 : Option Addr) (p1 : Int) (p2 : Sl) (K : Int → HP) : HP :=
 nn p0 fun t16 =>
 fX (t16.add 5) fun t18 =>
 bif (!t18) then (
 K 13) else
 az #[.slice none 0 0] fun t7 =>
 aq (af t7) 0 [.slice p2.a p2.len p2.cap] (
 pM p0 fun t22 =>
 loop (σ := List Value) (fun R1 vs1 =>
 ak .i64 (vs1.getD 0 undef) fun t24 =>
 bif (decide ((t24 : Int) < (t22.len : Nat))) then (
 aL t22 1 t24 fun t26 =>
 ct t26 fun t27 =>
 nn t27 fun t30 =>
 bE (t30.add 1) fun t32 =>
 nn t27 fun t33 =>
 aq (t33.add 0) 0 [.string t32] (
 nn t27 fun t36 =>
 aB (t36.add 2) fun t38 =>
 loop (σ := List Value) (fun R2 vs2 =>
 ak .i64 (vs2.getD 0 undef) fun t40 =>
 bif (decide ((t40 : Int) < (t38.len : Nat))) then (
 aL t38 2 t40 fun t42 =>
 jb t42 fun t43 =>
 az #[.int .i64 0, .string (⟨#[]⟩ : ByteArray)] fun t11 =>
 aq (af t11) 0 [.int .i64 t43.place, .string t43.bytes] (
 jb (af t11) fun t44 =>
 qx (some (af t7)) t44 fun t45 =>
 az #[.int .i64 0, .string (⟨#[]⟩ : ByteArray)] fun t12 =>
 aq (af t12) 0 [.int .i64 t45.place, .string t45.bytes] (
 bE ((af t12).add 1) fun t47 =>
 bif (!decide (t47 = (⟨#[]⟩ : ByteArray))) then (
 jb (af t12) fun t50 =>
 nn t27 fun t52 =>
 bE (t52.add 0) fun t54 =>
 kM t50 t54 fun t55 =>
 nn t27 fun t56 =>
 aq (t56.add 0) 0 [.string t55] (
 pN p0 p1 t7 t27 t22 (t22.len : Nat) t24 t38 (t38.len : Nat) t40 K R1 R2)) else
 pN p0 p1 t7 t27 t22 (t22.len : Nat) t24 t38 (t38.len : Nat) t40 K R1 R2))) else
 nL t27 (
 R1 [.int .i64 (ay (t24 + 1))])) [.int .i64 0])) else
 nn p0 fun t64 =>
 gp (t64.add 3) fun t66 =>
 ob t66 fun t67 =>
 nn p0 fun t68 =>
 aq (t68.add 2) 0 [.map t67] (
 nn p0 fun t71 =>
 aB (t71.add 4) fun t73 =>
 loop (σ := List Value) (fun R3 vs3 =>
 ak .i64 (vs3.getD 0 undef) fun t75 =>
 bif (decide ((t75 : Int) < (t73.len : Nat))) then (
 aL t73 3 t75 fun t78 =>
 oN t78 fun t79 =>
 az #[.int .i64 0, .string (⟨#[]⟩ : ByteArray), .bool false] fun t14 =>
 aq (af t14) 0 [.int .i64 t79.node, .string t79.name, .bool t79.made] (
 bif (decide ((t75 : Int) < p1)) then (
 nn p0 fun t84 =>
 gp (t84.add 2) fun t86 =>
 oN (af t14) fun t87 =>
 qR t86 t87 (
 vC p0 p1 t73 (t73.len : Nat) t75 K R3)) else
 vC p0 p1 t73 (t73.len : Nat) t75 K R3)) else
 qD p0 (
 nn p0 fun t97 =>
 aq (t97.add 5) 0 [.bool false] (
 nn p0 fun t99 =>
 aq (t99.add 7) 0 [.int .i64 (-1), .int .i64 0] (
 nn p0 fun t101 =>
 aq (t101.add 9) 0 [.int .i64 (-1), .int .i64 0] (
 K 0))))) [.int .i64 0])) [.int .i64 0])
def Xm (xs : List Value) (K : Value → HP) : HP :=
 arity xs 3 <|
 bu (xs.getD 0 undef) fun p0 =>
 ak .i64 (xs.getD 1 undef) fun p1 =>
 bA (xs.getD 2 undef) fun p2 =>
 nX p0 p1 p2 (fun r0 => K (.int .i64 r0))
def Au (C : Cx) (t0 : Int) (t1 : Sl) (t3 : Int) (t4 : Sl) (t11 : Option Addr) (t12 : Option Addr) (t14 : Sl) (t15 : Nat) (t16 : Int) (K : Bool → HP) (R1 : List Value → HP) : HP :=
 R1 [.slice t14.a t14.len t14.cap, .int .i64 (ay (t16 + 1))]
def Fi (C : Cx) (t0 : Int) (t1 : Sl) (t3 : Int) (t4 : Sl) (t11 : Option Addr) (t12 : Option Addr) (t14 : Sl) (t15 : Nat) (t16 : Int) (t92 : Bool) (K : Bool → HP) (R1 : List Value → HP) : HP :=
 bif t92 then (
 aL t1 12 t16 fun t95 =>
 bq t95 fun t96 =>
 aq (af t15) 0 [.int .i64 t96.Kind, .int .i64 t96.bR, .int .i64 t96.Seq, .int .i64 t96.Next, .int .i64 t96.bW, .int .i64 t96.bV, .int .i64 t96.Time, .int .i64 t96.Flags, .int .i64 t96.Body, .int .i64 t96.bQ, .int .i64 t96.Origin, .slice t96.Data.a t96.Data.len t96.Data.cap] (
 Au C t0 t1 t3 t4 t11 t12 t14 t15 t16 K R1)) else
 Au C t0 t1 t3 t4 t11 t12 t14 t15 t16 K R1
def wC (C : Cx) (t14 : Sl) (t21 : Sl) (t161 : Bool) (K : Bool → HP) : HP :=
 bif t161 then (
 K false) else
 loop (σ := List Value) (fun R2 vs2 =>
 ak .i64 (vs2.getD 0 undef) fun t22 =>
 bif (decide ((t22 : Int) < (t14.len : Nat))) then (
 aL t21 14 t22 fun t170 =>
 bq (t170.add 2) fun t172 =>
 aL t14 12 t22 fun t175 =>
 bq t175 fun t176 =>
 kS t172 t176 fun t177 =>
 bif (!t177) then (
 K false) else
 R2 [.int .i64 (ay (t22 + 1))]) else
 K true) [.int .i64 0]
def yM (C : Cx) (t14 : Sl) (t15 : Nat) (t20 : Option Addr) (t128 : Bool) (K : Bool → HP) : HP :=
 bif t128 then (
 K false) else
 jE t20 fun t130 =>
 bif (decide (((t130.len : Nat) : Int) < (t14.len : Nat))) then (
 wC C t14 t130 true K) else
 bif (decide ((ay ((t14.len : Nat) + 1) : Int) < (t130.len : Nat))) then (
 wC C t14 t130 true K) else
 bif (decide (((t14.len : Nat) : Int) < (t130.len : Nat))) then (
 aL t130 14 (t14.len : Nat) fun t154 =>
 bq (t154.add 2) fun t156 =>
 bq (af t15) fun t157 =>
 kS t156 t157 fun t158 =>
 wC C t14 t130 (!t158) K) else
 wC C t14 t130 false K
def GA (C : Cx) (t0 : Int) (t3 : Int) (t4 : Sl) (t11 : Option Addr) (t12 : Option Addr) (t14 : Sl) (t15 : Nat) (K : Bool → HP) : HP :=
 jV t12 fun t105 =>
 nX t11 t3 t4 fun t109 =>
 bif (!decide ((t109 : Int) = 0)) then (
 K false) else
 j7 C t11 1 t0 fun t114a t114b =>
 bif t114a.isNone then (
 yM C t14 t15 t114a true K) else
 bif (!decide ((t114b : Int) = 0)) then (
 yM C t14 t15 t114a true K) else
 jV t114a fun t125 =>
 yM C t14 t15 t114a (decide ((t125 : Int) < t105)) K
def Kf (C : Cx) (t0 : Int) (t1 : Sl) (t2 : Int) (t3 : Int) (t4 : Sl) (t11 : Option Addr) (t12 : Option Addr) (t51 : Bool) (K : Bool → HP) : HP :=
 bif t51 then (
 K false) else
 kr t11 t2 (
 az #[.int .i64 0, .int .i64 0, .int .i64 0, .int .i64 0, .int .i64 0, .int .i64 0, .int .i64 0, .int .i64 0, .int .i64 0, .int .i64 0, .int .i64 0, .slice none 0 0] fun t15 =>
 aq (af t15) 0 [.int .i64 0, .int .i64 0, .int .i64 0, .int .i64 0, .int .i64 0, .int .i64 0, .int .i64 0, .int .i64 0, .int .i64 0, .int .i64 0, .int .i64 0, .slice none 0 0] (
 loop (σ := List Value) (fun R1 vs1 =>
 bA (vs1.getD 0 undef) fun t14 =>
 ak .i64 (vs1.getD 1 undef) fun t16 =>
 bif (decide ((t16 : Int) < (t1.len : Nat))) then (
 aL t1 12 t16 fun t64 =>
 bq t64 fun t65 =>
 oU t65 fun t66 =>
 bif (!t66) then (
 K true) else
 aL t1 12 t16 fun t72 =>
 bq t72 fun t73 =>
 nT C t12 t73 fun t74a t74b =>
 az #[.int .i64 0, .int .i64 0, .int .i64 0, .int .i64 0, .int .i64 0, .int .i64 0, .int .i64 0, .int .i64 0, .int .i64 0, .int .i64 0, .int .i64 0, .int .i64 0, .int .i64 0, .slice none 0 0] fun t17 =>
 aq (af t17) 0 [.int .i64 t74a.Seq, .int .i64 t74a.At, .int .i64 t74a.iw, .int .i64 t74a.iz, .int .i64 t74a.iJ, .int .i64 t74a.iM, .int .i64 t74a.ir, .int .i64 t74a.iu, .int .i64 t74a.iI, .int .i64 t74a.iE, .int .i64 t74a.iK, .int .i64 t74a.iG, .int .i64 t74a.iH, .slice t74a.cU.a t74a.cU.len t74a.cU.cap] (
 bif (decide ((t74b : Int) = 0)) then (
 aL t1 12 t16 fun t82 =>
 bq t82 fun t83 =>
 az #[.int .i64 t83.Kind, .int .i64 t83.bR, .int .i64 t83.Seq, .int .i64 t83.Next, .int .i64 t83.bW, .int .i64 t83.bV, .int .i64 t83.Time, .int .i64 t83.Flags, .int .i64 t83.Body, .int .i64 t83.bQ, .int .i64 t83.Origin, .slice t83.Data.a t83.Data.len t83.Data.cap] fun t84 =>
 app 12 112 #[.int .i64 0, .int .i64 0, .int .i64 0, .int .i64 0, .int .i64 0, .int .i64 0, .int .i64 0, .int .i64 0, .int .i64 0, .int .i64 0, .int .i64 0, .slice none 0 0] t14 (⟨some (af t84), 1, 1⟩ : Sl) fun t85 =>
 Au C t0 t1 t3 t4 t11 t12 t85 t15 t16 K R1) else
 bif (decide ((t74b : Int) = 11)) then (
 ag .i64 ((af t15).add 0) fun t90 =>
 Fi C t0 t1 t3 t4 t11 t12 t14 t15 t16 (decide ((t90 : Int) = 0)) K R1) else
 Fi C t0 t1 t3 t4 t11 t12 t14 t15 t16 false K R1)) else
 jH t11 fun t98 =>
 bif (!t98) then (
 kr t11 0 (
 kG t11 fun t103 =>
 GA C t0 t3 t4 t11 t12 t14 t15 K)) else
 GA C t0 t3 t4 t11 t12 t14 t15 K) [.slice none 0 0, .int .i64 0]))
def AM (C : Cx) (t0 : Int) (t1 : Sl) (t2 : Int) (t3 : Int) (t4 : Sl) (t36 : Bool) (K : Bool → HP) : HP :=
 bif t36 then (
 K true) else
 mL (⟨none, 0, 0⟩ : Sl) 1048576 fun t37 =>
 bif t37.isNone then (
 K false) else
 j7 C t37 1 t0 fun t43a t43b =>
 bif t43a.isNone then (
 Kf C t0 t1 t2 t3 t4 t37 t43a true K) else
 Kf C t0 t1 t2 t3 t4 t37 t43a (!decide ((t43b : Int) = 0)) K
def Ss (C : Cx) (p0 : Int) (p1 : Sl) (p2 : Int) (p3 : Int) (p4 : Sl) (K : Bool → HP) : HP :=
 nM C fun t23 =>
 bif (!t23) then (
 K false) else
 bif (decide ((30 : Int) < (p1.len : Nat))) then (
 AM C p0 p1 p2 p3 p4 true K) else
 bif (decide ((60 : Int) < (p4.len : Nat))) then (
 AM C p0 p1 p2 p3 p4 true K) else
 AM C p0 p1 p2 p3 p4 (decide ((p0 : Int) < 1)) K
def vX (t0 : Sl) (t1 : Int) (t5 : Sl) (t6 : Int) (K : Sl → HP) (R1 : List Value → HP) : HP :=
 R1 [.slice t5.a t5.len t5.cap, .int .i64 (ay (t6 + 1))]
def uW (t0 : Sl) (t1 : Int) (t5 : Sl) (t6 : Int) (t20 : Bool) (K : Sl → HP) (R1 : List Value → HP) : HP :=
 bif t20 then (
 aL t0 14 t6 fun t24 =>
 bq (t24.add 2) fun t26 =>
 az #[.int .i64 t26.Kind, .int .i64 t26.bR, .int .i64 t26.Seq, .int .i64 t26.Next, .int .i64 t26.bW, .int .i64 t26.bV, .int .i64 t26.Time, .int .i64 t26.Flags, .int .i64 t26.Body, .int .i64 t26.bQ, .int .i64 t26.Origin, .slice t26.Data.a t26.Data.len t26.Data.cap] fun t27 =>
 app 12 112 #[.int .i64 0, .int .i64 0, .int .i64 0, .int .i64 0, .int .i64 0, .int .i64 0, .int .i64 0, .int .i64 0, .int .i64 0, .int .i64 0, .int .i64 0, .slice none 0 0] t5 (⟨some (af t27), 1, 1⟩ : Sl) fun t28 =>
 vX t0 t1 t28 t6 K R1) else
 vX t0 t1 t5 t6 K R1
def nV (p0 : Sl) (p1 : Int) (K : Sl → HP) : HP :=
 loop (σ := List Value) (fun R1 vs1 =>
 bA (vs1.getD 0 undef) fun t5 =>
 ak .i64 (vs1.getD 1 undef) fun t6 =>
 bif (decide ((t6 : Int) < (p0.len : Nat))) then (
 bif (decide ((p1 : Int) < 2)) then (
 uW p0 p1 t5 t6 true K R1) else
 nz p1 (
 uW p0 p1 t5 t6 (!decide ((Int.tmod t6 p1 : Int) = 0)) K R1)) else
 K t5) [.slice none 0 0, .int .i64 0]
def af0 (xs : List Value) (K : Value → HP) : HP :=
 arity xs 2 <|
 bA (xs.getD 0 undef) fun p0 =>
 ak .i64 (xs.getD 1 undef) fun p1 =>
 nV p0 p1 (fun r0 => K (.slice r0.a r0.len r0.cap))
def uh (p0 : aZ) (K : Bool → HP) : HP :=
 az #[.int .i64 p0.Kind, .int .i64 p0.bR, .int .i64 p0.Seq, .int .i64 p0.Next, .int .i64 p0.bW, .int .i64 p0.bV, .int .i64 p0.Time, .int .i64 p0.Flags, .int .i64 p0.Body, .int .i64 p0.bQ, .int .i64 p0.Origin, .slice p0.Data.a p0.Data.len p0.Data.cap] fun t1 =>
 bq (af t1) fun t3 =>
 oE t3 fun t4 =>
 bif (!t4) then (
 K true) else
 bq (af t1) fun t7 =>
 lG t7 fun t8 =>
 K (!decide ((t8 : Int) = 0))
def zJ (xs : List Value) (K : Value → HP) : HP :=
 arity xs 1 <|
 fU (xs.getD 0 undef) fun p0 =>
 uh p0 (fun r0 => K (.bool r0))
def yC (C : Cx) (p0 : Sl) (p1 : FV) (K : Int → HP) : HP :=
 loop (σ := List Value) (fun R1 vs1 =>
 ak .i64 (vs1.getD 0 undef) fun t8 =>
 bif (decide ((t8 : Int) < (p0.len : Nat))) then (
 aL p0 12 t8 fun t14 =>
 bq t14 fun t15 =>
 C.ap p1 [.agg #[.int .i64 t15.Kind, .int .i64 t15.bR, .int .i64 t15.Seq, .int .i64 t15.Next, .int .i64 t15.bW, .int .i64 t15.bV, .int .i64 t15.Time, .int .i64 t15.Flags, .int .i64 t15.Body, .int .i64 t15.bQ, .int .i64 t15.Origin, .slice t15.Data.a t15.Data.len t15.Data.cap]] fun t16 =>
 jk t16 fun t16_1 =>
 bif t16_1 then (
 K t8) else
 R1 [.int .i64 (ay (t8 + 1))]) else
 K (-1)) [.int .i64 0]
def afZ (C : Cx) (xs : List Value) (K : Value → HP) : HP :=
 arity xs 2 <|
 bA (xs.getD 0 undef) fun p0 =>
 j9 (xs.getD 1 undef) fun p1 =>
 yC C p0 p1 (fun r0 => K (.int .i64 r0))
def sL (C : Cx) (p0 : Sl) (p1 : FV) (K : Bool → HP) : HP :=
 yC C p0 p1 fun t7 =>
 K (decide ((0 : Int) ≤ t7))
def acG (C : Cx) (xs : List Value) (K : Value → HP) : HP :=
 arity xs 2 <|
 bA (xs.getD 0 undef) fun p0 =>
 j9 (xs.getD 1 undef) fun p1 =>
 sL C p0 p1 (fun r0 => K (.bool r0))
def wD (p0 : Addr) (p1 : Addr) (K : Int → HP) : HP :=
 ct p0 fun t3 =>
 bE p1 fun t4 =>
 pV t3 t4 fun t5 =>
 K t5
def Ek (xs : List Value) (K : Value → HP) : HP :=
 arity xs 2 <|
 dU (xs.getD 0 undef) fun p0 =>
 dU (xs.getD 1 undef) fun p1 =>
 wD p0 p1 (fun r0 => K (.int .i64 r0))
def vL (C : Cx) (p0 : Addr) (p1 : Addr) (p2 : Addr) (K : Int → HP) : HP :=
 ct p0 fun t4 =>
 bE p1 fun t5 =>
 aB p2 fun t6 =>
 oh C t4 t5 t6 fun t7 =>
 K t7
def Eb (C : Cx) (xs : List Value) (K : Value → HP) : HP :=
 arity xs 3 <|
 dU (xs.getD 0 undef) fun p0 =>
 dU (xs.getD 1 undef) fun p1 =>
 dU (xs.getD 2 undef) fun p2 =>
 vL C p0 p1 p2 (fun r0 => K (.int .i64 r0))
def uy (p0 : Option Addr) (p1 : ByteArray) (p2 : ByteArray) (K : Int → HP) : HP :=
 mo p0 fun t11 =>
 bif (!decide ((t11 : Int) = 0)) then (
 K t11) else
 nO p2 fun t16 =>
 bif (!t16) then (
 K 3) else
 mY p0 p1 fun t21a t21b =>
 bif (decide ((t21b : Int) = 0)) then (
 mT p0 (⟨t21a, p2, false⟩ : iA) (
 K t21b)) else
 K t21b
def O3 (xs : List Value) (K : Value → HP) : HP :=
 arity xs 3 <|
 bu (xs.getD 0 undef) fun p0 =>
 bX (xs.getD 1 undef) fun p1 =>
 bX (xs.getD 2 undef) fun p2 =>
 uy p0 p1 p2 (fun r0 => K (.int .i64 r0))
def vi (p0 : Addr) (p1 : Addr) (p2 : Addr) (K : Int → HP) : HP :=
 ct p0 fun t4 =>
 bE p1 fun t5 =>
 bE p2 fun t6 =>
 uy t4 t5 t6 fun t7 =>
 K t7
def IJ (xs : List Value) (K : Value → HP) : HP :=
 arity xs 3 <|
 dU (xs.getD 0 undef) fun p0 =>
 dU (xs.getD 1 undef) fun p1 =>
 dU (xs.getD 2 undef) fun p2 =>
 vi p0 p1 p2 (fun r0 => K (.int .i64 r0))
def wS (C : Cx) (p0 : Addr) (K : Int → HP) : HP :=
 ct p0 fun t2 =>
 fI C (fun xs K => ve ([.pointer t2] ++ xs ++ []) K) fun t3 =>
 ld C t3 fun t4 =>
 K t4
def MF (C : Cx) (xs : List Value) (K : Value → HP) : HP :=
 arity xs 1 <|
 dU (xs.getD 0 undef) fun p0 =>
 wS C p0 (fun r0 => K (.int .i64 r0))
def qK (C : Cx) (t3 : Nat) (t7 : Nat) (t9 : Int) (t40 : Bool) (K : Int → HP) : HP :=
 bif t40 then (
 ct (af t3) fun t41 =>
 bE (af t7) fun t42 =>
 qv C t41 t42 (
 K t9)) else
 K t9
def xN (C : Cx) (t3 : Nat) (t4 : Nat) (t5 : Nat) (t7 : Nat) (K : Int → HP) : HP :=
 fI C (fun xs K => Ek ([] ++ xs ++ [.pointer (some (af t3)), .pointer (some (af t7))]) K) fun t24 =>
 fI C (fun xs K => Eb C ([] ++ xs ++ [.pointer (some (af t3)), .pointer (some (af t7)), .pointer (some (af t5))]) K) fun t25 =>
 fI C (fun xs K => IJ ([] ++ xs ++ [.pointer (some (af t3)), .pointer (some (af t7)), .pointer (some (af t4))]) K) fun t26 =>
 fI C (fun xs K => MF C ([] ++ xs ++ [.pointer (some (af t3))]) K) fun t27 =>
 az #[t24.v, t25.v, t26.v, t27.v] fun t28 =>
 lR C (⟨some (af t28), 4, 4⟩ : Sl) fun t29 =>
 bif (!decide ((t29 : Int) = 0)) then (
 bif (!decide ((t29 : Int) = 11)) then (
 ct (af t3) fun t37 =>
 bE (af t7) fun t38 =>
 mE t37 t38 fun t39 =>
 qK C t3 t7 t29 t39 K) else
 qK C t3 t7 t29 false K) else
 qK C t3 t7 t29 false K
def sZ (C : Cx) (p0 : Option Addr) (p1 : ByteArray) (p2 : Sl) (K : Int → HP) : HP :=
 az #[.pointer p0] fun t3 =>
 az #[.string p1] fun t4 =>
 az #[.slice p2.a p2.len p2.cap] fun t5 =>
 bE (af t4) fun t10 =>
 bif (decide ((30 : Int) < (t10.size : Nat))) then (
 K 3) else
 bE (af t4) fun t13 =>
 cat t13 (⟨#[46, 110]⟩ : ByteArray) fun t14 =>
 az #[.string (⟨#[]⟩ : ByteArray)] fun t7 =>
 aq (af t7) 0 [.string t14] (
 ct (af t3) fun t15 =>
 bE (af t7) fun t16 =>
 mE t15 t16 fun t17 =>
 bif t17 then (
 ct (af t3) fun t18 =>
 bE (af t7) fun t19 =>
 lP t18 t19 fun t20 =>
 bif (!decide ((t20 : Int) = 0)) then (
 K t20) else
 xN C t3 t4 t5 t7 K) else
 xN C t3 t4 t5 t7 K)
def Yb (C : Cx) (xs : List Value) (K : Value → HP) : HP :=
 arity xs 3 <|
 bu (xs.getD 0 undef) fun p0 =>
 bX (xs.getD 1 undef) fun p1 =>
 bA (xs.getD 2 undef) fun p2 =>
 sZ C p0 p1 p2 (fun r0 => K (.int .i64 r0))
def tK (C : Cx) (t0 : Option Addr) (t1 : Sl) (t5 : Int) (t26 : Bool) (K : Int → HP) : HP :=
 bif t26 then (
 K 1) else
 az #[.int .i64 0, .int .i64 0, .int .i64 0, .slice none 0 0] fun t6 =>
 aq (af t6) 0 [.int .i64 t5, .int .i64 0, .int .i64 0, .slice none 0 0] (
 qP t0 t5 t5 fun t32 =>
 az #[.int .i64 t32.Kind, .int .i64 t32.bR, .int .i64 t32.Seq, .int .i64 t32.Next, .int .i64 t32.bW, .int .i64 t32.bV, .int .i64 t32.Time, .int .i64 t32.Flags, .int .i64 t32.Body, .int .i64 t32.bQ, .int .i64 t32.Origin, .slice t32.Data.a t32.Data.len t32.Data.cap] fun t33 =>
 app 12 112 #[.int .i64 0, .int .i64 0, .int .i64 0, .int .i64 0, .int .i64 0, .int .i64 0, .int .i64 0, .int .i64 0, .int .i64 0, .int .i64 0, .int .i64 0, .slice none 0 0] (⟨some (af t33), 1, 1⟩ : Sl) t1 fun t35 =>
 loop (σ := List Value) (fun R1 vs1 =>
 bA (vs1.getD 0 undef) fun t7 =>
 ak .i64 (vs1.getD 1 undef) fun t37 =>
 bif (decide ((t37 : Int) < (t35.len : Nat))) then (
 aL t35 12 t37 fun t39 =>
 bq t39 fun t40 =>
 az #[.int .i64 0, .int .i64 0, .int .i64 0, .int .i64 0, .int .i64 0, .int .i64 0, .int .i64 0, .int .i64 0, .int .i64 0, .int .i64 0, .int .i64 0, .slice none 0 0] fun t9 =>
 aq (af t9) 0 [.int .i64 t40.Kind, .int .i64 t40.bR, .int .i64 t40.Seq, .int .i64 t40.Next, .int .i64 t40.bW, .int .i64 t40.bV, .int .i64 t40.Time, .int .i64 t40.Flags, .int .i64 t40.Body, .int .i64 t40.bQ, .int .i64 t40.Origin, .slice t40.Data.a t40.Data.len t40.Data.cap] (
 bq (af t9) fun t42 =>
 lS t42 fun t43a t43b =>
 bif (!decide ((t43b : Int) = 0)) then (
 K t43b) else
 aB ((af t6).add 3) fun t50 =>
 bq (af t9) fun t55 =>
 az #[.int .i64 (t7.len : Nat), .int .i64 (t43a.len : Nat), .int .i64 t55.Kind, .int .i64 t55.bR, .int .i64 t55.Seq, .int .i64 t55.Next, .int .i64 t55.bW, .int .i64 t55.bV, .int .i64 t55.Time, .int .i64 t55.Flags, .int .i64 t55.Body, .int .i64 t55.bQ, .int .i64 t55.Origin, .slice t55.Data.a t55.Data.len t55.Data.cap] fun t57 =>
 app 14 128 #[.int .i64 0, .int .i64 0, .int .i64 0, .int .i64 0, .int .i64 0, .int .i64 0, .int .i64 0, .int .i64 0, .int .i64 0, .int .i64 0, .int .i64 0, .int .i64 0, .int .i64 0, .slice none 0 0] t50 (⟨some (af t57), 1, 1⟩ : Sl) fun t58 =>
 aq ((af t6).add 3) 0 [.slice t58.a t58.len t58.cap] (
 app 1 1 #[.int .u8 0] t7 t43a fun t62 =>
 bif (decide ((4194304 : Int) < (t62.len : Nat))) then (
 K 4) else
 R1 [.slice t62.a t62.len t62.cap, .int .i64 (ay (t37 + 1))]))) else
 nn t0 fun t68 =>
 ct (t68.add 0) fun t70 =>
 nn t0 fun t72 =>
 ag .i64 (t72.add 1) fun t74 =>
 gO t74 t5 fun t76 =>
 held (ct (t68.add 0) fun t70_1 =>
 fun _ => (Value.pointer t70_1) = (Value.pointer t70)) (
 sZ C t70 t76 t7 fun t78 =>
 bif (!decide ((t78 : Int) = 0)) then (
 K t78) else
 aq ((af t6).add 1) 0 [.int .i64 (t7.len : Nat)] (
 nn t0 fun t86 =>
 aB (t86.add 4) fun t88 =>
 fS (af t6) fun t90 =>
 az #[.int .i64 t90.seq, .int .i64 t90.size, .int .i64 t90.broken, .slice t90.l.a t90.l.len t90.l.cap] fun t91 =>
 nn t0 fun t92 =>
 aq (t92.add 4) 0 [.slice (some (af t91)) 1 1] (
 loop (σ := List Value) (fun R2 vs2 =>
 ak .i64 (vs2.getD 0 undef) fun t96 =>
 bif (decide ((t96 : Int) < (t1.len : Nat))) then (
 aL t1 12 t96 fun t98 =>
 bq t98 fun t99 =>
 az #[.int .i64 0, .int .i64 0, .int .i64 0, .int .i64 0, .int .i64 0, .int .i64 0, .int .i64 0, .int .i64 0, .int .i64 0, .int .i64 0, .int .i64 0, .slice none 0 0] fun t15 =>
 aq (af t15) 0 [.int .i64 t99.Kind, .int .i64 t99.bR, .int .i64 t99.Seq, .int .i64 t99.Next, .int .i64 t99.bW, .int .i64 t99.bV, .int .i64 t99.Time, .int .i64 t99.Flags, .int .i64 t99.Body, .int .i64 t99.bQ, .int .i64 t99.Origin, .slice t99.Data.a t99.Data.len t99.Data.cap] (
 nn t0 fun t102 =>
 ag .i64 (t102.add 3) fun t104 =>
 bq (af t15) fun t105 =>
 mg t105 fun t106 =>
 held (ag .i64 (t102.add 3) fun t104_1 =>
 fun _ => (Value.int .i64 t104_1) = (Value.int .i64 t104)) (
 nn t0 fun t108 =>
 aq (t108.add 3) 0 [.int .i64 (if (t106 : Int) > t104 then t106 else t104)] (
 R2 [.int .i64 (ay (t96 + 1))])))) else
 loop (σ := List Value) (fun R3 vs3 =>
 ak .i64 (vs3.getD 0 undef) fun t113 =>
 bif (decide ((t113 : Int) < (t88.len : Nat))) then (
 aL t88 4 t113 fun t115 =>
 fS t115 fun t116 =>
 az #[.int .i64 0, .int .i64 0, .int .i64 0, .slice none 0 0] fun t17 =>
 aq (af t17) 0 [.int .i64 t116.seq, .int .i64 t116.size, .int .i64 t116.broken, .slice t116.l.a t116.l.len t116.l.cap] (
 nn t0 fun t118 =>
 ct (t118.add 0) fun t120 =>
 nn t0 fun t122 =>
 ag .i64 (t122.add 1) fun t124 =>
 ag .i64 ((af t17).add 0) fun t126 =>
 gO t124 t126 fun t127 =>
 held (ct (t118.add 0) fun t120_1 =>
 fun _ => (Value.pointer t120_1) = (Value.pointer t120)) (
 nP C t120 t127 fun t128 =>
 bif (!decide ((t128 : Int) = 0)) then (
 K 0) else
 R3 [.int .i64 (ay (t113 + 1))]))) else
 K 0) [.int .i64 0]) [.int .i64 0])))) [.slice none 0 0, .int .i64 0])
def qp (C : Cx) (p0 : Option Addr) (p1 : Sl) (K : Int → HP) : HP :=
 jN p0 fun t19 =>
 bif (decide ((99999999 : Int) < (ay (t19 + 1)))) then (
 tK C p0 p1 (ay (t19 + 1)) true K) else
 fI C (fun xs K => zJ xs K) fun t25f =>
 sL C p1 t25f fun t25 =>
 tK C p0 p1 (ay (t19 + 1)) t25 K
def S8 (C : Cx) (xs : List Value) (K : Value → HP) : HP :=
 arity xs 2 <|
 bu (xs.getD 0 undef) fun p0 =>
 bA (xs.getD 1 undef) fun p1 =>
 qp C p0 p1 (fun r0 => K (.int .i64 r0))
def w6 (C : Cx) (t17 : Sl) (t18 : Sl) (t20 : Int) (t23 : Sl) (t24 : Bool) (t25 : Bool) (t26 : Int) (K : Bool → HP) (R2 : List Value → HP) : HP :=
 R2 [.bool t24, .bool t25, .int .i64 (ay (t26 + 1))]
def vQ (C : Cx) (t17 : Sl) (t18 : Sl) (t20 : Int) (t23 : Sl) (t24 : Bool) (t25 : Bool) (t26 : Int) (K : Bool → HP) (R2 : List Value → HP) : HP :=
 bif t25 then (
 aL t23 12 t26 fun t153 =>
 bq t153 fun t154 =>
 aL t17 14 t26 fun t157 =>
 bq (t157.add 2) fun t159 =>
 kS t154 t159 fun t160 =>
 w6 C t17 t18 t20 t23 t24 t160 t26 K R2) else
 w6 C t17 t18 t20 t23 t24 false t26 K R2
def qH (C : Cx) (t17 : Sl) (t18 : Sl) (t20 : Int) (t21 : Option Addr) (t117 : Bool) (K : Bool → HP) : HP :=
 bif t117 then (
 K false) else
 jE t21 fun t119 =>
 nV t119 0 fun t120 =>
 loop (σ := List Value) (fun R2 vs2 =>
 jk (vs2.getD 0 undef) fun t24 =>
 jk (vs2.getD 1 undef) fun t25 =>
 ak .i64 (vs2.getD 2 undef) fun t26 =>
 bif (decide ((t26 : Int) < (t120.len : Nat))) then (
 bif t24 then (
 aL t120 12 t26 fun t141 =>
 bq t141 fun t142 =>
 aL t18 12 t26 fun t145 =>
 bq t145 fun t146 =>
 kS t142 t146 fun t147 =>
 vQ C t17 t18 t20 t120 t147 t25 t26 K R2) else
 vQ C t17 t18 t20 t120 false t25 t26 K R2) else
 bif t24 then (
 K true) else
 bif t25 then (
 K (!decide ((t20 : Int) = 0))) else
 K false) [.bool (decide (((t120.len : Nat) : Int) = (t18.len : Nat))), .bool (decide (((t120.len : Nat) : Int) = (t17.len : Nat))), .int .i64 0]
def oy (C : Cx) (t0 : Int) (t4 : Int) (t5 : Sl) (t13 : Option Addr) (t17 : Sl) (t18 : Sl) (t19 : Int) (t20 : Int) (K : Bool → HP) : HP :=
 nX t13 t4 t5 fun t93 =>
 bif (!decide ((t93 : Int) = 0)) then (
 K false) else
 j7 C t13 1 t0 fun t98a t98b =>
 bif t98a.isNone then (
 qH C t17 t18 t20 t98a true K) else
 bif (!decide ((t98b : Int) = 0)) then (
 qH C t17 t18 t20 t98a true K) else
 jV t98a fun t109 =>
 bif (decide ((t109 : Int) < t19)) then (
 qH C t17 t18 t20 t98a true K) else
 mP t98a fun t115 =>
 qH C t17 t18 t20 t98a (!decide ((t115 : Int) = 0)) K
def pq (C : Cx) (t0 : Int) (t1 : Sl) (t2 : Int) (t3 : Int) (t4 : Int) (t5 : Sl) (t40 : Bool) (K : Bool → HP) : HP :=
 bif t40 then (
 K true) else
 mL (⟨none, 0, 0⟩ : Sl) 1048576 fun t41 =>
 bif t41.isNone then (
 K false) else
 j7 C t41 1 t0 fun t47a t47b =>
 bif t47a.isNone then (
 K false) else
 loop (σ := List Value) (fun R1 vs1 =>
 ak .i64 (vs1.getD 0 undef) fun t16 =>
 bif (decide ((t16 : Int) < (t1.len : Nat))) then (
 aL t1 12 t16 fun t60 =>
 bq t60 fun t61 =>
 oU t61 fun t62 =>
 bif (!t62) then (
 K true) else
 aL t1 12 t16 fun t67 =>
 bq t67 fun t68 =>
 nT C t47a t68 fun t69a t69b =>
 R1 [.int .i64 (ay (t16 + 1))]) else
 jE t47a fun t71 =>
 nV t71 t2 fun t74 =>
 jV t47a fun t76 =>
 kr t41 t3 (
 qp C t47a t74 fun t82 =>
 jH t41 fun t84 =>
 bif (!t84) then (
 kr t41 0 (
 kG t41 fun t89 =>
 oy C t0 t4 t5 t41 t71 t74 t76 t82 K)) else
 oy C t0 t4 t5 t41 t71 t74 t76 t82 K)) [.int .i64 0]
def tJ (C : Cx) (p0 : Int) (p1 : Sl) (p2 : Int) (p3 : Int) (p4 : Int) (p5 : Sl) (K : Bool → HP) : HP :=
 nM C fun t27 =>
 bif (!t27) then (
 K false) else
 bif (decide ((30 : Int) < (p1.len : Nat))) then (
 pq C p0 p1 p2 p3 p4 p5 true K) else
 bif (decide ((60 : Int) < (p5.len : Nat))) then (
 pq C p0 p1 p2 p3 p4 p5 true K) else
 pq C p0 p1 p2 p3 p4 p5 (decide ((p0 : Int) < 1)) K
def ady (C : Cx) (xs : List Value) (K : Value → HP) : HP :=
 arity xs 6 <|
 ak .i64 (xs.getD 0 undef) fun p0 =>
 bA (xs.getD 1 undef) fun p1 =>
 ak .i64 (xs.getD 2 undef) fun p2 =>
 ak .i64 (xs.getD 3 undef) fun p3 =>
 ak .i64 (xs.getD 4 undef) fun p4 =>
 bA (xs.getD 5 undef) fun p5 =>
 tJ C p0 p1 p2 p3 p4 p5 (fun r0 => K (.bool r0))
end Go.Ph.S
end
section
set_option linter.all false
namespace Go.Ph.S
theorem E3 {v : Value} {K : fB → HP} {H : aP} (h : BA v K H) : ∃ r : fB, v = r.v ∧ K r H := by
 obtain ⟨cs, rfl, hl, h⟩ := qS h
 obtain ⟨x0, e0, h⟩ := aU h
 obtain ⟨x1, e1, h⟩ := aU h
 obtain ⟨x2, e2, h⟩ := aU h
 obtain ⟨x3, e3, h⟩ := aU h
 obtain ⟨x4, e4, h⟩ := aU h
 obtain ⟨x5, e5, h⟩ := aU h
 obtain ⟨x6, e6, h⟩ := aU h
 obtain ⟨x7, e7, h⟩ := aU h
 obtain ⟨x8, e8, h⟩ := aU h
 obtain ⟨x9, e9, h⟩ := aU h
 obtain ⟨gf, e10, h⟩ := aU h
 obtain ⟨gD, e11, h⟩ := aU h
 obtain ⟨jD, e12, h⟩ := aU h
 obtain ⟨jT, e13, h⟩ := cg h
 have ea := jM cs
 rw [hl] at ea
 refine ⟨⟨x0, x1, x2, x3, x4, x5, x6, x7, x8, x9, gf, gD, jD, jT⟩, ?_, h⟩
 have eb : cs = [cs.getD 0 undef, cs.getD 1 undef, cs.getD 2 undef, cs.getD 3 undef, cs.getD 4 undef, cs.getD 5 undef, cs.getD 6 undef, cs.getD 7 undef, cs.getD 8 undef, cs.getD 9 undef, cs.getD 10 undef, cs.getD 11 undef, cs.getD 12 undef, cs.getD 13 undef] := ea
 rw [e0, e1, e2, e3, e4, e5, e6, e7, e8, e9, e10, e11, e12, e13] at eb
 rw [eb]
theorem gq {v : Value} {K : aZ → HP} {H : aP} (h : fU v K H) : ∃ r : aZ, v = r.v ∧ K r H := by
 obtain ⟨cs, rfl, hl, h⟩ := qS h
 obtain ⟨x0, e0, h⟩ := aU h
 obtain ⟨x1, e1, h⟩ := aU h
 obtain ⟨x2, e2, h⟩ := aU h
 obtain ⟨x3, e3, h⟩ := aU h
 obtain ⟨x4, e4, h⟩ := aU h
 obtain ⟨x5, e5, h⟩ := aU h
 obtain ⟨x6, e6, h⟩ := aU h
 obtain ⟨x7, e7, h⟩ := aU h
 obtain ⟨x8, e8, h⟩ := aU h
 obtain ⟨x9, e9, h⟩ := aU h
 obtain ⟨gf, e10, h⟩ := aU h
 obtain ⟨gD, e11, h⟩ := cg h
 have ea := jM cs
 rw [hl] at ea
 refine ⟨⟨x0, x1, x2, x3, x4, x5, x6, x7, x8, x9, gf, gD⟩, ?_, h⟩
 have eb : cs = [cs.getD 0 undef, cs.getD 1 undef, cs.getD 2 undef, cs.getD 3 undef, cs.getD 4 undef, cs.getD 5 undef, cs.getD 6 undef, cs.getD 7 undef, cs.getD 8 undef, cs.getD 9 undef, cs.getD 10 undef, cs.getD 11 undef] := ea
 rw [e0, e1, e2, e3, e4, e5, e6, e7, e8, e9, e10, e11] at eb
 rw [eb]
theorem Ua {v : Value} {K : jR → HP} {H : aP} (h : KP v K H) : ∃ r : jR, v = r.v ∧ K r H := by
 obtain ⟨cs, rfl, hl, h⟩ := qS h
 obtain ⟨x0, e0, h⟩ := cw h
 obtain ⟨x1, e1, h⟩ := aU h
 have ea := jM cs
 rw [hl] at ea
 refine ⟨⟨x0, x1⟩, ?_, h⟩
 have eb : cs = [cs.getD 0 undef, cs.getD 1 undef] := ea
 rw [e0, e1] at eb
 rw [eb]
theorem Fc {v : Value} {K : jf → HP} {H : aP} (h : CT v K H) : ∃ r : jf, v = r.v ∧ K r H := by
 obtain ⟨cs, rfl, hl, h⟩ := qS h
 obtain ⟨x0, e0, h⟩ := cw h
 obtain ⟨x1, e1, h⟩ := cw h
 obtain ⟨x2, e2, h⟩ := aU h
 have ea := jM cs
 rw [hl] at ea
 refine ⟨⟨x0, x1, x2⟩, ?_, h⟩
 have eb : cs = [cs.getD 0 undef, cs.getD 1 undef, cs.getD 2 undef] := ea
 rw [e0, e1, e2] at eb
 rw [eb]
theorem Gb {v : Value} {K : iA → HP} {H : aP} (h : CE v K H) : ∃ r : iA, v = r.v ∧ K r H := by
 obtain ⟨cs, rfl, hl, h⟩ := qS h
 obtain ⟨x0, e0, h⟩ := aU h
 obtain ⟨x1, e1, h⟩ := cw h
 obtain ⟨x2, e2, h⟩ := I5 h
 have ea := jM cs
 rw [hl] at ea
 refine ⟨⟨x0, x1, x2⟩, ?_, h⟩
 have eb : cs = [cs.getD 0 undef, cs.getD 1 undef, cs.getD 2 undef] := ea
 rw [e0, e1, e2] at eb
 rw [eb]
theorem Ca {v : Value} {K : gE → HP} {H : aP} (h : xU v K H) : ∃ r : gE, v = r.v ∧ K r H := by
 obtain ⟨cs, rfl, hl, h⟩ := qS h
 obtain ⟨x0, e0, h⟩ := aU h
 obtain ⟨x1, e1, h⟩ := cw h
 have ea := jM cs
 rw [hl] at ea
 refine ⟨⟨x0, x1⟩, ?_, h⟩
 have eb : cs = [cs.getD 0 undef, cs.getD 1 undef] := ea
 rw [e0, e1] at eb
 rw [eb]
end Go.Ph.S
end
