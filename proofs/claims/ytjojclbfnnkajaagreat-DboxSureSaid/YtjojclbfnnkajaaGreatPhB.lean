/- Parts of the proof that pigeonholelaw18.DboxSure returns true at every input and leaves the input as it was: each function of the program as such words, laid by program. -/
import Derived.Test.YtjojclbfnnkajaaGreatPhA
section
set_option linter.all false
set_option maxRecDepth 100000
namespace Go.Ph.S
structure G_A11_int where
  c0 : Int
  c1 : Int
  c2 : Int
  c3 : Int
  c4 : Int
  c5 : Int
  c6 : Int
  c7 : Int
  c8 : Int
  c9 : Int
  c10 : Int
abbrev G_A11_int.v (r : G_A11_int) : Value := .agg #[.int .i64 r.c0, .int .i64 r.c1, .int .i64 r.c2, .int .i64 r.c3, .int .i64 r.c4, .int .i64 r.c5, .int .i64 r.c6, .int .i64 r.c7, .int .i64 r.c8, .int .i64 r.c9, .int .i64 r.c10]
def ld_G_A11_int (a : Addr) (K : G_A11_int → HP) : HP :=
 ldI .i64 (a.add 0) fun x0 =>
 ldI .i64 (a.add 1) fun x1 =>
 ldI .i64 (a.add 2) fun x2 =>
 ldI .i64 (a.add 3) fun x3 =>
 ldI .i64 (a.add 4) fun x4 =>
 ldI .i64 (a.add 5) fun x5 =>
 ldI .i64 (a.add 6) fun x6 =>
 ldI .i64 (a.add 7) fun x7 =>
 ldI .i64 (a.add 8) fun x8 =>
 ldI .i64 (a.add 9) fun x9 =>
 ldI .i64 (a.add 10) fun x10 =>
 K ⟨x0, x1, x2, x3, x4, x5, x6, x7, x8, x9, x10⟩
structure G_A16_uint32 where
  c0 : Int
  c1 : Int
  c2 : Int
  c3 : Int
  c4 : Int
  c5 : Int
  c6 : Int
  c7 : Int
  c8 : Int
  c9 : Int
  c10 : Int
  c11 : Int
  c12 : Int
  c13 : Int
  c14 : Int
  c15 : Int
abbrev G_A16_uint32.v (r : G_A16_uint32) : Value := .agg #[.int .u32 r.c0, .int .u32 r.c1, .int .u32 r.c2, .int .u32 r.c3, .int .u32 r.c4, .int .u32 r.c5, .int .u32 r.c6, .int .u32 r.c7, .int .u32 r.c8, .int .u32 r.c9, .int .u32 r.c10, .int .u32 r.c11, .int .u32 r.c12, .int .u32 r.c13, .int .u32 r.c14, .int .u32 r.c15]
def ld_G_A16_uint32 (a : Addr) (K : G_A16_uint32 → HP) : HP :=
 ldI .u32 (a.add 0) fun x0 =>
 ldI .u32 (a.add 1) fun x1 =>
 ldI .u32 (a.add 2) fun x2 =>
 ldI .u32 (a.add 3) fun x3 =>
 ldI .u32 (a.add 4) fun x4 =>
 ldI .u32 (a.add 5) fun x5 =>
 ldI .u32 (a.add 6) fun x6 =>
 ldI .u32 (a.add 7) fun x7 =>
 ldI .u32 (a.add 8) fun x8 =>
 ldI .u32 (a.add 9) fun x9 =>
 ldI .u32 (a.add 10) fun x10 =>
 ldI .u32 (a.add 11) fun x11 =>
 ldI .u32 (a.add 12) fun x12 =>
 ldI .u32 (a.add 13) fun x13 =>
 ldI .u32 (a.add 14) fun x14 =>
 ldI .u32 (a.add 15) fun x15 =>
 K ⟨x0, x1, x2, x3, x4, x5, x6, x7, x8, x9, x10, x11, x12, x13, x14, x15⟩
structure G_api_File where
  Name : ByteArray
  Data : Sl
abbrev G_api_File.v (r : G_api_File) : Value := .agg #[.string r.Name, .slice r.Data.a r.Data.len r.Data.cap]
def ld_G_api_File (a : Addr) (K : G_api_File → HP) : HP :=
 ldS (a.add 0) fun x0 =>
 ldL (a.add 1) fun x1 =>
 K ⟨x0, x1⟩
structure G_api_Found where
  At : Int
  Len : Int
  Rec_Kind : Int
  Rec_User : Int
  Rec_Seq : Int
  Rec_Next : Int
  Rec_Base : Int
  Rec_Uid : Int
  Rec_Time : Int
  Rec_Flags : Int
  Rec_Body : Int
  Rec_Size : Int
  Rec_Origin : Int
  Rec_Data : Sl
abbrev G_api_Found.v (r : G_api_Found) : Value := .agg #[.int .i64 r.At, .int .i64 r.Len, .int .i64 r.Rec_Kind, .int .i64 r.Rec_User, .int .i64 r.Rec_Seq, .int .i64 r.Rec_Next, .int .i64 r.Rec_Base, .int .i64 r.Rec_Uid, .int .i64 r.Rec_Time, .int .i64 r.Rec_Flags, .int .i64 r.Rec_Body, .int .i64 r.Rec_Size, .int .i64 r.Rec_Origin, .slice r.Rec_Data.a r.Rec_Data.len r.Rec_Data.cap]
def ld_G_api_Found (a : Addr) (K : G_api_Found → HP) : HP :=
 ldI .i64 (a.add 0) fun x0 =>
 ldI .i64 (a.add 1) fun x1 =>
 ldI .i64 (a.add 2) fun x2 =>
 ldI .i64 (a.add 3) fun x3 =>
 ldI .i64 (a.add 4) fun x4 =>
 ldI .i64 (a.add 5) fun x5 =>
 ldI .i64 (a.add 6) fun x6 =>
 ldI .i64 (a.add 7) fun x7 =>
 ldI .i64 (a.add 8) fun x8 =>
 ldI .i64 (a.add 9) fun x9 =>
 ldI .i64 (a.add 10) fun x10 =>
 ldI .i64 (a.add 11) fun x11 =>
 ldI .i64 (a.add 12) fun x12 =>
 ldL (a.add 13) fun x13 =>
 K ⟨x0, x1, x2, x3, x4, x5, x6, x7, x8, x9, x10, x11, x12, x13⟩
structure G_api_Frame where
  At : Int
  Len : Int
  Kind : Int
  Payload : Sl
abbrev G_api_Frame.v (r : G_api_Frame) : Value := .agg #[.int .i64 r.At, .int .i64 r.Len, .int .i64 r.Kind, .slice r.Payload.a r.Payload.len r.Payload.cap]
def ld_G_api_Frame (a : Addr) (K : G_api_Frame → HP) : HP :=
 ldI .i64 (a.add 0) fun x0 =>
 ldI .i64 (a.add 1) fun x1 =>
 ldI .i64 (a.add 2) fun x2 =>
 ldL (a.add 3) fun x3 =>
 K ⟨x0, x1, x2, x3⟩
structure G_api_Gap where
  From : Int
  To : Int
abbrev G_api_Gap.v (r : G_api_Gap) : Value := .agg #[.int .i64 r.From, .int .i64 r.To]
def ld_G_api_Gap (a : Addr) (K : G_api_Gap → HP) : HP :=
 ldI .i64 (a.add 0) fun x0 =>
 ldI .i64 (a.add 1) fun x1 =>
 K ⟨x0, x1⟩
structure G_api_Place where
  Seq : Int
  At : Int
  Rec_Kind : Int
  Rec_User : Int
  Rec_Seq : Int
  Rec_Next : Int
  Rec_Base : Int
  Rec_Uid : Int
  Rec_Time : Int
  Rec_Flags : Int
  Rec_Body : Int
  Rec_Size : Int
  Rec_Origin : Int
  Rec_Data : Sl
abbrev G_api_Place.v (r : G_api_Place) : Value := .agg #[.int .i64 r.Seq, .int .i64 r.At, .int .i64 r.Rec_Kind, .int .i64 r.Rec_User, .int .i64 r.Rec_Seq, .int .i64 r.Rec_Next, .int .i64 r.Rec_Base, .int .i64 r.Rec_Uid, .int .i64 r.Rec_Time, .int .i64 r.Rec_Flags, .int .i64 r.Rec_Body, .int .i64 r.Rec_Size, .int .i64 r.Rec_Origin, .slice r.Rec_Data.a r.Rec_Data.len r.Rec_Data.cap]
def ld_G_api_Place (a : Addr) (K : G_api_Place → HP) : HP :=
 ldI .i64 (a.add 0) fun x0 =>
 ldI .i64 (a.add 1) fun x1 =>
 ldI .i64 (a.add 2) fun x2 =>
 ldI .i64 (a.add 3) fun x3 =>
 ldI .i64 (a.add 4) fun x4 =>
 ldI .i64 (a.add 5) fun x5 =>
 ldI .i64 (a.add 6) fun x6 =>
 ldI .i64 (a.add 7) fun x7 =>
 ldI .i64 (a.add 8) fun x8 =>
 ldI .i64 (a.add 9) fun x9 =>
 ldI .i64 (a.add 10) fun x10 =>
 ldI .i64 (a.add 11) fun x11 =>
 ldI .i64 (a.add 12) fun x12 =>
 ldL (a.add 13) fun x13 =>
 K ⟨x0, x1, x2, x3, x4, x5, x6, x7, x8, x9, x10, x11, x12, x13⟩
def as_G_api_Place (v : Value) (K : G_api_Place → HP) : HP :=
 asAgg v 14 fun cs =>
 asI .i64 (cs.getD 0 undef) fun x0 =>
 asI .i64 (cs.getD 1 undef) fun x1 =>
 asI .i64 (cs.getD 2 undef) fun x2 =>
 asI .i64 (cs.getD 3 undef) fun x3 =>
 asI .i64 (cs.getD 4 undef) fun x4 =>
 asI .i64 (cs.getD 5 undef) fun x5 =>
 asI .i64 (cs.getD 6 undef) fun x6 =>
 asI .i64 (cs.getD 7 undef) fun x7 =>
 asI .i64 (cs.getD 8 undef) fun x8 =>
 asI .i64 (cs.getD 9 undef) fun x9 =>
 asI .i64 (cs.getD 10 undef) fun x10 =>
 asI .i64 (cs.getD 11 undef) fun x11 =>
 asI .i64 (cs.getD 12 undef) fun x12 =>
 asL (cs.getD 13 undef) fun x13 =>
 K ⟨x0, x1, x2, x3, x4, x5, x6, x7, x8, x9, x10, x11, x12, x13⟩
structure G_api_Rec where
  Kind : Int
  User : Int
  Seq : Int
  Next : Int
  Base : Int
  Uid : Int
  Time : Int
  Flags : Int
  Body : Int
  Size : Int
  Origin : Int
  Data : Sl
abbrev G_api_Rec.v (r : G_api_Rec) : Value := .agg #[.int .i64 r.Kind, .int .i64 r.User, .int .i64 r.Seq, .int .i64 r.Next, .int .i64 r.Base, .int .i64 r.Uid, .int .i64 r.Time, .int .i64 r.Flags, .int .i64 r.Body, .int .i64 r.Size, .int .i64 r.Origin, .slice r.Data.a r.Data.len r.Data.cap]
def ld_G_api_Rec (a : Addr) (K : G_api_Rec → HP) : HP :=
 ldI .i64 (a.add 0) fun x0 =>
 ldI .i64 (a.add 1) fun x1 =>
 ldI .i64 (a.add 2) fun x2 =>
 ldI .i64 (a.add 3) fun x3 =>
 ldI .i64 (a.add 4) fun x4 =>
 ldI .i64 (a.add 5) fun x5 =>
 ldI .i64 (a.add 6) fun x6 =>
 ldI .i64 (a.add 7) fun x7 =>
 ldI .i64 (a.add 8) fun x8 =>
 ldI .i64 (a.add 9) fun x9 =>
 ldI .i64 (a.add 10) fun x10 =>
 ldL (a.add 11) fun x11 =>
 K ⟨x0, x1, x2, x3, x4, x5, x6, x7, x8, x9, x10, x11⟩
def as_G_api_Rec (v : Value) (K : G_api_Rec → HP) : HP :=
 asAgg v 12 fun cs =>
 asI .i64 (cs.getD 0 undef) fun x0 =>
 asI .i64 (cs.getD 1 undef) fun x1 =>
 asI .i64 (cs.getD 2 undef) fun x2 =>
 asI .i64 (cs.getD 3 undef) fun x3 =>
 asI .i64 (cs.getD 4 undef) fun x4 =>
 asI .i64 (cs.getD 5 undef) fun x5 =>
 asI .i64 (cs.getD 6 undef) fun x6 =>
 asI .i64 (cs.getD 7 undef) fun x7 =>
 asI .i64 (cs.getD 8 undef) fun x8 =>
 asI .i64 (cs.getD 9 undef) fun x9 =>
 asI .i64 (cs.getD 10 undef) fun x10 =>
 asL (cs.getD 11 undef) fun x11 =>
 K ⟨x0, x1, x2, x3, x4, x5, x6, x7, x8, x9, x10, x11⟩
structure G_dbox_Box where
  d : Option Addr
  user : Int
  bound : Int
  next : Int
  l : Sl
abbrev G_dbox_Box.v (r : G_dbox_Box) : Value := .agg #[.pointer r.d, .int .i64 r.user, .int .i64 r.bound, .int .i64 r.next, .slice r.l.a r.l.len r.l.cap]
structure G_dbox_container where
  seq : Int
  size : Int
  broken : Int
  l : Sl
abbrev G_dbox_container.v (r : G_dbox_container) : Value := .agg #[.int .i64 r.seq, .int .i64 r.size, .int .i64 r.broken, .slice r.l.a r.l.len r.l.cap]
def ld_G_dbox_container (a : Addr) (K : G_dbox_container → HP) : HP :=
 ldI .i64 (a.add 0) fun x0 =>
 ldI .i64 (a.add 1) fun x1 =>
 ldI .i64 (a.add 2) fun x2 =>
 ldL (a.add 3) fun x3 =>
 K ⟨x0, x1, x2, x3⟩
structure G_frame_reader where
  b : Sl
  at_ : Int
  out : Sl
abbrev G_frame_reader.v (r : G_frame_reader) : Value := .agg #[.slice r.b.a r.b.len r.b.cap, .int .i64 r.at_, .slice r.out.a r.out.len r.out.cap]
structure G_octet_Sink where
  b : Sl
abbrev G_octet_Sink.v (r : G_octet_Sink) : Value := .agg #[.slice r.b.a r.b.len r.b.cap]
structure G_octet_Source where
  b : Sl
  at_ : Int
  e : Int
abbrev G_octet_Source.v (r : G_octet_Source) : Value := .agg #[.slice r.b.a r.b.len r.b.cap, .int .i64 r.at_, .int .i64 r.e]
structure G_rf03_Found where
  L : Sl
  Gaps : Sl
abbrev G_rf03_Found.v (r : G_rf03_Found) : Value := .agg #[.slice r.L.a r.L.len r.L.cap, .slice r.Gaps.a r.Gaps.len r.Gaps.cap]
def ld_G_rf03_Found (a : Addr) (K : G_rf03_Found → HP) : HP :=
 ldL (a.add 0) fun x0 =>
 ldL (a.add 1) fun x1 =>
 K ⟨x0, x1⟩
structure G_rf03_Plain where
  C : Int
  Next : Int
  E : Int
abbrev G_rf03_Plain.v (r : G_rf03_Plain) : Value := .agg #[.int .u8 r.C, .int .i64 r.Next, .int .i64 r.E]
def ld_G_rf03_Plain (a : Addr) (K : G_rf03_Plain → HP) : HP :=
 ldI .u8 (a.add 0) fun x0 =>
 ldI .i64 (a.add 1) fun x1 =>
 ldI .i64 (a.add 2) fun x2 =>
 K ⟨x0, x1, x2⟩
structure G_rf04_Disk where
  Files : Sl
  Now : Sl
  Sure : Sl
  Waits : Sl
  Capacity : Int
  Down : Bool
  Calls : Int
  Fail : Int
  Crash : Int
  Err : Int
abbrev G_rf04_Disk.v (r : G_rf04_Disk) : Value := .agg #[.slice r.Files.a r.Files.len r.Files.cap, .slice r.Now.a r.Now.len r.Now.cap, .slice r.Sure.a r.Sure.len r.Sure.cap, .slice r.Waits.a r.Waits.len r.Waits.cap, .int .i64 r.Capacity, .bool r.Down, .int .i64 r.Calls, .int .i64 r.Fail, .int .i64 r.Crash, .int .i64 r.Err]
structure G_rf04_Entry where
  Name : ByteArray
  File : Int
abbrev G_rf04_Entry.v (r : G_rf04_Entry) : Value := .agg #[.string r.Name, .int .i64 r.File]
def ld_G_rf04_Entry (a : Addr) (K : G_rf04_Entry → HP) : HP :=
 ldS (a.add 0) fun x0 =>
 ldI .i64 (a.add 1) fun x1 =>
 K ⟨x0, x1⟩
def as_G_rf04_Entry (v : Value) (K : G_rf04_Entry → HP) : HP :=
 asAgg v 2 fun cs =>
 asS (cs.getD 0 undef) fun x0 =>
 asI .i64 (cs.getD 1 undef) fun x1 =>
 K ⟨x0, x1⟩
structure G_rf04_File where
  Now : ByteArray
  Sure : ByteArray
  Waits : Sl
abbrev G_rf04_File.v (r : G_rf04_File) : Value := .agg #[.string r.Now, .string r.Sure, .slice r.Waits.a r.Waits.len r.Waits.cap]
structure G_rf04_Turn where
  From : ByteArray
  To : ByteArray
  File : Int
abbrev G_rf04_Turn.v (r : G_rf04_Turn) : Value := .agg #[.string r.From, .string r.To, .int .i64 r.File]
def ld_G_rf04_Turn (a : Addr) (K : G_rf04_Turn → HP) : HP :=
 ldS (a.add 0) fun x0 =>
 ldS (a.add 1) fun x1 =>
 ldI .i64 (a.add 2) fun x2 =>
 K ⟨x0, x1, x2⟩
def as_G_rf04_Turn (v : Value) (K : G_rf04_Turn → HP) : HP :=
 asAgg v 3 fun cs =>
 asS (cs.getD 0 undef) fun x0 =>
 asS (cs.getD 1 undef) fun x1 =>
 asI .i64 (cs.getD 2 undef) fun x2 =>
 K ⟨x0, x1, x2⟩
structure G_rf14_Lot where
  L : Sl
  Broken : Int
abbrev G_rf14_Lot.v (r : G_rf14_Lot) : Value := .agg #[.slice r.L.a r.L.len r.L.cap, .int .i64 r.Broken]
def ld_G_rf14_Lot (a : Addr) (K : G_rf14_Lot → HP) : HP :=
 ldL (a.add 0) fun x0 =>
 ldI .i64 (a.add 1) fun x1 =>
 K ⟨x0, x1⟩
structure G_rf18_Box where
  D : Option Addr
  User : Int
  Bound : Int
  Next : Int
  L : Sl
abbrev G_rf18_Box.v (r : G_rf18_Box) : Value := .agg #[.pointer r.D, .int .i64 r.User, .int .i64 r.Bound, .int .i64 r.Next, .slice r.L.a r.L.len r.L.cap]
structure G_rf18_Container where
  Seq : Int
  Size : Int
  Broken : Int
  L : Sl
abbrev G_rf18_Container.v (r : G_rf18_Container) : Value := .agg #[.int .i64 r.Seq, .int .i64 r.Size, .int .i64 r.Broken, .slice r.L.a r.L.len r.L.cap]
def ld_G_rf18_Container (a : Addr) (K : G_rf18_Container → HP) : HP :=
 ldI .i64 (a.add 0) fun x0 =>
 ldI .i64 (a.add 1) fun x1 =>
 ldI .i64 (a.add 2) fun x2 =>
 ldL (a.add 3) fun x3 =>
 K ⟨x0, x1, x2, x3⟩
structure G_record_part where
  width : Int
  low : Int
  high : Int
  at_ : Option Addr
abbrev G_record_part.v (r : G_record_part) : Value := .agg #[.int .i64 r.width, .int .i64 r.low, .int .i64 r.high, .pointer r.at_]
def ld_G_record_part (a : Addr) (K : G_record_part → HP) : HP :=
 ldI .i64 (a.add 0) fun x0 =>
 ldI .i64 (a.add 1) fun x1 =>
 ldI .i64 (a.add 2) fun x2 =>
 ldP (a.add 3) fun x3 =>
 K ⟨x0, x1, x2, x3⟩
structure G_vdisk_Disk where
  room : Int
  nodes : Sl
  seen : Option Nat
  sure : Option Nat
  moves : Sl
  off : Bool
  count : Int
  fail_left : Int
  fail_code : Int
  crash_left : Int
  crash_code : Int
abbrev G_vdisk_Disk.v (r : G_vdisk_Disk) : Value := .agg #[.int .i64 r.room, .slice r.nodes.a r.nodes.len r.nodes.cap, .map r.seen, .map r.sure, .slice r.moves.a r.moves.len r.moves.cap, .bool r.off, .int .i64 r.count, .int .i64 r.fail_left, .int .i64 r.fail_code, .int .i64 r.crash_left, .int .i64 r.crash_code]
structure G_vdisk_move where
  node : Int
  name : ByteArray
  made : Bool
abbrev G_vdisk_move.v (r : G_vdisk_move) : Value := .agg #[.int .i64 r.node, .string r.name, .bool r.made]
def ld_G_vdisk_move (a : Addr) (K : G_vdisk_move → HP) : HP :=
 ldI .i64 (a.add 0) fun x0 =>
 ldS (a.add 1) fun x1 =>
 ldB (a.add 2) fun x2 =>
 K ⟨x0, x1, x2⟩
def as_G_vdisk_move (v : Value) (K : G_vdisk_move → HP) : HP :=
 asAgg v 3 fun cs =>
 asI .i64 (cs.getD 0 undef) fun x0 =>
 asS (cs.getD 1 undef) fun x1 =>
 asB (cs.getD 2 undef) fun x2 =>
 K ⟨x0, x1, x2⟩
structure G_vdisk_node where
  seen : ByteArray
  sure : ByteArray
  patches : Sl
  fresh : Bool
abbrev G_vdisk_node.v (r : G_vdisk_node) : Value := .agg #[.string r.seen, .string r.sure, .slice r.patches.a r.patches.len r.patches.cap, .bool r.fresh]
structure G_vdisk_patch where
  place : Int
  bytes : ByteArray
abbrev G_vdisk_patch.v (r : G_vdisk_patch) : Value := .agg #[.int .i64 r.place, .string r.bytes]
def ld_G_vdisk_patch (a : Addr) (K : G_vdisk_patch → HP) : HP :=
 ldI .i64 (a.add 0) fun x0 =>
 ldS (a.add 1) fun x1 =>
 K ⟨x0, x1⟩
def as_G_vdisk_patch (v : Value) (K : G_vdisk_patch → HP) : HP :=
 asAgg v 2 fun cs =>
 asI .i64 (cs.getD 0 undef) fun x0 =>
 asS (cs.getD 1 undef) fun x1 =>
 K ⟨x0, x1⟩
structure G_vdisk_trap where
  left : Int
  code : Int
abbrev G_vdisk_trap.v (r : G_vdisk_trap) : Value := .agg #[.int .i64 r.left, .int .i64 r.code]
def ld_G_vdisk_trap (a : Addr) (K : G_vdisk_trap → HP) : HP :=
 ldI .i64 (a.add 0) fun x0 =>
 ldI .i64 (a.add 1) fun x1 =>
 K ⟨x0, x1⟩
def internal_stringslite_IndexByte (p0 : ByteArray) (p1 : Int) (K : Int → HP) : HP :=
 internal_bytealg_IndexByteString p0 p1 fun t7 =>
 K t7
def internal_stringslite_IndexByte_run (xs : List Value) (K : Value → HP) : HP :=
 arity xs 2 <|
 asS (xs.getD 0 undef) fun p0 =>
 asI .u8 (xs.getD 1 undef) fun p1 =>
 internal_stringslite_IndexByte p0 p1 (fun r0 => K (.int .i64 r0))
def strings_IndexByte (p0 : ByteArray) (p1 : Int) (K : Int → HP) : HP :=
 internal_stringslite_IndexByte p0 p1 fun t7 =>
 K t7
def strings_IndexByte_run (xs : List Value) (K : Value → HP) : HP :=
 arity xs 2 <|
 asS (xs.getD 0 undef) fun p0 =>
 asI .u8 (xs.getD 1 undef) fun p1 =>
 strings_IndexByte p0 p1 (fun r0 => K (.int .i64 r0))
def vdisk_named (p0 : ByteArray) (K : Bool → HP) : HP :=
 loop (σ := List Value) (fun R1 vs1 =>
 asI .i64 (vs1.getD 0 undef) fun t6 =>
 bif (decide ((t6 : Int) < (p0.size : Nat))) then (
 ixS p0 t6 fun t11 =>
 strings_IndexByte (⟨#[97, 98, 99, 100, 101, 102, 103, 104, 105, 106, 107, 108, 109, 110, 111, 112, 113, 114, 115, 116, 117, 118, 119, 120, 121, 122, 48, 49, 50, 51, 52, 53, 54, 55, 56, 57, 46, 45]⟩ : ByteArray) t11 fun t12 =>
 bif (decide ((t12 : Int) < 0)) then (
 K false) else
 R1 [.int .i64 (w64 (t6 + 1))]) else
 bif (!decide (p0 = (⟨#[]⟩ : ByteArray))) then (
 K (decide (((p0.size : Nat) : Int) ≤ 32))) else
 K false) [.int .i64 0]
def vdisk_named_run (xs : List Value) (K : Value → HP) : HP :=
 arity xs 1 <|
 asS (xs.getD 0 undef) fun p0 =>
 vdisk_named p0 (fun r0 => K (.bool r0))
def vdisk_Disk_free (p0 : Option Addr) (K : Int → HP) : HP :=
 nn p0 fun t7 =>
 ldI .i64 (t7.add 0) fun t9 =>
 nn p0 fun t11 =>
 ldM (t11.add 2) fun t13 =>
 mrng t13 fun t14 =>
 loop (σ := List Value) (fun R1 vs1 =>
 asI .i64 (vs1.getD 0 undef) fun t3 =>
 mnext t14 (
 K t3) fun t15k t15v =>
 ment t14 fun t17k t17v =>
 inS t17k fun t17k =>
 inI .i64 t17v fun t17v =>
 nn p0 fun t21 =>
 ldL (t21.add 1) fun t23 =>
 ixL t23 1 t17v fun t25 =>
 ldP t25 fun t26 =>
 nn t26 fun t27 =>
 ldS (t27.add 0) fun t29 =>
 R1 [.int .i64 (w64 (t3 - (t29.size : Nat)))]) [.int .i64 t9]
def vdisk_Disk_free_run (xs : List Value) (K : Value → HP) : HP :=
 arity xs 1 <|
 asP (xs.getD 0 undef) fun p0 =>
 vdisk_Disk_free p0 (fun r0 => K (.int .i64 r0))
def maps_Clone_vdisk_names_string_int (p0 : Option Nat) (K : Option Nat → HP) : HP :=
 bif p0.isNone then (
 K none) else
 mclone p0 fun t7 =>
 K (some t7)
def maps_Clone_vdisk_names_string_int_run (xs : List Value) (K : Value → HP) : HP :=
 arity xs 1 <|
 asM (xs.getD 0 undef) fun p0 =>
 maps_Clone_vdisk_names_string_int p0 (fun r0 => K (.map r0))
def vdisk_New_j3 (t5 : Nat) (t7 : Nat) (t27 : Sl) (t28 : Int) (t29 : Int) (t57 : Bool) (K : Option Addr → HP) (R1 : List Value → HP) : HP :=
 bif t57 then (
 K none) else
 nn (some (at0 t5)) fun t59 =>
 ldM (t59.add 2) fun t61 =>
 ldS ((at0 t7).add 0) fun t63 =>
 nn (some (at0 t5)) fun t65 =>
 ldL (t65.add 1) fun t67 =>
 mput .string t61 (Value.string t63) (Value.int .i64 (t67.len : Nat)) (
 nn (some (at0 t5)) fun t71 =>
 ldL (t71.add 1) fun t73 =>
 ldL ((at0 t7).add 1) fun t75 =>
 ldBy t75 fun t76 =>
 ldL ((at0 t7).add 1) fun t78 =>
 ldBy t78 fun t79 =>
 newc #[.string t76, .string t79, .slice none 0 0, .bool false] fun t81 =>
 held (ldL (t71.add 1) fun t73_2 =>
 fun _ => (Value.slice t73_2.a t73_2.len t73_2.cap) = (Value.slice t73.a t73.len t73.cap)) (
 newc #[.pointer (some (at0 t81))] fun t82 =>
 held (ldL (t71.add 1) fun t73_1 =>
 fun _ => (Value.slice t73_1.a t73_1.len t73_1.cap) = (Value.slice t73.a t73.len t73.cap)) (
 app 1 8 #[.pointer none] t73 (⟨some (at0 t82), 1, 1⟩ : Sl) fun t83 =>
 nn (some (at0 t5)) fun t84 =>
 sts (t84.add 1) 0 [.slice t83.a t83.len t83.cap] (
 R1 [.int .i64 (w64 (t29 + 1))]))))
def vdisk_New_j2 (t5 : Nat) (t7 : Nat) (t9 : Bool) (t27 : Sl) (t28 : Int) (t29 : Int) (K : Option Addr → HP) (R1 : List Value → HP) : HP :=
 bif t9 then (
 held (fun _ => True) (
 vdisk_New_j3 t5 t7 t27 t28 t29 true K R1)) else
 ldS ((at0 t7).add 0) fun t46 =>
 vdisk_named t46 fun t47 =>
 bif (!t47) then (
 held (fun _ => True) (
 vdisk_New_j3 t5 t7 t27 t28 t29 true K R1)) else
 ldL ((at0 t7).add 1) fun t52 =>
 vdisk_Disk_free (some (at0 t5)) fun t55 =>
 held (ldL ((at0 t7).add 1) fun t52_1 =>
 fun _ => (Value.slice t52_1.a t52_1.len t52_1.cap) = (Value.slice t52.a t52.len t52.cap)) (
 vdisk_New_j3 t5 t7 t27 t28 t29 (decide ((t55 : Int) < (t52.len : Nat))) K R1)
def vdisk_New_j1 (t0 : Sl) (t1 : Int) (t20 : Bool) (K : Option Addr → HP) : HP :=
 bif t20 then (
 K none) else
 newo (.map #[] 0) fun t22 =>
 newc #[.int .i64 t1, .slice none 0 0, .map (some t22), .map none, .slice none 0 0, .bool false, .int .i64 0, .int .i64 (-1), .int .i64 0, .int .i64 (-1), .int .i64 0] fun t26 =>
 loop (σ := List Value) (fun R1 vs1 =>
 asI .i64 (vs1.getD 0 undef) fun t29 =>
 bif (decide ((t29 : Int) < (t0.len : Nat))) then (
 ixL t0 2 t29 fun t31 =>
 ld_G_api_File t31 fun t32 =>
 newc #[.string (⟨#[]⟩ : ByteArray), .slice none 0 0] fun t7 =>
 sts (at0 t7) 0 [.string t32.Name, .slice t32.Data.a t32.Data.len t32.Data.cap] (
 nn (some (at0 t26)) fun t35 =>
 ldM (t35.add 2) fun t37 =>
 ldS ((at0 t7).add 0) fun t39 =>
 mget .string t37 (Value.string t39) (
 vdisk_New_j2 t26 t7 false t0 (t0.len : Nat) t29 K R1) fun t40 =>
 inI .i64 t40 fun t40_1 =>
 vdisk_New_j2 t26 t7 true t0 (t0.len : Nat) t29 K R1)) else
 nn (some (at0 t26)) fun t89 =>
 ldM (t89.add 2) fun t91 =>
 maps_Clone_vdisk_names_string_int t91 fun t92 =>
 nn (some (at0 t26)) fun t93 =>
 sts (t93.add 3) 0 [.map t92] (
 K (some (at0 t26)))) [.int .i64 0]
def vdisk_New (p0 : Sl) (p1 : Int) (K : Option Addr → HP) : HP :=
 bif (decide ((p1 : Int) < 1)) then (
 vdisk_New_j1 p0 p1 true K) else
 bif (decide ((4194304 : Int) < p1)) then (
 vdisk_New_j1 p0 p1 true K) else
 vdisk_New_j1 p0 p1 (decide ((1024 : Int) < (p0.len : Nat))) K
def vdisk_New_run (xs : List Value) (K : Value → HP) : HP :=
 arity xs 2 <|
 asL (xs.getD 0 undef) fun p0 =>
 asI .i64 (xs.getD 1 undef) fun p1 =>
 vdisk_New p0 p1 (fun r0 => K (.pointer r0))
def dbox_isUser (p0 : Int) (K : Bool → HP) : HP :=
 bif (decide ((1 : Int) ≤ p0)) then (
 K (decide ((p0 : Int) ≤ 999))) else
 K false
def dbox_isUser_run (xs : List Value) (K : Value → HP) : HP :=
 arity xs 1 <|
 asI .i64 (xs.getD 0 undef) fun p0 =>
 dbox_isUser p0 (fun r0 => K (.bool r0))
def dbox_isSeq (p0 : Int) (K : Bool → HP) : HP :=
 bif (decide ((1 : Int) ≤ p0)) then (
 K (decide ((p0 : Int) ≤ 99999999))) else
 K false
def dbox_isSeq_run (xs : List Value) (K : Value → HP) : HP :=
 arity xs 1 <|
 asI .i64 (xs.getD 0 undef) fun p0 =>
 dbox_isSeq p0 (fun r0 => K (.bool r0))
def math_bits_Mul64 (p0 : Int) (p1 : Int) (K : Int → Int → HP) : HP :=
 ng 32 (
 ng 32 (
 ng 32 (
 ng 32 (
 ng 32 (
 K (wr .u64 ((wr .u64 ((wr .u64 ((ishr .u64 p0 32) * (ishr .u64 p1 32))) + (ishr .u64 (wr .u64 ((wr .u64 ((ishr .u64 p0 32) * (iand .u64 p1 4294967295))) + (ishr .u64 (wr .u64 ((iand .u64 p0 4294967295) * (iand .u64 p1 4294967295))) 32))) 32))) + (ishr .u64 (wr .u64 ((iand .u64 (wr .u64 ((wr .u64 ((ishr .u64 p0 32) * (iand .u64 p1 4294967295))) + (ishr .u64 (wr .u64 ((iand .u64 p0 4294967295) * (iand .u64 p1 4294967295))) 32))) 4294967295) + (wr .u64 ((iand .u64 p0 4294967295) * (ishr .u64 p1 32))))) 32))) (wr .u64 (p0 * p1)))))))
def math_bits_Mul64_run (xs : List Value) (K : Value → HP) : HP :=
 arity xs 2 <|
 asI .u64 (xs.getD 0 undef) fun p0 =>
 asI .u64 (xs.getD 1 undef) fun p1 =>
 math_bits_Mul64 p0 p1 (fun r0 r1 => K (.tuple #[.int .u64 r0, .int .u64 r1]))
def math_bits_Mul (p0 : Int) (p1 : Int) (K : Int → Int → HP) : HP :=
 math_bits_Mul64 p0 p1 fun t25a t25b =>
 K t25a t25b
def math_bits_Mul_run (xs : List Value) (K : Value → HP) : HP :=
 arity xs 2 <|
 asI .u64 (xs.getD 0 undef) fun p0 =>
 asI .u64 (xs.getD 1 undef) fun p1 =>
 math_bits_Mul p0 p1 (fun r0 r1 => K (.tuple #[.int .u64 r0, .int .u64 r1]))
def bytes_Repeat_j2 (t0 : Sl) (t7 : Int) (t8 : Int) (K : Sl → HP) : HP :=
 internal_bytealg_MakeNoZero t7 fun t54 =>
 slL t54 1 0 t7 t7 fun t57 =>
 cpy 1 t57 t0 fun t60 =>
 loop (σ := List Value) (fun R1 vs1 =>
 asI .i64 (vs1.getD 0 undef) fun t10 =>
 bif (decide ((t10 : Int) < t7)) then (
 slL t57 1 t10 (t57.len : Nat) (t57.cap : Nat) fun t70 =>
 slL t57 1 0 (if (t8 : Int) < t10 then t8 else t10) (t57.cap : Nat) fun t73 =>
 cpy 1 t70 t73 fun t74 =>
 R1 [.int .i64 (w64 (t10 + t74))]) else
 K t57) [.int .i64 t60]
def bytes_Repeat_j1 (t0 : Sl) (t6 : Int) (t32 : Bool) (K : Sl → HP) : HP :=
 bif t32 then (
 no) else
 bif (decide (((t0.len : Nat) : Int) = 0)) then (
 newc #[] fun t39 =>
 K (⟨some (at0 t39), 0, 0⟩ : Sl)) else
 bif (decide ((8192 : Int) < (w64 t6))) then (
 nz (t0.len : Nat) (
 bif (decide ((w64 ((w64 (Int.tdiv 8192 (t0.len : Nat))) * (t0.len : Nat)) : Int) = 0)) then (
 bytes_Repeat_j2 t0 (w64 t6) (t0.len : Nat) K) else
 bytes_Repeat_j2 t0 (w64 t6) (w64 ((w64 (Int.tdiv 8192 (t0.len : Nat))) * (t0.len : Nat))) K)) else
 bytes_Repeat_j2 t0 (w64 t6) (w64 t6) K
def bytes_Repeat (p0 : Sl) (p1 : Int) (K : Sl → HP) : HP :=
 bif (decide ((p1 : Int) = 0)) then (
 newc #[] fun t14 =>
 K (⟨some (at0 t14), 0, 0⟩ : Sl)) else
 bif (decide ((p1 : Int) < 0)) then (
 no) else
 math_bits_Mul (wr .u64 (p0.len : Nat)) (wr .u64 p1) fun t24a t24b =>
 bif (decide ((0 : Int) < t24a)) then (
 bytes_Repeat_j1 p0 t24b true K) else
 bytes_Repeat_j1 p0 t24b (decide ((9223372036854775807 : Int) < t24b)) K
def bytes_Repeat_run (xs : List Value) (K : Value → HP) : HP :=
 arity xs 2 <|
 asL (xs.getD 0 undef) fun p0 =>
 asI .i64 (xs.getD 1 undef) fun p1 =>
 bytes_Repeat p0 p1 (fun r0 => K (.slice r0.a r0.len r0.cap))
def dbox_digits_j1 (t0 : Int) (t5 : Sl) (t6 : Int) (t17 : Bool) (K : ByteArray → HP) (R1 : List Value → HP) : HP :=
 bif t17 then (
 nz 10 (
 ixL t5 1 t6 fun t26 =>
 sts t26 0 [.int .u8 (wr .u8 (w64 (48 + (Int.tmod t0 10))))] (
 nz 10 (
 R1 [.int .i64 (w64 (Int.tdiv t0 10)), .int .i64 (w64 (t6 - 1))])))) else
 ldBy t5 fun t30 =>
 K t30
def dbox_digits (p0 : Int) (p1 : Int) (K : ByteArray → HP) : HP :=
 newc #[.int .u8 48] fun t7 =>
 bytes_Repeat (⟨some (at0 t7), 1, 1⟩ : Sl) p1 fun t9 =>
 loop (σ := List Value) (fun R1 vs1 =>
 asI .i64 (vs1.getD 0 undef) fun t0 =>
 asI .i64 (vs1.getD 1 undef) fun t6 =>
 bif (decide ((0 : Int) < t0)) then (
 dbox_digits_j1 t0 t9 t6 (decide ((0 : Int) ≤ t6)) K R1) else
 dbox_digits_j1 t0 t9 t6 false K R1) [.int .i64 p0, .int .i64 (w64 (p1 - 1))]
def dbox_digits_run (xs : List Value) (K : Value → HP) : HP :=
 arity xs 2 <|
 asI .i64 (xs.getD 0 undef) fun p0 =>
 asI .i64 (xs.getD 1 undef) fun p1 =>
 dbox_digits p0 p1 (fun r0 => K (.string r0))
def dbox_front (p0 : Int) (K : ByteArray → HP) : HP :=
 dbox_digits p0 3 fun t4 =>
 cat (⟨#[99]⟩ : ByteArray) t4 fun t5 =>
 cat t5 (⟨#[45]⟩ : ByteArray) fun t6 =>
 K t6
def dbox_front_run (xs : List Value) (K : Value → HP) : HP :=
 arity xs 1 <|
 asI .i64 (xs.getD 0 undef) fun p0 =>
 dbox_front p0 (fun r0 => K (.string r0))
def dbox_Name_j1 (t0 : Int) (t1 : Int) (t12 : Bool) (K : ByteArray → HP) : HP :=
 bif t12 then (
 K (⟨#[]⟩ : ByteArray)) else
 dbox_front t0 fun t14 =>
 dbox_digits t1 8 fun t16 =>
 cat t14 t16 fun t17 =>
 K t17
def dbox_Name (p0 : Int) (p1 : Int) (K : ByteArray → HP) : HP :=
 dbox_isUser p0 fun t6 =>
 bif (!t6) then (
 dbox_Name_j1 p0 p1 true K) else
 dbox_isSeq p1 fun t10 =>
 dbox_Name_j1 p0 p1 (!t10) K
def dbox_Name_run (xs : List Value) (K : Value → HP) : HP :=
 arity xs 2 <|
 asI .i64 (xs.getD 0 undef) fun p0 =>
 asI .i64 (xs.getD 1 undef) fun p1 =>
 dbox_Name p0 p1 (fun r0 => K (.string r0))
def vdisk_Disk_Down (p0 : Option Addr) (K : Bool → HP) : HP :=
 nn p0 fun t4 =>
 ldB (t4.add 5) fun t6 =>
 K t6
def vdisk_Disk_Down_run (xs : List Value) (K : Value → HP) : HP :=
 arity xs 1 <|
 asP (xs.getD 0 undef) fun p0 =>
 vdisk_Disk_Down p0 (fun r0 => K (.bool r0))
def vdisk_Disk_Names (C : Cx) (p0 : Option Addr) (K : Sl → HP) : HP :=
 nn p0 fun t4 =>
 ldB (t4.add 5) fun t6 =>
 bif t6 then (
 K (⟨none, 0, 0⟩ : Sl)) else
 nn p0 fun t8 =>
 ldM (t8.add 2) fun t10 =>
 maps_Keys_vdisk_names_string_int C t10 fun t11 =>
 slices_Sorted_string C t11 fun t12 =>
 K t12
def vdisk_Disk_Names_run (C : Cx) (xs : List Value) (K : Value → HP) : HP :=
 arity xs 1 <|
 asP (xs.getD 0 undef) fun p0 =>
 vdisk_Disk_Names C p0 (fun r0 => K (.slice r0.a r0.len r0.cap))
def internal_stringslite_HasPrefix (p0 : ByteArray) (p1 : ByteArray) (K : Bool → HP) : HP :=
 bif (decide (((p1.size : Nat) : Int) ≤ (p0.size : Nat))) then (
 slS p0 0 (p1.size : Nat) fun t14 =>
 K (decide (t14 = p1))) else
 K false
def internal_stringslite_HasPrefix_run (xs : List Value) (K : Value → HP) : HP :=
 arity xs 2 <|
 asS (xs.getD 0 undef) fun p0 =>
 asS (xs.getD 1 undef) fun p1 =>
 internal_stringslite_HasPrefix p0 p1 (fun r0 => K (.bool r0))
def strings_HasPrefix (p0 : ByteArray) (p1 : ByteArray) (K : Bool → HP) : HP :=
 internal_stringslite_HasPrefix p0 p1 fun t7 =>
 K t7
def strings_HasPrefix_run (xs : List Value) (K : Value → HP) : HP :=
 arity xs 2 <|
 asS (xs.getD 0 undef) fun p0 =>
 asS (xs.getD 1 undef) fun p1 =>
 strings_HasPrefix p0 p1 (fun r0 => K (.bool r0))
def internal_stringslite_HasSuffix (p0 : ByteArray) (p1 : ByteArray) (K : Bool → HP) : HP :=
 bif (decide (((p1.size : Nat) : Int) ≤ (p0.size : Nat))) then (
 slS p0 (w64 ((p0.size : Nat) - (p1.size : Nat))) (p0.size : Nat) fun t17 =>
 K (decide (t17 = p1))) else
 K false
def internal_stringslite_HasSuffix_run (xs : List Value) (K : Value → HP) : HP :=
 arity xs 2 <|
 asS (xs.getD 0 undef) fun p0 =>
 asS (xs.getD 1 undef) fun p1 =>
 internal_stringslite_HasSuffix p0 p1 (fun r0 => K (.bool r0))
def strings_HasSuffix (p0 : ByteArray) (p1 : ByteArray) (K : Bool → HP) : HP :=
 internal_stringslite_HasSuffix p0 p1 fun t7 =>
 K t7
def strings_HasSuffix_run (xs : List Value) (K : Value → HP) : HP :=
 arity xs 2 <|
 asS (xs.getD 0 undef) fun p0 =>
 asS (xs.getD 1 undef) fun p1 =>
 strings_HasSuffix p0 p1 (fun r0 => K (.bool r0))
def vdisk_trap_spring (p0 : Option Addr) (K : Bool → HP) : HP :=
 nn p0 fun t4 =>
 ldI .i64 (t4.add 0) fun t6 =>
 bif (decide ((t6 : Int) < 0)) then (
 K false) else
 nn p0 fun t9 =>
 ldI .i64 (t9.add 0) fun t11 =>
 nn p0 fun t13 =>
 sts (t13.add 0) 0 [.int .i64 (w64 (t11 - 1))] (
 nn p0 fun t16 =>
 ldI .i64 (t16.add 0) fun t18 =>
 K (decide ((t18 : Int) < 0)))
def vdisk_trap_spring_run (xs : List Value) (K : Value → HP) : HP :=
 arity xs 1 <|
 asP (xs.getD 0 undef) fun p0 =>
 vdisk_trap_spring p0 (fun r0 => K (.bool r0))
def vdisk_Disk_change (p0 : Option Addr) (K : Int → HP) : HP :=
 nn p0 fun t6 =>
 ldB (t6.add 5) fun t8 =>
 bif t8 then (
 K 11) else
 nn p0 fun t10 =>
 ldI .i64 (t10.add 6) fun t12 =>
 nn p0 fun t14 =>
 sts (t14.add 6) 0 [.int .i64 (w64 (t12 + 1))] (
 nn p0 fun t17 =>
 nn p0 fun t21 =>
 vdisk_trap_spring (some (t17.add 9)) fun t19 =>
 vdisk_trap_spring (some (t21.add 7)) fun t23 =>
 bif t19 then (
 nn p0 fun t26 =>
 sts (t26.add 5) 0 [.bool true] (
 K 11)) else
 bif t23 then (
 nn p0 fun t30 =>
 ldI .i64 ((t30.add 7).add 1) fun t33 =>
 K t33) else
 K 0)
def vdisk_Disk_change_run (xs : List Value) (K : Value → HP) : HP :=
 arity xs 1 <|
 asP (xs.getD 0 undef) fun p0 =>
 vdisk_Disk_change p0 (fun r0 => K (.int .i64 r0))
def vdisk_Disk_find_j1 (t6 : Int) (t7 : Bool) (K : Int → Int → HP) : HP :=
 bif t7 then (
 K t6 0) else
 K 0 7
def vdisk_Disk_find (p0 : Option Addr) (p1 : ByteArray) (K : Int → Int → HP) : HP :=
 nn p0 fun t10 =>
 ldM (t10.add 2) fun t12 =>
 mget .string t12 (Value.string p1) (
 vdisk_Disk_find_j1 0 false K) fun t14 =>
 inI .i64 t14 fun t14_1 =>
 vdisk_Disk_find_j1 t14_1 true K
def vdisk_Disk_find_run (xs : List Value) (K : Value → HP) : HP :=
 arity xs 2 <|
 asP (xs.getD 0 undef) fun p0 =>
 asS (xs.getD 1 undef) fun p1 =>
 vdisk_Disk_find p0 p1 (fun r0 r1 => K (.tuple #[.int .i64 r0, .int .i64 r1]))
def vdisk_Disk_touch (p0 : Option Addr) (p1 : ByteArray) (K : Int → Int → HP) : HP :=
 vdisk_Disk_change p0 fun t8 =>
 bif (!decide ((t8 : Int) = 0)) then (
 K 0 t8) else
 vdisk_Disk_find p0 p1 fun t14a t14b =>
 K t14a t14b
def vdisk_Disk_touch_run (xs : List Value) (K : Value → HP) : HP :=
 arity xs 2 <|
 asP (xs.getD 0 undef) fun p0 =>
 asS (xs.getD 1 undef) fun p1 =>
 vdisk_Disk_touch p0 p1 (fun r0 r1 => K (.tuple #[.int .i64 r0, .int .i64 r1]))
def vdisk_names_give (p0 : Option Nat) (p1 : G_vdisk_move) (K : HP) : HP :=
 newc #[.int .i64 p1.node, .string p1.name, .bool p1.made] fun t3 =>
 mrng p0 fun t7 =>
 loop (σ := List Value) (fun R1 vs1 =>
 mnext t7 (
 ldS ((at0 t3).add 1) fun t20 =>
 bif (!decide (t20 = (⟨#[]⟩ : ByteArray))) then (
 ldS ((at0 t3).add 1) fun t24 =>
 ldI .i64 ((at0 t3).add 0) fun t26 =>
 mput .string p0 (Value.string t24) (Value.int .i64 t26) (
 K)) else
 K) fun t8k t8v =>
 ment t7 fun t10k t10v =>
 inS t10k fun t10k =>
 inI .i64 t10v fun t10v =>
 ldI .i64 ((at0 t3).add 0) fun t15 =>
 bif (decide ((t10v : Int) = t15)) then (
 mdel .string p0 (Value.string t10k) (
 R1 [])) else
 R1 []) []
def vdisk_names_give_run (xs : List Value) (K : Value → HP) : HP :=
 arity xs 2 <|
 asM (xs.getD 0 undef) fun p0 =>
 as_G_vdisk_move (xs.getD 1 undef) fun p1 =>
 vdisk_names_give p0 p1 (K (.tuple #[]))
def vdisk_Disk_turn (p0 : Option Addr) (p1 : G_vdisk_move) (K : HP) : HP :=
 newc #[.int .i64 p1.node, .string p1.name, .bool p1.made] fun t3 =>
 nn p0 fun t6 =>
 ldL (t6.add 4) fun t8 =>
 ld_G_vdisk_move (at0 t3) fun t9 =>
 newc #[.int .i64 t9.node, .string t9.name, .bool t9.made] fun t10 =>
 held (ldL (t6.add 4) fun t8_1 =>
 fun _ => (Value.slice t8_1.a t8_1.len t8_1.cap) = (Value.slice t8.a t8.len t8.cap)) (
 app 3 32 #[.int .i64 0, .string (⟨#[]⟩ : ByteArray), .bool false] t8 (⟨some (at0 t10), 1, 1⟩ : Sl) fun t11 =>
 nn p0 fun t12 =>
 sts (t12.add 4) 0 [.slice t11.a t11.len t11.cap] (
 nn p0 fun t15 =>
 ldM (t15.add 2) fun t17 =>
 ld_G_vdisk_move (at0 t3) fun t18 =>
 vdisk_names_give t17 t18 (
 K)))
def vdisk_Disk_turn_run (xs : List Value) (K : Value → HP) : HP :=
 arity xs 2 <|
 asP (xs.getD 0 undef) fun p0 =>
 as_G_vdisk_move (xs.getD 1 undef) fun p1 =>
 vdisk_Disk_turn p0 p1 (K (.tuple #[]))
def vdisk_Disk_Unlink (p0 : Option Addr) (p1 : ByteArray) (K : Int → HP) : HP :=
 vdisk_Disk_touch p0 p1 fun t10a t10b =>
 bif (decide ((t10b : Int) = 0)) then (
 vdisk_Disk_turn p0 (⟨t10a, (⟨#[]⟩ : ByteArray), false⟩ : G_vdisk_move) (
 K t10b)) else
 K t10b
def vdisk_Disk_Unlink_run (xs : List Value) (K : Value → HP) : HP :=
 arity xs 2 <|
 asP (xs.getD 0 undef) fun p0 =>
 asS (xs.getD 1 undef) fun p1 =>
 vdisk_Disk_Unlink p0 p1 (fun r0 => K (.int .i64 r0))
def safe_Tidy_j2 (C : Cx) (t0 : Option Addr) (t1 : ByteArray) (t9 : Sl) (t10 : Int) (t11 : Int) (K : Int → HP) (R1 : List Value → HP) : HP :=
 R1 [.int .i64 (w64 (t11 + 1))]
def safe_Tidy_j1 (C : Cx) (t0 : Option Addr) (t1 : ByteArray) (t6 : ByteArray) (t9 : Sl) (t10 : Int) (t11 : Int) (t21 : Bool) (K : Int → HP) (R1 : List Value → HP) : HP :=
 bif t21 then (
 vdisk_Disk_Unlink t0 t6 fun t24 =>
 bif (!decide ((t24 : Int) = 0)) then (
 K t24) else
 safe_Tidy_j2 C t0 t1 t9 t10 t11 K R1) else
 safe_Tidy_j2 C t0 t1 t9 t10 t11 K R1
def safe_Tidy (C : Cx) (p0 : Option Addr) (p1 : ByteArray) (K : Int → HP) : HP :=
 vdisk_Disk_Names C p0 fun t9 =>
 loop (σ := List Value) (fun R1 vs1 =>
 asI .i64 (vs1.getD 0 undef) fun t11 =>
 bif (decide ((t11 : Int) < (t9.len : Nat))) then (
 ixL t9 1 t11 fun t13 =>
 ldS t13 fun t14 =>
 strings_HasPrefix t14 p1 fun t17 =>
 bif t17 then (
 strings_HasSuffix t14 (⟨#[46, 110]⟩ : ByteArray) fun t20 =>
 safe_Tidy_j1 C p0 p1 t14 t9 (t9.len : Nat) t11 t20 K R1) else
 safe_Tidy_j1 C p0 p1 t14 t9 (t9.len : Nat) t11 false K R1) else
 K 0) [.int .i64 0]
def safe_Tidy_run (C : Cx) (xs : List Value) (K : Value → HP) : HP :=
 arity xs 2 <|
 asP (xs.getD 0 undef) fun p0 =>
 asS (xs.getD 1 undef) fun p1 =>
 safe_Tidy C p0 p1 (fun r0 => K (.int .i64 r0))
def internal_stringslite_TrimPrefix (p0 : ByteArray) (p1 : ByteArray) (K : ByteArray → HP) : HP :=
 internal_stringslite_HasPrefix p0 p1 fun t7 =>
 bif t7 then (
 slS p0 (p1.size : Nat) (p0.size : Nat) fun t11 =>
 K t11) else
 K p0
def internal_stringslite_TrimPrefix_run (xs : List Value) (K : Value → HP) : HP :=
 arity xs 2 <|
 asS (xs.getD 0 undef) fun p0 =>
 asS (xs.getD 1 undef) fun p1 =>
 internal_stringslite_TrimPrefix p0 p1 (fun r0 => K (.string r0))
def strings_TrimPrefix (p0 : ByteArray) (p1 : ByteArray) (K : ByteArray → HP) : HP :=
 internal_stringslite_TrimPrefix p0 p1 fun t7 =>
 K t7
def strings_TrimPrefix_run (xs : List Value) (K : Value → HP) : HP :=
 arity xs 2 <|
 asS (xs.getD 0 undef) fun p0 =>
 asS (xs.getD 1 undef) fun p1 =>
 strings_TrimPrefix p0 p1 (fun r0 => K (.string r0))
def dbox_number_j1 (t0 : Int) (t1 : ByteArray) (t5 : Int) (t7 : Int) (t12 : Sl) (t13 : Int) (t14 : Int) (t27 : Bool) (K : Int → HP) (R1 : List Value → HP) : HP :=
 bif t27 then (
 K 0) else
 R1 [.int .i64 (w64 ((w64 (10 * t5)) + (w64 (wr .u8 (t7 - 48))))), .int .i64 (w64 (t14 + 1))]
def dbox_number (p0 : Int) (p1 : ByteArray) (K : Int → HP) : HP :=
 dbox_front p0 fun t10 =>
 strings_TrimPrefix p1 t10 fun t11 =>
 s2b t11 fun t12 =>
 loop (σ := List Value) (fun R1 vs1 =>
 asI .i64 (vs1.getD 0 undef) fun t5 =>
 asI .i64 (vs1.getD 1 undef) fun t14 =>
 bif (decide ((t14 : Int) < (t12.len : Nat))) then (
 ixL t12 1 t14 fun t16 =>
 ldI .u8 t16 fun t17 =>
 bif (decide ((t17 : Int) < 48)) then (
 dbox_number_j1 p0 p1 t5 t17 t12 (t12.len : Nat) t14 true K R1) else
 bif (decide ((57 : Int) < t17)) then (
 dbox_number_j1 p0 p1 t5 t17 t12 (t12.len : Nat) t14 true K R1) else
 dbox_number_j1 p0 p1 t5 t17 t12 (t12.len : Nat) t14 (decide ((99999999 : Int) < t5)) K R1) else
 dbox_Name p0 t5 fun t37 =>
 bif (!decide (t37 = p1)) then (
 K 0) else
 K t5) [.int .i64 0, .int .i64 0]
def dbox_number_run (xs : List Value) (K : Value → HP) : HP :=
 arity xs 2 <|
 asI .i64 (xs.getD 0 undef) fun p0 =>
 asS (xs.getD 1 undef) fun p1 =>
 dbox_number p0 p1 (fun r0 => K (.int .i64 r0))
def vdisk_Disk_text (p0 : Option Addr) (p1 : ByteArray) (K : ByteArray → Int → HP) : HP :=
 nn p0 fun t9 =>
 ldB (t9.add 5) fun t11 =>
 bif t11 then (
 K (⟨#[]⟩ : ByteArray) 11) else
 vdisk_Disk_find p0 p1 fun t15a t15b =>
 bif (!decide ((t15b : Int) = 0)) then (
 K (⟨#[]⟩ : ByteArray) t15b) else
 nn p0 fun t22 =>
 ldL (t22.add 1) fun t24 =>
 ixL t24 1 t15a fun t26 =>
 ldP t26 fun t27 =>
 nn t27 fun t28 =>
 ldS (t28.add 0) fun t30 =>
 K t30 0
def vdisk_Disk_text_run (xs : List Value) (K : Value → HP) : HP :=
 arity xs 2 <|
 asP (xs.getD 0 undef) fun p0 =>
 asS (xs.getD 1 undef) fun p1 =>
 vdisk_Disk_text p0 p1 (fun r0 r1 => K (.tuple #[.string r0, .int .i64 r1]))
def vdisk_Disk_Read (p0 : Option Addr) (p1 : ByteArray) (K : Sl → Int → HP) : HP :=
 vdisk_Disk_text p0 p1 fun t11a t11b =>
 s2b t11a fun t15 =>
 K t15 t11b
def vdisk_Disk_Read_run (xs : List Value) (K : Value → HP) : HP :=
 arity xs 2 <|
 asP (xs.getD 0 undef) fun p0 =>
 asS (xs.getD 1 undef) fun p1 =>
 vdisk_Disk_Read p0 p1 (fun r0 r1 => K (.tuple #[.slice r0.a r0.len r0.cap, .int .i64 r1]))
def frame_Scan_1 (p0 : Int) (p1 : Addr) (p2 : Addr) (K : HP) : HP :=
 ldI .i64 p1 fun t4 =>
 bif (decide ((t4 : Int) < p0)) then (
 ldL p2 fun t7 =>
 ldI .i64 p1 fun t8 =>
 newc #[.int .i64 t8, .int .i64 p0] fun t11 =>
 app 2 16 #[.int .i64 0, .int .i64 0] t7 (⟨some (at0 t11), 1, 1⟩ : Sl) fun t12 =>
 sts p2 0 [.slice t12.a t12.len t12.cap] (
 K)) else
 K
def frame_Scan_1_run (xs : List Value) (K : Value → HP) : HP :=
 arity xs 3 <|
 asI .i64 (xs.getD 0 undef) fun p0 =>
 asA (xs.getD 1 undef) fun p1 =>
 asA (xs.getD 2 undef) fun p2 =>
 frame_Scan_1 p0 p1 p2 (K (.tuple #[]))
def frame_reader_read_j1 (t0 : Option Addr) (t1 : Int) (t5 : Int) (K : Int → HP) (R1 : List Value → HP) : HP :=
 nn t0 fun t92 =>
 ldL (t92.add 2) fun t94 =>
 newc #[.int .u8 t5] fun t96 =>
 app 1 1 #[.int .u8 0] t94 (⟨some (at0 t96), 1, 1⟩ : Sl) fun t97 =>
 nn t0 fun t98 =>
 sts (t98.add 2) 0 [.slice t97.a t97.len t97.cap] (
 R1 [])
def frame_reader_read (p0 : Option Addr) (p1 : Int) (K : Int → HP) : HP :=
 loop (σ := List Value) (fun R1 vs1 =>
 nn p0 fun t7 =>
 ldL (t7.add 2) fun t9 =>
 bif (decide (((t9.len : Nat) : Int) < p1)) then (
 nn p0 fun t14 =>
 ldI .i64 (t14.add 1) fun t16 =>
 nn p0 fun t18 =>
 ldL (t18.add 0) fun t20 =>
 bif (decide ((t16 : Int) = (t20.len : Nat))) then (
 K 2) else
 nn p0 fun t24 =>
 ldL (t24.add 0) fun t26 =>
 nn p0 fun t28 =>
 ldI .i64 (t28.add 1) fun t30 =>
 ixL t26 1 t30 fun t31 =>
 ldI .u8 t31 fun t32 =>
 bif (decide ((t32 : Int) = 80)) then (
 K 3) else
 bif (!decide ((t32 : Int) = 81)) then (
 nn p0 fun t59 =>
 ldI .i64 (t59.add 1) fun t61 =>
 nn p0 fun t63 =>
 sts (t63.add 1) 0 [.int .i64 (w64 (t61 + 1))] (
 frame_reader_read_j1 p0 p1 t32 K R1)) else
 nn p0 fun t67 =>
 ldI .i64 (t67.add 1) fun t69 =>
 nn p0 fun t72 =>
 ldL (t72.add 0) fun t74 =>
 bif (decide ((w64 (t69 + 1) : Int) = (t74.len : Nat))) then (
 K 2) else
 nn p0 fun t79 =>
 ldL (t79.add 0) fun t81 =>
 nn p0 fun t83 =>
 ldI .i64 (t83.add 1) fun t85 =>
 ixL t81 1 (w64 (t85 + 1)) fun t87 =>
 ldI .u8 t87 fun t88 =>
 bif (decide ((1 : Int) < t88)) then (
 K 3) else
 nn p0 fun t34 =>
 ldL (t34.add 0) fun t36 =>
 nn p0 fun t38 =>
 ldI .i64 (t38.add 1) fun t40 =>
 ixL t36 1 (w64 (t40 + 1)) fun t42 =>
 ldI .u8 t42 fun t43 =>
 nn p0 fun t46 =>
 ldI .i64 (t46.add 1) fun t48 =>
 nn p0 fun t50 =>
 sts (t50.add 1) 0 [.int .i64 (w64 (t48 + 2))] (
 frame_reader_read_j1 p0 p1 (wr .u8 (80 + t43)) K R1)) else
 K 0) []
def frame_reader_read_run (xs : List Value) (K : Value → HP) : HP :=
 arity xs 2 <|
 asP (xs.getD 0 undef) fun p0 =>
 asI .i64 (xs.getD 1 undef) fun p1 =>
 frame_reader_read p0 p1 (fun r0 => K (.int .i64 r0))
def octet_good (p0 : Int) (K : Bool → HP) : HP :=
 bif (decide ((1 : Int) ≤ p0)) then (
 K (decide ((p0 : Int) ≤ 8))) else
 K false
def octet_good_run (xs : List Value) (K : Value → HP) : HP :=
 arity xs 1 <|
 asI .i64 (xs.getD 0 undef) fun p0 =>
 octet_good p0 (fun r0 => K (.bool r0))
def octet_Get_j1 (t0 : Sl) (t1 : Int) (t2 : Int) (t31 : Bool) (K : Int → Bool → HP) : HP :=
 bif t31 then (
 K 0 false) else
 slL t0 1 t1 (w64 (t1 + t2)) (t0.cap : Nat) fun t37 =>
 loop (σ := List Value) (fun R1 vs1 =>
 asI .u64 (vs1.getD 0 undef) fun t8 =>
 asI .i64 (vs1.getD 1 undef) fun t39 =>
 bif (decide ((t39 : Int) < (t37.len : Nat))) then (
 ixL t37 1 t39 fun t41 =>
 ldI .u8 t41 fun t42 =>
 ng 8 (
 R1 [.int .u64 (ior .u64 (ishl .u64 t8 8) (wr .u64 t42)), .int .i64 (w64 (t39 + 1))])) else
 K t8 true) [.int .u64 0, .int .i64 0]
def octet_Get (p0 : Sl) (p1 : Int) (p2 : Int) (K : Int → Bool → HP) : HP :=
 octet_good p2 fun t12 =>
 bif (!t12) then (
 octet_Get_j1 p0 p1 p2 true K) else
 bif (decide ((p1 : Int) < 0)) then (
 octet_Get_j1 p0 p1 p2 true K) else
 bif (decide (((p0.len : Nat) : Int) < p1)) then (
 octet_Get_j1 p0 p1 p2 true K) else
 octet_Get_j1 p0 p1 p2 (decide ((w64 ((p0.len : Nat) - p1) : Int) < p2)) K
def octet_Get_run (xs : List Value) (K : Value → HP) : HP :=
 arity xs 3 <|
 asL (xs.getD 0 undef) fun p0 =>
 asI .i64 (xs.getD 1 undef) fun p1 =>
 asI .i64 (xs.getD 2 undef) fun p2 =>
 octet_Get p0 p1 p2 (fun r0 r1 => K (.tuple #[.int .u64 r0, .bool r1]))
def crc_row_j1 (t0 : Nat) (t1 : Int) (t2 : Int) (t3 : Int) (t8 : Int) (K : G_A16_uint32 → HP) (R1 : List Value → HP) (R2 : List Value → HP) : HP :=
 R2 [.int .u32 t2, .int .i64 (w64 (t8 + 1))]
def crc_row (K : G_A16_uint32 → HP) : HP :=
 newc #[.int .u32 0, .int .u32 0, .int .u32 0, .int .u32 0, .int .u32 0, .int .u32 0, .int .u32 0, .int .u32 0, .int .u32 0, .int .u32 0, .int .u32 0, .int .u32 0, .int .u32 0, .int .u32 0, .int .u32 0, .int .u32 0] fun t0 =>
 loop (σ := List Value) (fun R1 vs1 =>
 asI .i64 (vs1.getD 0 undef) fun t3 =>
 bif (decide ((t3 : Int) < 16)) then (
 loop (σ := List Value) (fun R2 vs2 =>
 asI .u32 (vs2.getD 0 undef) fun t2 =>
 asI .i64 (vs2.getD 1 undef) fun t8 =>
 bif (decide ((t8 : Int) < 4)) then (
 bif (decide ((iand .u32 t2 1 : Int) = 1)) then (
 ng 1 (
 crc_row_j1 t0 t3 (ixor .u32 (ishr .u32 t2 1) 3988292384) t3 t8 K R1 R2)) else
 ng 1 (
 crc_row_j1 t0 t3 (ishr .u32 t2 1) t3 t8 K R1 R2)) else
 ixA (at0 t0) 16 1 t3 fun t21 =>
 sts t21 0 [.int .u32 t2] (
 R1 [.int .i64 (w64 (t3 + 1))])) [.int .u32 (wr .u32 t3), .int .i64 0]) else
 ld_G_A16_uint32 (at0 t0) fun t23 =>
 sts (at0 t0) 0 [.int .u32 t23.c0, .int .u32 t23.c1, .int .u32 t23.c2, .int .u32 t23.c3, .int .u32 t23.c4, .int .u32 t23.c5, .int .u32 t23.c6, .int .u32 t23.c7, .int .u32 t23.c8, .int .u32 t23.c9, .int .u32 t23.c10, .int .u32 t23.c11, .int .u32 t23.c12, .int .u32 t23.c13, .int .u32 t23.c14, .int .u32 t23.c15] (
 ld_G_A16_uint32 (at0 t0) fun r0 =>
 K r0)) [.int .i64 0]
def crc_row_run (xs : List Value) (K : Value → HP) : HP :=
 arity xs 0 <|
 crc_row (fun r0 => K (r0.v))
def crc_More (p0 : Int) (p1 : Sl) (K : Int → HP) : HP :=
 crc_row fun t9 =>
 newc #[.int .u32 0, .int .u32 0, .int .u32 0, .int .u32 0, .int .u32 0, .int .u32 0, .int .u32 0, .int .u32 0, .int .u32 0, .int .u32 0, .int .u32 0, .int .u32 0, .int .u32 0, .int .u32 0, .int .u32 0, .int .u32 0] fun t5 =>
 sts (at0 t5) 0 [.int .u32 t9.c0, .int .u32 t9.c1, .int .u32 t9.c2, .int .u32 t9.c3, .int .u32 t9.c4, .int .u32 t9.c5, .int .u32 t9.c6, .int .u32 t9.c7, .int .u32 t9.c8, .int .u32 t9.c9, .int .u32 t9.c10, .int .u32 t9.c11, .int .u32 t9.c12, .int .u32 t9.c13, .int .u32 t9.c14, .int .u32 t9.c15] (
 loop (σ := List Value) (fun R1 vs1 =>
 asI .u32 (vs1.getD 0 undef) fun t6 =>
 asI .i64 (vs1.getD 1 undef) fun t14 =>
 bif (decide ((t14 : Int) < (p1.len : Nat))) then (
 ixL p1 1 t14 fun t16 =>
 ldI .u8 t16 fun t17 =>
 ixA (at0 t5) 16 1 (iand .u32 (ixor .u32 t6 (wr .u32 t17)) 15) fun t24 =>
 ldI .u32 t24 fun t25 =>
 ng 4 (
 ixA (at0 t5) 16 1 (iand .u32 (ixor .u32 t25 (ishr .u32 (ixor .u32 t6 (wr .u32 t17)) 4)) 15) fun t31 =>
 ldI .u32 t31 fun t32 =>
 ng 4 (
 R1 [.int .u32 (ixor .u32 t32 (ishr .u32 (ixor .u32 t25 (ishr .u32 (ixor .u32 t6 (wr .u32 t17)) 4)) 4)), .int .i64 (w64 (t14 + 1))]))) else
 K (ixor .u32 (if IntKind.signed .u32 then -1 else IntKind.max .u32) t6)) [.int .u32 (ixor .u32 (if IntKind.signed .u32 then -1 else IntKind.max .u32) p0), .int .i64 0])
def crc_More_run (xs : List Value) (K : Value → HP) : HP :=
 arity xs 2 <|
 asI .u32 (xs.getD 0 undef) fun p0 =>
 asL (xs.getD 1 undef) fun p1 =>
 crc_More p0 p1 (fun r0 => K (.int .u32 r0))
def crc_Of (p0 : Sl) (K : Int → HP) : HP :=
 crc_More 0 p0 fun t4 =>
 K t4
def crc_Of_run (xs : List Value) (K : Value → HP) : HP :=
 arity xs 1 <|
 asL (xs.getD 0 undef) fun p0 =>
 crc_Of p0 (fun r0 => K (.int .u32 r0))
def frame_sum (p0 : Sl) (p1 : Sl) (K : Int → HP) : HP :=
 crc_Of p0 fun t6 =>
 crc_More t6 p1 fun t8 =>
 K t8
def frame_sum_run (xs : List Value) (K : Value → HP) : HP :=
 arity xs 2 <|
 asL (xs.getD 0 undef) fun p0 =>
 asL (xs.getD 1 undef) fun p1 =>
 frame_sum p0 p1 (fun r0 => K (.int .u32 r0))
def frame_At_j1 (t0 : Sl) (t1 : Int) (t4 : Nat) (t11 : Bool) (K : G_api_Frame → Int → HP) : HP :=
 bif t11 then (
 ld_G_api_Frame (at0 t4) fun t20 =>
 sts (at0 t4) 0 [.int .i64 t20.At, .int .i64 t20.Len, .int .i64 t20.Kind, .slice t20.Payload.a t20.Payload.len t20.Payload.cap] (
 ld_G_api_Frame (at0 t4) fun r4 =>
 K r4 1)) else
 bif (decide ((t1 : Int) = (t0.len : Nat))) then (
 ld_G_api_Frame (at0 t4) fun t26 =>
 sts (at0 t4) 0 [.int .i64 t26.At, .int .i64 t26.Len, .int .i64 t26.Kind, .slice t26.Payload.a t26.Payload.len t26.Payload.cap] (
 ld_G_api_Frame (at0 t4) fun r4_1 =>
 K r4_1 2)) else
 ixL t0 1 t1 fun t30 =>
 ldI .u8 t30 fun t31 =>
 bif (!decide ((t31 : Int) = 80)) then (
 ld_G_api_Frame (at0 t4) fun t33 =>
 sts (at0 t4) 0 [.int .i64 t33.At, .int .i64 t33.Len, .int .i64 t33.Kind, .slice t33.Payload.a t33.Payload.len t33.Payload.cap] (
 ld_G_api_Frame (at0 t4) fun r4_2 =>
 K r4_2 3)) else
 newc #[.slice t0.a t0.len t0.cap, .int .i64 (w64 (t1 + 1)), .slice none 0 0] fun t38 =>
 frame_reader_read (some (at0 t38)) 5 fun t40 =>
 bif (!decide ((t40 : Int) = 0)) then (
 ld_G_api_Frame (at0 t4) fun t43 =>
 sts (at0 t4) 0 [.int .i64 t43.At, .int .i64 t43.Len, .int .i64 t43.Kind, .slice t43.Payload.a t43.Payload.len t43.Payload.cap] (
 ld_G_api_Frame (at0 t4) fun r4 =>
 K r4 t40)) else
 nn (some (at0 t38)) fun t47 =>
 ldL (t47.add 2) fun t49 =>
 octet_Get t49 1 4 fun t50a t50b =>
 bif (decide ((65536 : Int) < t50a)) then (
 ld_G_api_Frame (at0 t4) fun t55 =>
 sts (at0 t4) 0 [.int .i64 t55.At, .int .i64 t55.Len, .int .i64 t55.Kind, .slice t55.Payload.a t55.Payload.len t55.Payload.cap] (
 ld_G_api_Frame (at0 t4) fun r4_1 =>
 K r4_1 4)) else
 frame_reader_read (some (at0 t38)) (w64 (9 + (w64 t50a))) fun t60 =>
 bif (!decide ((t60 : Int) = 0)) then (
 ld_G_api_Frame (at0 t4) fun t63 =>
 sts (at0 t4) 0 [.int .i64 t63.At, .int .i64 t63.Len, .int .i64 t63.Kind, .slice t63.Payload.a t63.Payload.len t63.Payload.cap] (
 ld_G_api_Frame (at0 t4) fun r4_2 =>
 K r4_2 t60)) else
 nn (some (at0 t38)) fun t67 =>
 ldL (t67.add 2) fun t69 =>
 octet_Get t69 5 4 fun t70a t70b =>
 nn (some (at0 t38)) fun t74 =>
 ldL (t74.add 2) fun t76 =>
 slL t76 1 0 5 (t76.cap : Nat) fun t77 =>
 nn (some (at0 t38)) fun t79 =>
 ldL (t79.add 2) fun t81 =>
 slL t81 1 9 (t81.len : Nat) (t81.cap : Nat) fun t82 =>
 frame_sum t77 t82 fun t83 =>
 bif (!decide ((wr .u64 t83 : Int) = t70a)) then (
 ld_G_api_Frame (at0 t4) fun t87 =>
 sts (at0 t4) 0 [.int .i64 t87.At, .int .i64 t87.Len, .int .i64 t87.Kind, .slice t87.Payload.a t87.Payload.len t87.Payload.cap] (
 ld_G_api_Frame (at0 t4) fun r4_3 =>
 K r4_3 5)) else
 nn (some (at0 t38)) fun t90 =>
 ldI .i64 (t90.add 1) fun t92 =>
 nn (some (at0 t38)) fun t96 =>
 ldL (t96.add 2) fun t98 =>
 ixL t98 1 0 fun t99 =>
 ldI .u8 t99 fun t100 =>
 nn (some (at0 t38)) fun t103 =>
 ldL (t103.add 2) fun t105 =>
 nn (some (at0 t38)) fun t107 =>
 ldL (t107.add 2) fun t109 =>
 nn (some (at0 t38)) fun t112 =>
 ldL (t112.add 2) fun t114 =>
 slL t105 1 9 (t109.len : Nat) (t114.len : Nat) fun t116 =>
 sts (at0 t4) 0 [.int .i64 t1, .int .i64 (w64 (t92 - t1)), .int .i64 (w64 t100), .slice t116.a t116.len t116.cap] (
 ld_G_api_Frame (at0 t4) fun r4_4 =>
 K r4_4 0)
def frame_At (p0 : Sl) (p1 : Int) (K : G_api_Frame → Int → HP) : HP :=
 newc #[.int .i64 0, .int .i64 0, .int .i64 0, .slice none 0 0] fun t4 =>
 bif (decide ((p1 : Int) < 0)) then (
 frame_At_j1 p0 p1 t4 true K) else
 frame_At_j1 p0 p1 t4 (decide (((p0.len : Nat) : Int) < p1)) K
def frame_At_run (xs : List Value) (K : Value → HP) : HP :=
 arity xs 2 <|
 asL (xs.getD 0 undef) fun p0 =>
 asI .i64 (xs.getD 1 undef) fun p1 =>
 frame_At p0 p1 (fun r0 r1 => K (.tuple #[r0.v, .int .i64 r1]))
def frame_Scan (C : Cx) (p0 : Sl) (K : Sl → Sl → HP) : HP :=
 newc #[.slice none 0 0] fun t3 =>
 newc #[.int .i64 0] fun t4 =>
 sts (at0 t4) 0 [.int .i64 0] (
 clo C (fun xs K => frame_Scan_1_run ([] ++ xs ++ [.pointer (some (at0 t4)), .pointer (some (at0 t3))]) K) fun t9 =>
 loop (σ := List Value) (fun R1 vs1 =>
 asL (vs1.getD 0 undef) fun t2 =>
 asI .i64 (vs1.getD 1 undef) fun t6 =>
 bif (decide ((t6 : Int) < (p0.len : Nat))) then (
 frame_At p0 t6 fun t17a t17b =>
 newc #[.int .i64 0, .int .i64 0, .int .i64 0, .slice none 0 0] fun t7 =>
 sts (at0 t7) 0 [.int .i64 t17a.At, .int .i64 t17a.Len, .int .i64 t17a.Kind, .slice t17a.Payload.a t17a.Payload.len t17a.Payload.cap] (
 bif (!decide ((t17b : Int) = 0)) then (
 R1 [.slice t2.a t2.len t2.cap, .int .i64 (w64 (t6 + 1))]) else
 C.ap t9 [.int .i64 t6] fun t26 =>
 ld_G_api_Frame (at0 t7) fun t28 =>
 newc #[.int .i64 t28.At, .int .i64 t28.Len, .int .i64 t28.Kind, .slice t28.Payload.a t28.Payload.len t28.Payload.cap] fun t29 =>
 app 4 48 #[.int .i64 0, .int .i64 0, .int .i64 0, .slice none 0 0] t2 (⟨some (at0 t29), 1, 1⟩ : Sl) fun t30 =>
 ldI .i64 ((at0 t7).add 1) fun t33 =>
 sts (at0 t4) 0 [.int .i64 (w64 (t6 + t33))] (
 R1 [.slice t30.a t30.len t30.cap, .int .i64 (w64 (t6 + t33))]))) else
 C.ap t9 [.int .i64 (p0.len : Nat)] fun t39 =>
 ldL (at0 t3) fun t41 =>
 sts (at0 t3) 0 [.slice t41.a t41.len t41.cap] (
 ldL (at0 t3) fun r3 =>
 K t2 r3)) [.slice none 0 0, .int .i64 0])
def frame_Scan_run (C : Cx) (xs : List Value) (K : Value → HP) : HP :=
 arity xs 1 <|
 asL (xs.getD 0 undef) fun p0 =>
 frame_Scan C p0 (fun r0 r1 => K (.tuple #[.slice r0.a r0.len r0.cap, .slice r1.a r1.len r1.cap]))
def bytes_Clone (p0 : Sl) (K : Sl → HP) : HP :=
 bif p0.a.isNone then (
 K (⟨none, 0, 0⟩ : Sl)) else
 newc #[] fun t5 =>
 app 1 1 #[.int .u8 0] (⟨some (at0 t5), 0, 0⟩ : Sl) p0 fun t7 =>
 K t7
def bytes_Clone_run (xs : List Value) (K : Value → HP) : HP :=
 arity xs 1 <|
 asL (xs.getD 0 undef) fun p0 =>
 bytes_Clone p0 (fun r0 => K (.slice r0.a r0.len r0.cap))
def octet_NewSource (p0 : Sl) (K : Option Addr → HP) : HP :=
 bytes_Clone p0 fun t4 =>
 newc #[.slice t4.a t4.len t4.cap, .int .i64 0, .int .i64 0] fun t6 =>
 K (some (at0 t6))
def octet_NewSource_run (xs : List Value) (K : Value → HP) : HP :=
 arity xs 1 <|
 asL (xs.getD 0 undef) fun p0 =>
 octet_NewSource p0 (fun r0 => K (.pointer r0))
def record_parts (p0 : Option Addr) (K : Sl → HP) : HP :=
 nn p0 fun t8 =>
 newc #[.int .i64 0, .int .i64 0, .int .i64 0, .pointer none] fun t3 =>
 sts (at0 t3) 0 [.int .i64 4, .int .i64 1, .int .i64 2147483648, .pointer (some (t8.add 5))] (
 nn p0 fun t12 =>
 newc #[.int .i64 0, .int .i64 0, .int .i64 0, .pointer none] fun t4 =>
 sts (at0 t4) 0 [.int .i64 1, .int .i64 0, .int .i64 31, .pointer (some (t12.add 7))] (
 nn p0 fun t16 =>
 newc #[.int .i64 0, .int .i64 0, .int .i64 0, .pointer none] fun t5 =>
 sts (at0 t5) 0 [.int .i64 4, .int .i64 1, .int .i64 2147483648, .pointer (some (t16.add 8))] (
 nn p0 fun t20 =>
 newc #[.int .i64 0, .int .i64 0, .int .i64 0, .pointer none] fun t6 =>
 sts (at0 t6) 0 [.int .i64 4, .int .i64 1, .int .i64 2147483649, .pointer (some (t20.add 3))] (
 nn p0 fun t24 =>
 ldI .i64 (t24.add 0) fun t26 =>
 bif (decide ((t26 : Int) = 1)) then (
 nn p0 fun t30 =>
 nn p0 fun t34 =>
 ld_G_record_part (at0 t6) fun t37 =>
 nn p0 fun t39 =>
 newc #[.int .i64 2, .int .i64 1, .int .i64 999, .pointer (some (t30.add 1)), .int .i64 4, .int .i64 1, .int .i64 2147483648, .pointer (some (t34.add 2)), .int .i64 t37.width, .int .i64 t37.low, .int .i64 t37.high, .pointer t37.at_, .int .i64 4, .int .i64 0, .int .i64 2147483648, .pointer (some (t39.add 4))] fun t42 =>
 K (⟨some (at0 t42), 4, 4⟩ : Sl)) else
 bif (decide ((t26 : Int) = 2)) then (
 ld_G_record_part (at0 t3) fun t45 =>
 nn p0 fun t47 =>
 ld_G_record_part (at0 t4) fun t50 =>
 ld_G_record_part (at0 t5) fun t51 =>
 nn p0 fun t53 =>
 nn p0 fun t57 =>
 newc #[.int .i64 t45.width, .int .i64 t45.low, .int .i64 t45.high, .pointer t45.at_, .int .i64 8, .int .i64 0, .int .i64 4503599627370496, .pointer (some (t47.add 6)), .int .i64 t50.width, .int .i64 t50.low, .int .i64 t50.high, .pointer t50.at_, .int .i64 t51.width, .int .i64 t51.low, .int .i64 t51.high, .pointer t51.at_, .int .i64 4, .int .i64 0, .int .i64 32768, .pointer (some (t53.add 9)), .int .i64 8, .int .i64 0, .int .i64 9007199254740992, .pointer (some (t57.add 10))] fun t60 =>
 K (⟨some (at0 t60), 6, 6⟩ : Sl)) else
 bif (decide ((t26 : Int) = 3)) then (
 ld_G_record_part (at0 t3) fun t63 =>
 newc #[.int .i64 t63.width, .int .i64 t63.low, .int .i64 t63.high, .pointer t63.at_] fun t64 =>
 K (⟨some (at0 t64), 1, 1⟩ : Sl)) else
 bif (decide ((t26 : Int) = 4)) then (
 ld_G_record_part (at0 t3) fun t67 =>
 ld_G_record_part (at0 t4) fun t68 =>
 newc #[.int .i64 t67.width, .int .i64 t67.low, .int .i64 t67.high, .pointer t67.at_, .int .i64 t68.width, .int .i64 t68.low, .int .i64 t68.high, .pointer t68.at_] fun t69 =>
 K (⟨some (at0 t69), 2, 2⟩ : Sl)) else
 bif (decide ((t26 : Int) = 5)) then (
 ld_G_record_part (at0 t6) fun t72 =>
 newc #[.int .i64 t72.width, .int .i64 t72.low, .int .i64 t72.high, .pointer t72.at_] fun t73 =>
 K (⟨some (at0 t73), 1, 1⟩ : Sl)) else
 bif (decide ((t26 : Int) = 6)) then (
 ld_G_record_part (at0 t5) fun t76 =>
 newc #[.int .i64 t76.width, .int .i64 t76.low, .int .i64 t76.high, .pointer t76.at_] fun t77 =>
 K (⟨some (at0 t77), 1, 1⟩ : Sl)) else
 K (⟨none, 0, 0⟩ : Sl)))))
def record_parts_run (xs : List Value) (K : Value → HP) : HP :=
 arity xs 1 <|
 asP (xs.getD 0 undef) fun p0 =>
 record_parts p0 (fun r0 => K (.slice r0.a r0.len r0.cap))
def octet_Source_fail_j2 (t0 : Option Addr) (K : Bool → HP) : HP :=
 nn t0 fun t20 =>
 ldI .i64 (t20.add 2) fun t22 =>
 K (!decide ((t22 : Int) = 0))
def octet_Source_fail_j1 (t0 : Option Addr) (t2 : Int) (t14 : Bool) (K : Bool → HP) : HP :=
 bif t14 then (
 nn t0 fun t17 =>
 sts (t17.add 2) 0 [.int .i64 t2] (
 octet_Source_fail_j2 t0 K)) else
 octet_Source_fail_j2 t0 K
def octet_Source_fail (p0 : Option Addr) (p1 : Bool) (p2 : Int) (K : Bool → HP) : HP :=
 bif p1 then (
 nn p0 fun t10 =>
 ldI .i64 (t10.add 2) fun t12 =>
 octet_Source_fail_j1 p0 p2 (decide ((t12 : Int) = 0)) K) else
 octet_Source_fail_j1 p0 p2 false K
def octet_Source_fail_run (xs : List Value) (K : Value → HP) : HP :=
 arity xs 3 <|
 asP (xs.getD 0 undef) fun p0 =>
 asB (xs.getD 1 undef) fun p1 =>
 asI .i64 (xs.getD 2 undef) fun p2 =>
 octet_Source_fail p0 p1 p2 (fun r0 => K (.bool r0))
def octet_Source_Left (p0 : Option Addr) (K : Int → HP) : HP :=
 nn p0 fun t4 =>
 ldL (t4.add 0) fun t6 =>
 nn p0 fun t9 =>
 ldI .i64 (t9.add 1) fun t11 =>
 K (w64 ((t6.len : Nat) - t11))
def octet_Source_Left_run (xs : List Value) (K : Value → HP) : HP :=
 arity xs 1 <|
 asP (xs.getD 0 undef) fun p0 =>
 octet_Source_Left p0 (fun r0 => K (.int .i64 r0))
def octet_Source_U_j1 (t0 : Option Addr) (t1 : Int) (t19 : Bool) (K : Int → HP) : HP :=
 bif t19 then (
 K 0) else
 nn t0 fun t22 =>
 ldL (t22.add 0) fun t24 =>
 nn t0 fun t26 =>
 ldI .i64 (t26.add 1) fun t28 =>
 octet_Get t24 t28 t1 fun t30a t30b =>
 nn t0 fun t34 =>
 ldI .i64 (t34.add 1) fun t36 =>
 nn t0 fun t39 =>
 sts (t39.add 1) 0 [.int .i64 (w64 (t36 + t1))] (
 K t30a)
def octet_Source_U (p0 : Option Addr) (p1 : Int) (K : Int → HP) : HP :=
 octet_good p1 fun t9 =>
 octet_Source_fail p0 (!t9) 1 fun t11 =>
 bif t11 then (
 octet_Source_U_j1 p0 p1 true K) else
 octet_Source_Left p0 fun t16 =>
 octet_Source_fail p0 (decide ((t16 : Int) < p1)) 2 fun t18 =>
 octet_Source_U_j1 p0 p1 t18 K
def octet_Source_U_run (xs : List Value) (K : Value → HP) : HP :=
 arity xs 2 <|
 asP (xs.getD 0 undef) fun p0 =>
 asI .i64 (xs.getD 1 undef) fun p1 =>
 octet_Source_U p0 p1 (fun r0 => K (.int .u64 r0))
def octet_Source_Raw_j1 (t0 : Option Addr) (t1 : Int) (t16 : Bool) (K : Sl → HP) : HP :=
 bif t16 then (
 K (⟨none, 0, 0⟩ : Sl)) else
 nn t0 fun t18 =>
 ldI .i64 (t18.add 1) fun t20 =>
 nn t0 fun t23 =>
 sts (t23.add 1) 0 [.int .i64 (w64 (t20 + t1))] (
 nn t0 fun t26 =>
 ldL (t26.add 0) fun t28 =>
 nn t0 fun t30 =>
 ldI .i64 (t30.add 1) fun t32 =>
 nn t0 fun t36 =>
 ldI .i64 (t36.add 1) fun t38 =>
 slL t28 1 (w64 (t32 - t1)) t38 (t28.cap : Nat) fun t39 =>
 bytes_Clone t39 fun t40 =>
 K t40)
def octet_Source_Raw (p0 : Option Addr) (p1 : Int) (K : Sl → HP) : HP :=
 octet_Source_fail p0 (decide ((p1 : Int) < 0)) 1 fun t8 =>
 bif t8 then (
 octet_Source_Raw_j1 p0 p1 true K) else
 octet_Source_Left p0 fun t13 =>
 octet_Source_fail p0 (decide ((t13 : Int) < p1)) 2 fun t15 =>
 octet_Source_Raw_j1 p0 p1 t15 K
def octet_Source_Raw_run (xs : List Value) (K : Value → HP) : HP :=
 arity xs 2 <|
 asP (xs.getD 0 undef) fun p0 =>
 asI .i64 (xs.getD 1 undef) fun p1 =>
 octet_Source_Raw p0 p1 (fun r0 => K (.slice r0.a r0.len r0.cap))
def octet_Source_Done_j1 (t3 : Int) (t14 : Bool) (K : Int → HP) : HP :=
 bif t14 then (
 K 3) else
 K t3
def octet_Source_Done (p0 : Option Addr) (K : Int → HP) : HP :=
 nn p0 fun t5 =>
 ldI .i64 (t5.add 2) fun t7 =>
 bif (decide ((t7 : Int) = 0)) then (
 octet_Source_Left p0 fun t12 =>
 octet_Source_Done_j1 t7 (decide ((0 : Int) < t12)) K) else
 octet_Source_Done_j1 t7 false K
def octet_Source_Done_run (xs : List Value) (K : Value → HP) : HP :=
 arity xs 1 <|
 asP (xs.getD 0 undef) fun p0 =>
 octet_Source_Done p0 (fun r0 => K (.int .i64 r0))
def record_all (p0 : G_api_Rec) (K : G_A11_int → HP) : HP :=
 newc #[.int .i64 p0.Kind, .int .i64 p0.User, .int .i64 p0.Seq, .int .i64 p0.Next, .int .i64 p0.Base, .int .i64 p0.Uid, .int .i64 p0.Time, .int .i64 p0.Flags, .int .i64 p0.Body, .int .i64 p0.Size, .int .i64 p0.Origin, .slice p0.Data.a p0.Data.len p0.Data.cap] fun t1 =>
 newc #[.int .i64 0, .int .i64 0, .int .i64 0, .int .i64 0, .int .i64 0, .int .i64 0, .int .i64 0, .int .i64 0, .int .i64 0, .int .i64 0, .int .i64 0] fun t2 =>
 ldI .i64 ((at0 t1).add 0) fun t4 =>
 ldI .i64 ((at0 t1).add 1) fun t6 =>
 ldI .i64 ((at0 t1).add 2) fun t8 =>
 ldI .i64 ((at0 t1).add 3) fun t10 =>
 ldI .i64 ((at0 t1).add 4) fun t12 =>
 ldI .i64 ((at0 t1).add 5) fun t14 =>
 ldI .i64 ((at0 t1).add 6) fun t16 =>
 ldI .i64 ((at0 t1).add 7) fun t18 =>
 ldI .i64 ((at0 t1).add 8) fun t20 =>
 ldI .i64 ((at0 t1).add 9) fun t22 =>
 ldI .i64 ((at0 t1).add 10) fun t24 =>
 sts (at0 t2) 0 [.int .i64 t4, .int .i64 t6, .int .i64 t8, .int .i64 t10, .int .i64 t12, .int .i64 t14, .int .i64 t16, .int .i64 t18, .int .i64 t20, .int .i64 t22, .int .i64 t24] (
 ld_G_A11_int (at0 t2) fun r2 =>
 K r2)
def record_all_run (xs : List Value) (K : Value → HP) : HP :=
 arity xs 1 <|
 as_G_api_Rec (xs.getD 0 undef) fun p0 =>
 record_all p0 (fun r0 => K (r0.v))
def bytes_Equal (p0 : Sl) (p1 : Sl) (K : Bool → HP) : HP :=
 ldBy p0 fun t6 =>
 ldBy p1 fun t8 =>
 K (decide (t6 = t8))
def bytes_Equal_run (xs : List Value) (K : Value → HP) : HP :=
 arity xs 2 <|
 asL (xs.getD 0 undef) fun p0 =>
 asL (xs.getD 1 undef) fun p1 =>
 bytes_Equal p0 p1 (fun r0 => K (.bool r0))
def record_Same (p0 : G_api_Rec) (p1 : G_api_Rec) (K : Bool → HP) : HP :=
 newc #[.int .i64 p0.Kind, .int .i64 p0.User, .int .i64 p0.Seq, .int .i64 p0.Next, .int .i64 p0.Base, .int .i64 p0.Uid, .int .i64 p0.Time, .int .i64 p0.Flags, .int .i64 p0.Body, .int .i64 p0.Size, .int .i64 p0.Origin, .slice p0.Data.a p0.Data.len p0.Data.cap] fun t2 =>
 newc #[.int .i64 p1.Kind, .int .i64 p1.User, .int .i64 p1.Seq, .int .i64 p1.Next, .int .i64 p1.Base, .int .i64 p1.Uid, .int .i64 p1.Time, .int .i64 p1.Flags, .int .i64 p1.Body, .int .i64 p1.Size, .int .i64 p1.Origin, .slice p1.Data.a p1.Data.len p1.Data.cap] fun t3 =>
 ld_G_api_Rec (at0 t2) fun t5 =>
 ld_G_api_Rec (at0 t3) fun t7 =>
 record_all t5 fun t6 =>
 held (ld_G_api_Rec (at0 t3) fun t7_1 =>
 fun _ => (Value.agg #[.int .i64 t7_1.Kind, .int .i64 t7_1.User, .int .i64 t7_1.Seq, .int .i64 t7_1.Next, .int .i64 t7_1.Base, .int .i64 t7_1.Uid, .int .i64 t7_1.Time, .int .i64 t7_1.Flags, .int .i64 t7_1.Body, .int .i64 t7_1.Size, .int .i64 t7_1.Origin, .slice t7_1.Data.a t7_1.Data.len t7_1.Data.cap]) = (Value.agg #[.int .i64 t7.Kind, .int .i64 t7.User, .int .i64 t7.Seq, .int .i64 t7.Next, .int .i64 t7.Base, .int .i64 t7.Uid, .int .i64 t7.Time, .int .i64 t7.Flags, .int .i64 t7.Body, .int .i64 t7.Size, .int .i64 t7.Origin, .slice t7.Data.a t7.Data.len t7.Data.cap])) (
 record_all t7 fun t8 =>
 bif (decide ((t6.c0 : Int) = t8.c0) && (decide ((t6.c1 : Int) = t8.c1) && (decide ((t6.c2 : Int) = t8.c2) && (decide ((t6.c3 : Int) = t8.c3) && (decide ((t6.c4 : Int) = t8.c4) && (decide ((t6.c5 : Int) = t8.c5) && (decide ((t6.c6 : Int) = t8.c6) && (decide ((t6.c7 : Int) = t8.c7) && (decide ((t6.c8 : Int) = t8.c8) && (decide ((t6.c9 : Int) = t8.c9) && (decide ((t6.c10 : Int) = t8.c10) && true))))))))))) then (
 ldL ((at0 t2).add 11) fun t12 =>
 ldL ((at0 t3).add 11) fun t14 =>
 bytes_Equal t12 t14 fun t15 =>
 K t15) else
 K false)
def record_Same_run (xs : List Value) (K : Value → HP) : HP :=
 arity xs 2 <|
 as_G_api_Rec (xs.getD 0 undef) fun p0 =>
 as_G_api_Rec (xs.getD 1 undef) fun p1 =>
 record_Same p0 p1 (fun r0 => K (.bool r0))
def record_bare_j1 (t1 : Nat) (t3 : Nat) (K : Bool → HP) : HP :=
 ld_G_api_Rec (at0 t1) fun t35 =>
 ld_G_api_Rec (at0 t3) fun t36 =>
 record_Same t35 t36 fun t37 =>
 K t37
def record_bare (p0 : G_api_Rec) (K : Bool → HP) : HP :=
 newc #[.int .i64 p0.Kind, .int .i64 p0.User, .int .i64 p0.Seq, .int .i64 p0.Next, .int .i64 p0.Base, .int .i64 p0.Uid, .int .i64 p0.Time, .int .i64 p0.Flags, .int .i64 p0.Body, .int .i64 p0.Size, .int .i64 p0.Origin, .slice p0.Data.a p0.Data.len p0.Data.cap] fun t1 =>
 ldI .i64 ((at0 t1).add 0) fun t8 =>
 newc #[.int .i64 0, .int .i64 0, .int .i64 0, .int .i64 0, .int .i64 0, .int .i64 0, .int .i64 0, .int .i64 0, .int .i64 0, .int .i64 0, .int .i64 0, .slice none 0 0] fun t3 =>
 sts (at0 t3) 0 [.int .i64 t8, .int .i64 0, .int .i64 0, .int .i64 0, .int .i64 0, .int .i64 0, .int .i64 0, .int .i64 0, .int .i64 0, .int .i64 0, .int .i64 0, .slice none 0 0] (
 record_parts (some (at0 t1)) fun t10 =>
 record_parts (some (at0 t3)) fun t11 =>
 loop (σ := List Value) (fun R1 vs1 =>
 asI .i64 (vs1.getD 0 undef) fun t13 =>
 bif (decide ((t13 : Int) < (t11.len : Nat))) then (
 ixL t11 4 t13 fun t16 =>
 ld_G_record_part t16 fun t17 =>
 newc #[.int .i64 0, .int .i64 0, .int .i64 0, .pointer none] fun t6 =>
 sts (at0 t6) 0 [.int .i64 t17.width, .int .i64 t17.low, .int .i64 t17.high, .pointer t17.at_] (
 ldP ((at0 t6).add 3) fun t19 =>
 ixL t10 4 t13 fun t22 =>
 ldP (t22.add 3) fun t24 =>
 nn t24 fun t25 =>
 ldI .i64 t25 fun t26 =>
 nn t19 fun t27 =>
 sts t27 0 [.int .i64 t26] (
 R1 [.int .i64 (w64 (t13 + 1))]))) else
 ldI .i64 ((at0 t1).add 0) fun t30 =>
 bif (decide ((t30 : Int) = 6)) then (
 ldL ((at0 t1).add 11) fun t33 =>
 sts ((at0 t3).add 11) 0 [.slice t33.a t33.len t33.cap] (
 record_bare_j1 t1 t3 K)) else
 record_bare_j1 t1 t3 K) [.int .i64 0])
def record_bare_run (xs : List Value) (K : Value → HP) : HP :=
 arity xs 1 <|
 as_G_api_Rec (xs.getD 0 undef) fun p0 =>
 record_bare p0 (fun r0 => K (.bool r0))
def record_Check_j1 (t1 : Nat) (t9 : Sl) (t10 : Int) (t11 : Int) (t30 : Bool) (K : Int → HP) (R1 : List Value → HP) : HP :=
 bif t30 then (
 K 1) else
 R1 [.int .i64 (w64 (t11 + 1))]
def record_Check_j2 (t1 : Nat) (t32 : Bool) (K : Int → HP) : HP :=
 bif t32 then (
 K 4) else
 ld_G_api_Rec (at0 t1) fun t43 =>
 record_bare t43 fun t44 =>
 bif (!t44) then (
 K 3) else
 K 0
def record_Check (p0 : G_api_Rec) (K : Int → HP) : HP :=
 newc #[.int .i64 p0.Kind, .int .i64 p0.User, .int .i64 p0.Seq, .int .i64 p0.Next, .int .i64 p0.Base, .int .i64 p0.Uid, .int .i64 p0.Time, .int .i64 p0.Flags, .int .i64 p0.Body, .int .i64 p0.Size, .int .i64 p0.Origin, .slice p0.Data.a p0.Data.len p0.Data.cap] fun t1 =>
 record_parts (some (at0 t1)) fun t6 =>
 bif t6.a.isNone then (
 K 16) else
 loop (σ := List Value) (fun R1 vs1 =>
 asI .i64 (vs1.getD 0 undef) fun t11 =>
 bif (decide ((t11 : Int) < (t6.len : Nat))) then (
 ixL t6 4 t11 fun t13 =>
 ld_G_record_part t13 fun t14 =>
 newc #[.int .i64 0, .int .i64 0, .int .i64 0, .pointer none] fun t5 =>
 sts (at0 t5) 0 [.int .i64 t14.width, .int .i64 t14.low, .int .i64 t14.high, .pointer t14.at_] (
 ldP ((at0 t5).add 3) fun t16 =>
 nn t16 fun t17 =>
 ldI .i64 t17 fun t18 =>
 ldI .i64 ((at0 t5).add 1) fun t20 =>
 bif (decide ((t18 : Int) < t20)) then (
 record_Check_j1 t1 t6 (t6.len : Nat) t11 true K R1) else
 ldP ((at0 t5).add 3) fun t24 =>
 nn t24 fun t25 =>
 ldI .i64 t25 fun t26 =>
 ldI .i64 ((at0 t5).add 2) fun t28 =>
 record_Check_j1 t1 t6 (t6.len : Nat) t11 (decide ((t28 : Int) < t26)) K R1)) else
 ldI .i64 ((at0 t1).add 0) fun t34 =>
 bif (decide ((t34 : Int) = 6)) then (
 ldL ((at0 t1).add 11) fun t38 =>
 record_Check_j2 t1 (decide ((32768 : Int) < (t38.len : Nat))) K) else
 record_Check_j2 t1 false K) [.int .i64 0]
def record_Check_run (xs : List Value) (K : Value → HP) : HP :=
 arity xs 1 <|
 as_G_api_Rec (xs.getD 0 undef) fun p0 =>
 record_Check p0 (fun r0 => K (.int .i64 r0))
def record_Read_j5 (t4 : Nat) (t6 : Nat) (t9 : Sl) (t12 : Int) (t13 : Int) (t14 : Nat) (t54 : Sl) (t55 : Int) (t56 : Int) (K : G_api_Rec → Int → HP) (R2 : List Value → HP) : HP :=
 ldP ((at0 t14).add 3) fun t74 =>
 ixL t9 1 t13 fun t77 =>
 ldI .u64 t77 fun t78 =>
 ldI .i64 ((at0 t14).add 2) fun t80 =>
 nn t74 fun t84 =>
 sts t84 0 [.int .i64 (w64 (if (wr .u64 t80 : Int) < t78 then (wr .u64 t80) else t78))] (
 R2 [.int .i64 t12, .int .i64 (w64 (t56 + 1))])
def record_Read_j4 (t4 : Nat) (t6 : Nat) (t9 : Sl) (t12 : Int) (t13 : Int) (t14 : Nat) (t54 : Sl) (t55 : Int) (t56 : Int) (t72 : Bool) (K : G_api_Rec → Int → HP) (R2 : List Value → HP) : HP :=
 bif t72 then (
 record_Read_j5 t4 t6 t9 1 t13 t14 t54 t55 t56 K R2) else
 record_Read_j5 t4 t6 t9 t12 t13 t14 t54 t55 t56 K R2
def record_Read_j6 (t4 : Nat) (t6 : Nat) (t12 : Int) (K : G_api_Rec → Int → HP) : HP :=
 bif (!decide ((t12 : Int) = 0)) then (
 sts (at0 t4) 0 [.int .i64 0, .int .i64 0, .int .i64 0, .int .i64 0, .int .i64 0, .int .i64 0, .int .i64 0, .int .i64 0, .int .i64 0, .int .i64 0, .int .i64 0, .slice none 0 0] (
 ld_G_api_Rec (at0 t4) fun r4 =>
 K r4 t12)) else
 ld_G_api_Rec (at0 t6) fun t94 =>
 sts (at0 t4) 0 [.int .i64 t94.Kind, .int .i64 t94.User, .int .i64 t94.Seq, .int .i64 t94.Next, .int .i64 t94.Base, .int .i64 t94.Uid, .int .i64 t94.Time, .int .i64 t94.Flags, .int .i64 t94.Body, .int .i64 t94.Size, .int .i64 t94.Origin, .slice t94.Data.a t94.Data.len t94.Data.cap] (
 ld_G_api_Rec (at0 t4) fun r4_1 =>
 K r4_1 0)
def record_Read_j3 (t4 : Nat) (t6 : Nat) (t8 : Sl) (t9 : Sl) (t12 : Int) (K : G_api_Rec → Int → HP) : HP :=
 loop (σ := List Value) (fun R2 vs2 =>
 asI .i64 (vs2.getD 0 undef) fun t12_1 =>
 asI .i64 (vs2.getD 1 undef) fun t56 =>
 bif (decide ((t56 : Int) < (t8.len : Nat))) then (
 ixL t8 4 t56 fun t59 =>
 ld_G_record_part t59 fun t60 =>
 newc #[.int .i64 0, .int .i64 0, .int .i64 0, .pointer none] fun t14 =>
 sts (at0 t14) 0 [.int .i64 t60.width, .int .i64 t60.low, .int .i64 t60.high, .pointer t60.at_] (
 bif (decide ((t12_1 : Int) = 0)) then (
 ixL t9 1 t56 fun t66 =>
 ldI .u64 t66 fun t67 =>
 ldI .i64 ((at0 t14).add 2) fun t69 =>
 record_Read_j4 t4 t6 t9 t12_1 t56 t14 t8 (t8.len : Nat) t56 (decide ((wr .u64 t69 : Int) < t67)) K R2) else
 record_Read_j4 t4 t6 t9 t12_1 t56 t14 t8 (t8.len : Nat) t56 false K R2)) else
 bif (decide ((t12_1 : Int) = 0)) then (
 ld_G_api_Rec (at0 t6) fun t88 =>
 record_Check t88 fun t89 =>
 record_Read_j6 t4 t6 t89 K) else
 record_Read_j6 t4 t6 t12_1 K) [.int .i64 t12, .int .i64 0]
def record_Read_j2 (t4 : Nat) (t6 : Nat) (t8 : Sl) (t9 : Sl) (t12 : Int) (t53 : Bool) (K : G_api_Rec → Int → HP) : HP :=
 bif t53 then (
 record_Read_j3 t4 t6 t8 t9 4 K) else
 record_Read_j3 t4 t6 t8 t9 t12 K
def record_Read_j1 (t4 : Nat) (t6 : Nat) (t7 : Option Addr) (t8 : Sl) (t9 : Sl) (K : G_api_Rec → Int → HP) : HP :=
 octet_Source_Done t7 fun t45 =>
 bif (decide ((t45 : Int) = 0)) then (
 ldL ((at0 t6).add 11) fun t50 =>
 record_Read_j2 t4 t6 t8 t9 t45 (decide ((32768 : Int) < (t50.len : Nat))) K) else
 record_Read_j2 t4 t6 t8 t9 t45 false K
def record_Read (p0 : Int) (p1 : Sl) (K : G_api_Rec → Int → HP) : HP :=
 newc #[.int .i64 0, .int .i64 0, .int .i64 0, .int .i64 0, .int .i64 0, .int .i64 0, .int .i64 0, .int .i64 0, .int .i64 0, .int .i64 0, .int .i64 0, .slice none 0 0] fun t4 =>
 newc #[.int .i64 0, .int .i64 0, .int .i64 0, .int .i64 0, .int .i64 0, .int .i64 0, .int .i64 0, .int .i64 0, .int .i64 0, .int .i64 0, .int .i64 0, .slice none 0 0] fun t6 =>
 sts (at0 t6) 0 [.int .i64 p0, .int .i64 0, .int .i64 0, .int .i64 0, .int .i64 0, .int .i64 0, .int .i64 0, .int .i64 0, .int .i64 0, .int .i64 0, .int .i64 0, .slice none 0 0] (
 octet_NewSource p1 fun t18 =>
 record_parts (some (at0 t6)) fun t19 =>
 bif t19.a.isNone then (
 sts (at0 t4) 0 [.int .i64 0, .int .i64 0, .int .i64 0, .int .i64 0, .int .i64 0, .int .i64 0, .int .i64 0, .int .i64 0, .int .i64 0, .int .i64 0, .int .i64 0, .slice none 0 0] (
 ld_G_api_Rec (at0 t4) fun r4 =>
 K r4 16)) else
 loop (σ := List Value) (fun R1 vs1 =>
 asL (vs1.getD 0 undef) fun t9 =>
 asI .i64 (vs1.getD 1 undef) fun t25 =>
 bif (decide ((t25 : Int) < (t19.len : Nat))) then (
 ixL t19 4 t25 fun t27 =>
 ld_G_record_part t27 fun t28 =>
 newc #[.int .i64 0, .int .i64 0, .int .i64 0, .pointer none] fun t11 =>
 sts (at0 t11) 0 [.int .i64 t28.width, .int .i64 t28.low, .int .i64 t28.high, .pointer t28.at_] (
 ldI .i64 ((at0 t11).add 0) fun t32 =>
 octet_Source_U t18 t32 fun t33 =>
 newc #[.int .u64 t33] fun t34 =>
 app 1 8 #[.int .u64 0] t9 (⟨some (at0 t34), 1, 1⟩ : Sl) fun t35 =>
 R1 [.slice t35.a t35.len t35.cap, .int .i64 (w64 (t25 + 1))])) else
 bif (decide ((p0 : Int) = 6)) then (
 octet_Source_Left t18 fun t41 =>
 octet_Source_Raw t18 t41 fun t42 =>
 sts ((at0 t6).add 11) 0 [.slice t42.a t42.len t42.cap] (
 record_Read_j1 t4 t6 t18 t19 t9 K)) else
 record_Read_j1 t4 t6 t18 t19 t9 K) [.slice none 0 0, .int .i64 0])
def record_Read_run (xs : List Value) (K : Value → HP) : HP :=
 arity xs 2 <|
 asI .i64 (xs.getD 0 undef) fun p0 =>
 asL (xs.getD 1 undef) fun p1 =>
 record_Read p0 p1 (fun r0 r1 => K (.tuple #[r0.v, .int .i64 r1]))
def record_Scan_j1 (C : Cx) (t2 : Sl) (t3 : Int) (t17 : Sl) (t18 : Int) (t19 : Int) (K : Sl → Int → HP) (R1 : List Value → HP) : HP :=
 R1 [.slice t2.a t2.len t2.cap, .int .i64 t3, .int .i64 (w64 (t19 + 1))]
def record_Scan (C : Cx) (p0 : Sl) (K : Sl → Int → HP) : HP :=
 frame_Scan C p0 fun t12a t12b =>
 loop (σ := List Value) (fun R1 vs1 =>
 asL (vs1.getD 0 undef) fun t2 =>
 asI .i64 (vs1.getD 1 undef) fun t3 =>
 asI .i64 (vs1.getD 2 undef) fun t19 =>
 bif (decide ((t19 : Int) < (t12a.len : Nat))) then (
 ixL t12a 4 t19 fun t21 =>
 ld_G_api_Frame t21 fun t22 =>
 newc #[.int .i64 0, .int .i64 0, .int .i64 0, .slice none 0 0] fun t7 =>
 sts (at0 t7) 0 [.int .i64 t22.At, .int .i64 t22.Len, .int .i64 t22.Kind, .slice t22.Payload.a t22.Payload.len t22.Payload.cap] (
 ldI .i64 ((at0 t7).add 2) fun t25 =>
 ldL ((at0 t7).add 3) fun t27 =>
 record_Read t25 t27 fun t28a t28b =>
 newc #[.int .i64 0, .int .i64 0, .int .i64 0, .int .i64 0, .int .i64 0, .int .i64 0, .int .i64 0, .int .i64 0, .int .i64 0, .int .i64 0, .int .i64 0, .slice none 0 0] fun t8 =>
 sts (at0 t8) 0 [.int .i64 t28a.Kind, .int .i64 t28a.User, .int .i64 t28a.Seq, .int .i64 t28a.Next, .int .i64 t28a.Base, .int .i64 t28a.Uid, .int .i64 t28a.Time, .int .i64 t28a.Flags, .int .i64 t28a.Body, .int .i64 t28a.Size, .int .i64 t28a.Origin, .slice t28a.Data.a t28a.Data.len t28a.Data.cap] (
 bif (!decide ((t28b : Int) = 0)) then (
 record_Scan_j1 C t2 t3 t12a (t12a.len : Nat) t19 K R1) else
 ldI .i64 ((at0 t7).add 0) fun t35 =>
 ldI .i64 ((at0 t7).add 1) fun t37 =>
 ld_G_api_Rec (at0 t8) fun t38 =>
 newc #[.int .i64 t35, .int .i64 t37, .int .i64 t38.Kind, .int .i64 t38.User, .int .i64 t38.Seq, .int .i64 t38.Next, .int .i64 t38.Base, .int .i64 t38.Uid, .int .i64 t38.Time, .int .i64 t38.Flags, .int .i64 t38.Body, .int .i64 t38.Size, .int .i64 t38.Origin, .slice t38.Data.a t38.Data.len t38.Data.cap] fun t40 =>
 app 14 128 #[.int .i64 0, .int .i64 0, .int .i64 0, .int .i64 0, .int .i64 0, .int .i64 0, .int .i64 0, .int .i64 0, .int .i64 0, .int .i64 0, .int .i64 0, .int .i64 0, .int .i64 0, .slice none 0 0] t2 (⟨some (at0 t40), 1, 1⟩ : Sl) fun t41 =>
 ldI .i64 ((at0 t7).add 1) fun t44 =>
 record_Scan_j1 C t41 (w64 (t3 - t44)) t12a (t12a.len : Nat) t19 K R1))) else
 K t2 t3) [.slice none 0 0, .int .i64 (p0.len : Nat), .int .i64 0]
def record_Scan_run (C : Cx) (xs : List Value) (K : Value → HP) : HP :=
 arity xs 1 <|
 asL (xs.getD 0 undef) fun p0 =>
 record_Scan C p0 (fun r0 r1 => K (.tuple #[.slice r0.a r0.len r0.cap, .int .i64 r1]))
def dbox_read (C : Cx) (p0 : Option Addr) (p1 : Int) (p2 : Int) (K : G_dbox_container → Int → HP) : HP :=
 newc #[.int .i64 0, .int .i64 0, .int .i64 0, .slice none 0 0] fun t6 =>
 dbox_Name p1 p2 fun t15 =>
 vdisk_Disk_Read p0 t15 fun t16a t16b =>
 bif (!decide ((t16b : Int) = 0)) then (
 sts (at0 t6) 0 [.int .i64 0, .int .i64 0, .int .i64 0, .slice none 0 0] (
 ld_G_dbox_container (at0 t6) fun r6 =>
 K r6 t16b)) else
 newc #[.int .i64 0, .int .i64 0, .int .i64 0, .slice none 0 0] fun t10 =>
 sts (at0 t10) 0 [.int .i64 p2, .int .i64 (t16a.len : Nat), .int .i64 0, .slice none 0 0] (
 record_Scan C t16a fun t29a t29b =>
 sts ((at0 t10).add 3) 0 [.slice t29a.a t29a.len t29a.cap] (
 sts ((at0 t10).add 2) 0 [.int .i64 t29b] (
 ld_G_dbox_container (at0 t10) fun t34 =>
 sts (at0 t6) 0 [.int .i64 t34.seq, .int .i64 t34.size, .int .i64 t34.broken, .slice t34.l.a t34.l.len t34.l.cap] (
 ld_G_dbox_container (at0 t6) fun r6_1 =>
 K r6_1 0))))
def dbox_read_run (C : Cx) (xs : List Value) (K : Value → HP) : HP :=
 arity xs 3 <|
 asP (xs.getD 0 undef) fun p0 =>
 asI .i64 (xs.getD 1 undef) fun p1 =>
 asI .i64 (xs.getD 2 undef) fun p2 =>
 dbox_read C p0 p1 p2 (fun r0 r1 => K (.tuple #[r0.v, .int .i64 r1]))
def dbox_base_j2 (t3 : Int) (t5 : Nat) (t8 : Sl) (t9 : Int) (t10 : Int) (t15 : Sl) (t16 : Int) (t17 : Int) (K : Int → HP) (R1 : List Value → HP) (R2 : List Value → HP) : HP :=
 R2 [.int .i64 t3, .int .i64 (w64 (t17 + 1))]
def dbox_base_j1 (t3 : Int) (t5 : Nat) (t7 : Nat) (t8 : Sl) (t9 : Int) (t10 : Int) (t15 : Sl) (t16 : Int) (t17 : Int) (t32 : Bool) (K : Int → HP) (R1 : List Value → HP) (R2 : List Value → HP) : HP :=
 bif t32 then (
 ldI .i64 (((at0 t7).add 2).add 4) fun t36 =>
 dbox_base_j2 (if (t36 : Int) > t3 then t36 else t3) t5 t8 t9 t10 t15 t16 t17 K R1 R2) else
 dbox_base_j2 t3 t5 t8 t9 t10 t15 t16 t17 K R1 R2
def dbox_base (p0 : Sl) (K : Int → HP) : HP :=
 loop (σ := List Value) (fun R1 vs1 =>
 asI .i64 (vs1.getD 0 undef) fun t3 =>
 asI .i64 (vs1.getD 1 undef) fun t10 =>
 bif (decide ((t10 : Int) < (p0.len : Nat))) then (
 ixL p0 4 t10 fun t12 =>
 ld_G_dbox_container t12 fun t13 =>
 newc #[.int .i64 0, .int .i64 0, .int .i64 0, .slice none 0 0] fun t5 =>
 sts (at0 t5) 0 [.int .i64 t13.seq, .int .i64 t13.size, .int .i64 t13.broken, .slice t13.l.a t13.l.len t13.l.cap] (
 ldL ((at0 t5).add 3) fun t15 =>
 loop (σ := List Value) (fun R2 vs2 =>
 asI .i64 (vs2.getD 0 undef) fun t3_1 =>
 asI .i64 (vs2.getD 1 undef) fun t17 =>
 bif (decide ((t17 : Int) < (t15.len : Nat))) then (
 ixL t15 14 t17 fun t19 =>
 ld_G_api_Found t19 fun t20 =>
 newc #[.int .i64 0, .int .i64 0, .int .i64 0, .int .i64 0, .int .i64 0, .int .i64 0, .int .i64 0, .int .i64 0, .int .i64 0, .int .i64 0, .int .i64 0, .int .i64 0, .int .i64 0, .slice none 0 0] fun t7 =>
 sts (at0 t7) 0 [.int .i64 t20.At, .int .i64 t20.Len, .int .i64 t20.Rec_Kind, .int .i64 t20.Rec_User, .int .i64 t20.Rec_Seq, .int .i64 t20.Rec_Next, .int .i64 t20.Rec_Base, .int .i64 t20.Rec_Uid, .int .i64 t20.Rec_Time, .int .i64 t20.Rec_Flags, .int .i64 t20.Rec_Body, .int .i64 t20.Rec_Size, .int .i64 t20.Rec_Origin, .slice t20.Rec_Data.a t20.Rec_Data.len t20.Rec_Data.cap] (
 ldI .i64 (((at0 t7).add 2).add 0) fun t23 =>
 bif (decide ((t23 : Int) = 1)) then (
 ldI .i64 (((at0 t7).add 2).add 4) fun t28 =>
 ldI .i64 ((at0 t5).add 0) fun t30 =>
 dbox_base_j1 t3_1 t5 t7 p0 (p0.len : Nat) t10 t15 (t15.len : Nat) t17 (decide ((t28 : Int) ≤ t30)) K R1 R2) else
 dbox_base_j1 t3_1 t5 t7 p0 (p0.len : Nat) t10 t15 (t15.len : Nat) t17 false K R1 R2)) else
 R1 [.int .i64 t3_1, .int .i64 (w64 (t10 + 1))]) [.int .i64 t3, .int .i64 0])) else
 K t3) [.int .i64 0, .int .i64 0]
def dbox_base_run (xs : List Value) (K : Value → HP) : HP :=
 arity xs 1 <|
 asL (xs.getD 0 undef) fun p0 =>
 dbox_base p0 (fun r0 => K (.int .i64 r0))
def vdisk_Disk_Size (p0 : Option Addr) (p1 : ByteArray) (K : Int → Int → HP) : HP :=
 vdisk_Disk_text p0 p1 fun t11a t11b =>
 K (t11a.size : Nat) t11b
def vdisk_Disk_Size_run (xs : List Value) (K : Value → HP) : HP :=
 arity xs 2 <|
 asP (xs.getD 0 undef) fun p0 =>
 asS (xs.getD 1 undef) fun p1 =>
 vdisk_Disk_Size p0 p1 (fun r0 r1 => K (.tuple #[.int .i64 r0, .int .i64 r1]))
def safe_Has (p0 : Option Addr) (p1 : ByteArray) (K : Bool → HP) : HP :=
 vdisk_Disk_Size p0 p1 fun t10a t10b =>
 K (decide ((t10b : Int) = 0))
def safe_Has_run (xs : List Value) (K : Value → HP) : HP :=
 arity xs 2 <|
 asP (xs.getD 0 undef) fun p0 =>
 asS (xs.getD 1 undef) fun p1 =>
 safe_Has p0 p1 (fun r0 => K (.bool r0))
def safe_Drop_1 (p0 : Addr) (p1 : Addr) (K : Int → HP) : HP :=
 ldP p0 fun t3 =>
 ldS p1 fun t4 =>
 vdisk_Disk_Unlink t3 t4 fun t5 =>
 K t5
def safe_Drop_1_run (xs : List Value) (K : Value → HP) : HP :=
 arity xs 2 <|
 asA (xs.getD 0 undef) fun p0 =>
 asA (xs.getD 1 undef) fun p1 =>
 safe_Drop_1 p0 p1 (fun r0 => K (.int .i64 r0))
def vdisk_Disk_fix (p0 : Option Addr) (K : HP) : HP :=
 nn p0 fun t7 =>
 ldM (t7.add 2) fun t9 =>
 maps_Clone_vdisk_names_string_int t9 fun t10 =>
 nn p0 fun t11 =>
 sts (t11.add 3) 0 [.map t10] (
 nn p0 fun t13 =>
 sts (t13.add 4) 0 [.slice none 0 0] (
 nn p0 fun t16 =>
 ldL (t16.add 1) fun t18 =>
 loop (σ := List Value) (fun R1 vs1 =>
 asI .i64 (vs1.getD 0 undef) fun t20 =>
 bif (decide ((t20 : Int) < (t18.len : Nat))) then (
 ixL t18 1 t20 fun t22 =>
 ldP t22 fun t23 =>
 nn t23 fun t25 =>
 sts (t25.add 3) 0 [.bool false] (
 R1 [.int .i64 (w64 (t20 + 1))])) else
 K) [.int .i64 0]))
def vdisk_Disk_fix_run (xs : List Value) (K : Value → HP) : HP :=
 arity xs 1 <|
 asP (xs.getD 0 undef) fun p0 =>
 vdisk_Disk_fix p0 (K (.tuple #[]))
def vdisk_Disk_SyncDir (p0 : Option Addr) (K : Int → HP) : HP :=
 vdisk_Disk_change p0 fun t5 =>
 bif (decide ((t5 : Int) = 0)) then (
 vdisk_Disk_fix p0 (
 K t5)) else
 K t5
def vdisk_Disk_SyncDir_run (xs : List Value) (K : Value → HP) : HP :=
 arity xs 1 <|
 asP (xs.getD 0 undef) fun p0 =>
 vdisk_Disk_SyncDir p0 (fun r0 => K (.int .i64 r0))
def safe_again_j1 (C : Cx) (t0 : FV) (t3 : Int) (t11 : Bool) (K : Int → HP) : HP :=
 bif t11 then (
 C.ap t0 [] fun t13 =>
 asI .i64 t13 fun t13_1 =>
 K t13_1) else
 K t3
def safe_again (C : Cx) (p0 : FV) (K : Int → HP) : HP :=
 C.ap p0 [] fun t5 =>
 asI .i64 t5 fun t5_1 =>
 bif (!decide ((t5_1 : Int) = 0)) then (
 safe_again_j1 C p0 t5_1 (!decide ((t5_1 : Int) = 11)) K) else
 safe_again_j1 C p0 t5_1 false K
def safe_again_run (C : Cx) (xs : List Value) (K : Value → HP) : HP :=
 arity xs 1 <|
 asF (xs.getD 0 undef) fun p0 =>
 safe_again C p0 (fun r0 => K (.int .i64 r0))
def safe_Drop_2 (C : Cx) (p0 : Addr) (K : Int → HP) : HP :=
 ldP p0 fun t2 =>
 clo C (fun xs K => vdisk_Disk_SyncDir_run ([.pointer t2] ++ xs ++ []) K) fun t3 =>
 safe_again C t3 fun t4 =>
 K t4
def safe_Drop_2_run (C : Cx) (xs : List Value) (K : Value → HP) : HP :=
 arity xs 1 <|
 asA (xs.getD 0 undef) fun p0 =>
 safe_Drop_2 C p0 (fun r0 => K (.int .i64 r0))
def safe_steps (C : Cx) (p0 : Sl) (K : Int → HP) : HP :=
 loop (σ := List Value) (fun R1 vs1 =>
 asI .i64 (vs1.getD 0 undef) fun t8 =>
 bif (decide ((t8 : Int) < (p0.len : Nat))) then (
 ixL p0 1 t8 fun t10 =>
 ldF t10 fun t11 =>
 C.ap t11 [] fun t13 =>
 asI .i64 t13 fun t13_1 =>
 bif (!decide ((t13_1 : Int) = 0)) then (
 K t13_1) else
 R1 [.int .i64 (w64 (t8 + 1))]) else
 K 0) [.int .i64 0]
def safe_steps_run (C : Cx) (xs : List Value) (K : Value → HP) : HP :=
 arity xs 1 <|
 asL (xs.getD 0 undef) fun p0 =>
 safe_steps C p0 (fun r0 => K (.int .i64 r0))
def safe_Drop_j1 (C : Cx) (t2 : Nat) (t3 : Nat) (t13 : Bool) (K : Int → HP) : HP :=
 bif t13 then (
 K 0) else
 clo C (fun xs K => safe_Drop_1_run ([] ++ xs ++ [.pointer (some (at0 t2)), .pointer (some (at0 t3))]) K) fun t14 =>
 clo C (fun xs K => safe_Drop_2_run C ([] ++ xs ++ [.pointer (some (at0 t2))]) K) fun t15 =>
 newc #[t14.v, t15.v] fun t16 =>
 safe_steps C (⟨some (at0 t16), 2, 2⟩ : Sl) fun t17 =>
 K t17
def safe_Drop (C : Cx) (p0 : Option Addr) (p1 : ByteArray) (K : Int → HP) : HP :=
 newc #[.pointer p0] fun t2 =>
 newc #[.string p1] fun t3 =>
 ldP (at0 t2) fun t5 =>
 vdisk_Disk_Down t5 fun t6 =>
 bif (!t6) then (
 ldP (at0 t2) fun t9 =>
 ldS (at0 t3) fun t10 =>
 safe_Has t9 t10 fun t11 =>
 safe_Drop_j1 C t2 t3 (!t11) K) else
 safe_Drop_j1 C t2 t3 false K
def safe_Drop_run (C : Cx) (xs : List Value) (K : Value → HP) : HP :=
 arity xs 2 <|
 asP (xs.getD 0 undef) fun p0 =>
 asS (xs.getD 1 undef) fun p1 =>
 safe_Drop C p0 p1 (fun r0 => K (.int .i64 r0))
def dbox_after (p0 : G_api_Rec) (K : Int → HP) : HP :=
 newc #[.int .i64 p0.Kind, .int .i64 p0.User, .int .i64 p0.Seq, .int .i64 p0.Next, .int .i64 p0.Base, .int .i64 p0.Uid, .int .i64 p0.Time, .int .i64 p0.Flags, .int .i64 p0.Body, .int .i64 p0.Size, .int .i64 p0.Origin, .slice p0.Data.a p0.Data.len p0.Data.cap] fun t1 =>
 ldI .i64 ((at0 t1).add 3) fun t4 =>
 ldI .i64 ((at0 t1).add 5) fun t6 =>
 K (if (w64 (t6 + 1) : Int) > (if (t4 : Int) > 1 then t4 else 1) then (w64 (t6 + 1)) else (if (t4 : Int) > 1 then t4 else 1))
def dbox_after_run (xs : List Value) (K : Value → HP) : HP :=
 arity xs 1 <|
 as_G_api_Rec (xs.getD 0 undef) fun p0 =>
 dbox_after p0 (fun r0 => K (.int .i64 r0))
def dbox_Open_j2 (C : Cx) (t0 : Option Addr) (t1 : Int) (t9 : Nat) (t43 : Sl) (t44 : Int) (t45 : Int) (K : Option Addr → Int → HP) (R1 : List Value → HP) : HP :=
 R1 [.int .i64 (w64 (t45 + 1))]
def dbox_Open_j3 (C : Cx) (t0 : Option Addr) (t1 : Int) (t9 : Nat) (t15 : Int) (t101 : Bool) (K : Option Addr → Int → HP) (R2 : List Value → HP) : HP :=
 bif t101 then (
 nn (some (at0 t9)) fun t105 =>
 ldL (t105.add 4) fun t107 =>
 ixL t107 4 0 fun t108 =>
 ldI .i64 (t108.add 0) fun t110 =>
 dbox_Name t1 t110 fun t111 =>
 safe_Drop C t0 t111 fun t112 =>
 bif (!decide ((t112 : Int) = 0)) then (
 K none t112) else
 nn (some (at0 t9)) fun t118 =>
 ldL (t118.add 4) fun t120 =>
 slL t120 4 1 (t120.len : Nat) (t120.cap : Nat) fun t121 =>
 nn (some (at0 t9)) fun t122 =>
 sts (t122.add 4) 0 [.slice t121.a t121.len t121.cap] (
 R2 [])) else
 nn (some (at0 t9)) fun t125 =>
 ldL (t125.add 4) fun t127 =>
 loop (σ := List Value) (fun R3 vs3 =>
 asI .i64 (vs3.getD 0 undef) fun t129 =>
 bif (decide ((t129 : Int) < (t127.len : Nat))) then (
 ixL t127 4 t129 fun t131 =>
 ld_G_dbox_container t131 fun t132 =>
 newc #[.int .i64 0, .int .i64 0, .int .i64 0, .slice none 0 0] fun t18 =>
 sts (at0 t18) 0 [.int .i64 t132.seq, .int .i64 t132.size, .int .i64 t132.broken, .slice t132.l.a t132.l.len t132.l.cap] (
 ldL ((at0 t18).add 3) fun t134 =>
 loop (σ := List Value) (fun R4 vs4 =>
 asI .i64 (vs4.getD 0 undef) fun t136 =>
 bif (decide ((t136 : Int) < (t134.len : Nat))) then (
 ixL t134 14 t136 fun t138 =>
 ld_G_api_Found t138 fun t139 =>
 newc #[.int .i64 0, .int .i64 0, .int .i64 0, .int .i64 0, .int .i64 0, .int .i64 0, .int .i64 0, .int .i64 0, .int .i64 0, .int .i64 0, .int .i64 0, .int .i64 0, .int .i64 0, .slice none 0 0] fun t20 =>
 sts (at0 t20) 0 [.int .i64 t139.At, .int .i64 t139.Len, .int .i64 t139.Rec_Kind, .int .i64 t139.Rec_User, .int .i64 t139.Rec_Seq, .int .i64 t139.Rec_Next, .int .i64 t139.Rec_Base, .int .i64 t139.Rec_Uid, .int .i64 t139.Rec_Time, .int .i64 t139.Rec_Flags, .int .i64 t139.Rec_Body, .int .i64 t139.Rec_Size, .int .i64 t139.Rec_Origin, .slice t139.Rec_Data.a t139.Rec_Data.len t139.Rec_Data.cap] (
 nn (some (at0 t9)) fun t142 =>
 ldI .i64 (t142.add 3) fun t144 =>
 ld_G_api_Rec ((at0 t20).add 2) fun t146 =>
 dbox_after t146 fun t147 =>
 held (ldI .i64 (t142.add 3) fun t144_1 =>
 fun _ => (Value.int .i64 t144_1) = (Value.int .i64 t144)) (
 nn (some (at0 t9)) fun t149 =>
 sts (t149.add 3) 0 [.int .i64 (if (t147 : Int) > t144 then t147 else t144)] (
 R4 [.int .i64 (w64 (t136 + 1))])))) else
 R3 [.int .i64 (w64 (t129 + 1))]) [.int .i64 0])) else
 K (some (at0 t9)) 0) [.int .i64 0]
def dbox_Open_j1 (C : Cx) (t0 : Option Addr) (t1 : Int) (t2 : Int) (t24 : Bool) (K : Option Addr → Int → HP) : HP :=
 bif t24 then (
 K none 1) else
 dbox_front t1 fun t32 =>
 safe_Tidy C t0 t32 fun t33 =>
 bif (!decide ((t33 : Int) = 0)) then (
 K none t33) else
 newc #[.pointer t0, .int .i64 t1, .int .i64 t2, .int .i64 1, .slice none 0 0] fun t41 =>
 vdisk_Disk_Names C t0 fun t43 =>
 loop (σ := List Value) (fun R1 vs1 =>
 asI .i64 (vs1.getD 0 undef) fun t45 =>
 bif (decide ((t45 : Int) < (t43.len : Nat))) then (
 ixL t43 1 t45 fun t47 =>
 ldS t47 fun t48 =>
 dbox_front t1 fun t51 =>
 strings_HasPrefix t48 t51 fun t52 =>
 bif (!t52) then (
 dbox_Open_j2 C t0 t1 t41 t43 (t43.len : Nat) t45 K R1) else
 dbox_number t1 t48 fun t56 =>
 bif (decide ((t56 : Int) = 0)) then (
 K none 12) else
 dbox_read C t0 t1 t56 fun t63a t63b =>
 newc #[.int .i64 0, .int .i64 0, .int .i64 0, .slice none 0 0] fun t13 =>
 sts (at0 t13) 0 [.int .i64 t63a.seq, .int .i64 t63a.size, .int .i64 t63a.broken, .slice t63a.l.a t63a.l.len t63a.l.cap] (
 bif (!decide ((t63b : Int) = 0)) then (
 K none t63b) else
 nn (some (at0 t41)) fun t71 =>
 ldL (t71.add 4) fun t73 =>
 ld_G_dbox_container (at0 t13) fun t74 =>
 newc #[.int .i64 t74.seq, .int .i64 t74.size, .int .i64 t74.broken, .slice t74.l.a t74.l.len t74.l.cap] fun t75 =>
 held (ldL (t71.add 4) fun t73_1 =>
 fun _ => (Value.slice t73_1.a t73_1.len t73_1.cap) = (Value.slice t73.a t73.len t73.cap)) (
 app 4 48 #[.int .i64 0, .int .i64 0, .int .i64 0, .slice none 0 0] t73 (⟨some (at0 t75), 1, 1⟩ : Sl) fun t76 =>
 nn (some (at0 t41)) fun t77 =>
 sts (t77.add 4) 0 [.slice t76.a t76.len t76.cap] (
 dbox_Open_j2 C t0 t1 t41 t43 (t43.len : Nat) t45 K R1)))) else
 nn (some (at0 t41)) fun t81 =>
 ldL (t81.add 4) fun t83 =>
 dbox_base t83 fun t84 =>
 loop (σ := List Value) (fun R2 vs2 =>
 nn (some (at0 t41)) fun t86 =>
 ldL (t86.add 4) fun t88 =>
 bif (decide ((0 : Int) < (t88.len : Nat))) then (
 nn (some (at0 t41)) fun t93 =>
 ldL (t93.add 4) fun t95 =>
 ixL t95 4 0 fun t96 =>
 ldI .i64 (t96.add 0) fun t98 =>
 dbox_Open_j3 C t0 t1 t41 t84 (decide ((t98 : Int) < t84)) K R2) else
 dbox_Open_j3 C t0 t1 t41 t84 false K R2) []) [.int .i64 0]
def dbox_Open (C : Cx) (p0 : Option Addr) (p1 : Int) (p2 : Int) (K : Option Addr → Int → HP) : HP :=
 vdisk_Disk_Down p0 fun t23 =>
 bif t23 then (
 K none 11) else
 dbox_isUser p1 fun t26 =>
 bif (!t26) then (
 dbox_Open_j1 C p0 p1 p2 (!t26) K) else
 dbox_Open_j1 C p0 p1 p2 (decide ((p2 : Int) < 1)) K
def dbox_Open_run (C : Cx) (xs : List Value) (K : Value → HP) : HP :=
 arity xs 3 <|
 asP (xs.getD 0 undef) fun p0 =>
 asI .i64 (xs.getD 1 undef) fun p1 =>
 asI .i64 (xs.getD 2 undef) fun p2 =>
 dbox_Open C p0 p1 p2 (fun r0 r1 => K (.tuple #[.pointer r0, .int .i64 r1]))
def dbox_kept (p0 : G_api_Rec) (K : Bool → HP) : HP :=
 newc #[.int .i64 p0.Kind, .int .i64 p0.User, .int .i64 p0.Seq, .int .i64 p0.Next, .int .i64 p0.Base, .int .i64 p0.Uid, .int .i64 p0.Time, .int .i64 p0.Flags, .int .i64 p0.Body, .int .i64 p0.Size, .int .i64 p0.Origin, .slice p0.Data.a p0.Data.len p0.Data.cap] fun t1 =>
 ldI .i64 ((at0 t1).add 0) fun t4 =>
 bif (decide ((t4 : Int) = 2)) then (
 K true) else
 ldI .i64 ((at0 t1).add 0) fun t8 =>
 bif (decide ((t8 : Int) = 3)) then (
 K true) else
 ldI .i64 ((at0 t1).add 0) fun t13 =>
 K (decide ((t13 : Int) = 4))
def dbox_kept_run (xs : List Value) (K : Value → HP) : HP :=
 arity xs 1 <|
 as_G_api_Rec (xs.getD 0 undef) fun p0 =>
 dbox_kept p0 (fun r0 => K (.bool r0))
def dbox_Box_last (p0 : Option Addr) (K : Option Addr → HP) : HP :=
 nn p0 fun t4 =>
 ldL (t4.add 4) fun t6 =>
 bif (decide (((t6.len : Nat) : Int) = 0)) then (
 K none) else
 nn p0 fun t10 =>
 ldL (t10.add 4) fun t12 =>
 nn p0 fun t14 =>
 ldL (t14.add 4) fun t16 =>
 ixL t12 4 (w64 ((t16.len : Nat) - 1)) fun t19 =>
 K (some t19)
def dbox_Box_last_run (xs : List Value) (K : Value → HP) : HP :=
 arity xs 1 <|
 asP (xs.getD 0 undef) fun p0 =>
 dbox_Box_last p0 (fun r0 => K (.pointer r0))
def dbox_Box_Last (p0 : Option Addr) (K : Int → HP) : HP :=
 dbox_Box_last p0 fun t5 =>
 bif (!t5.isNone) then (
 nn t5 fun t9 =>
 ldI .i64 (t9.add 0) fun t11 =>
 K t11) else
 K 0
def dbox_Box_Last_run (xs : List Value) (K : Value → HP) : HP :=
 arity xs 1 <|
 asP (xs.getD 0 undef) fun p0 =>
 dbox_Box_Last p0 (fun r0 => K (.int .i64 r0))
def dbox_container_clean (p0 : Option Addr) (K : Bool → HP) : HP :=
 nn p0 fun t5 =>
 ldL (t5.add 3) fun t7 =>
 bif (decide ((0 : Int) < (t7.len : Nat))) then (
 nn p0 fun t13 =>
 ldL (t13.add 3) fun t15 =>
 ixL t15 14 (w64 ((t7.len : Nat) - 1)) fun t18 =>
 ldI .i64 (t18.add 0) fun t20 =>
 nn p0 fun t22 =>
 ldL (t22.add 3) fun t24 =>
 ixL t24 14 (w64 ((t7.len : Nat) - 1)) fun t27 =>
 ldI .i64 (t27.add 1) fun t29 =>
 nn p0 fun t32 =>
 ldI .i64 (t32.add 1) fun t34 =>
 K (decide ((w64 (t20 + t29) : Int) = t34))) else
 K false
def dbox_container_clean_run (xs : List Value) (K : Value → HP) : HP :=
 arity xs 1 <|
 asP (xs.getD 0 undef) fun p0 =>
 dbox_container_clean p0 (fun r0 => K (.bool r0))
def octet_NewSink (K : Option Addr → HP) : HP :=
 newc #[.slice none 0 0] fun t2 =>
 K (some (at0 t2))
def octet_NewSink_run (xs : List Value) (K : Value → HP) : HP :=
 arity xs 0 <|
 octet_NewSink (fun r0 => K (.pointer r0))
def octet_room (p0 : Int) (p1 : Int) (K : Bool → HP) : HP :=
 bif (decide ((p1 : Int) = 8)) then (
 K true) else
 ng (wr .u64 (w64 (8 * p1))) (
 K (decide ((ishr .u64 p0 (wr .u64 (w64 (8 * p1))) : Int) = 0)))
def octet_room_run (xs : List Value) (K : Value → HP) : HP :=
 arity xs 2 <|
 asI .u64 (xs.getD 0 undef) fun p0 =>
 asI .i64 (xs.getD 1 undef) fun p1 =>
 octet_room p0 p1 (fun r0 => K (.bool r0))
def octet_Put_j1 (t0 : Int) (t1 : Int) (t16 : Bool) (K : Sl → Bool → HP) : HP :=
 bif t16 then (
 K (⟨none, 0, 0⟩ : Sl) false) else
 mkSl 1 #[.int .u8 0] t1 t1 fun t18 =>
 loop (σ := List Value) (fun R1 vs1 =>
 asI .i64 (vs1.getD 0 undef) fun t21 =>
 bif (decide ((t21 : Int) < (t18.len : Nat))) then (
 ng (wr .u64 (w64 (8 * (w64 ((w64 (t1 - 1)) - t21))))) (
 ixL t18 1 t21 fun t35 =>
 sts t35 0 [.int .u8 (wr .u8 (ishr .u64 t0 (wr .u64 (w64 (8 * (w64 ((w64 (t1 - 1)) - t21)))))))] (
 R1 [.int .i64 (w64 (t21 + 1))]))) else
 K t18 true) [.int .i64 0]
def octet_Put (p0 : Int) (p1 : Int) (K : Sl → Bool → HP) : HP :=
 octet_good p1 fun t9 =>
 bif (!t9) then (
 octet_Put_j1 p0 p1 true K) else
 octet_room p0 p1 fun t14 =>
 octet_Put_j1 p0 p1 (!t14) K
def octet_Put_run (xs : List Value) (K : Value → HP) : HP :=
 arity xs 2 <|
 asI .u64 (xs.getD 0 undef) fun p0 =>
 asI .i64 (xs.getD 1 undef) fun p1 =>
 octet_Put p0 p1 (fun r0 r1 => K (.tuple #[.slice r0.a r0.len r0.cap, .bool r1]))
def octet_Sink_U (p0 : Option Addr) (p1 : Int) (p2 : Int) (K : Bool → HP) : HP :=
 octet_Put p1 p2 fun t12a t12b =>
 nn p0 fun t17 =>
 ldL (t17.add 0) fun t19 =>
 app 1 1 #[.int .u8 0] t19 t12a fun t21 =>
 nn p0 fun t22 =>
 sts (t22.add 0) 0 [.slice t21.a t21.len t21.cap] (
 K t12b)
def octet_Sink_U_run (xs : List Value) (K : Value → HP) : HP :=
 arity xs 3 <|
 asP (xs.getD 0 undef) fun p0 =>
 asI .u64 (xs.getD 1 undef) fun p1 =>
 asI .i64 (xs.getD 2 undef) fun p2 =>
 octet_Sink_U p0 p1 p2 (fun r0 => K (.bool r0))
def octet_Sink_Raw (p0 : Option Addr) (p1 : Sl) (K : HP) : HP :=
 nn p0 fun t6 =>
 ldL (t6.add 0) fun t8 =>
 app 1 1 #[.int .u8 0] t8 p1 fun t10 =>
 nn p0 fun t11 =>
 sts (t11.add 0) 0 [.slice t10.a t10.len t10.cap] (
 K)
def octet_Sink_Raw_run (xs : List Value) (K : Value → HP) : HP :=
 arity xs 2 <|
 asP (xs.getD 0 undef) fun p0 =>
 asL (xs.getD 1 undef) fun p1 =>
 octet_Sink_Raw p0 p1 (K (.tuple #[]))
def octet_Sink_Bytes (p0 : Option Addr) (K : Sl → HP) : HP :=
 nn p0 fun t4 =>
 ldL (t4.add 0) fun t6 =>
 bytes_Clone t6 fun t7 =>
 K t7
def octet_Sink_Bytes_run (xs : List Value) (K : Value → HP) : HP :=
 arity xs 1 <|
 asP (xs.getD 0 undef) fun p0 =>
 octet_Sink_Bytes p0 (fun r0 => K (.slice r0.a r0.len r0.cap))
def record_Payload (p0 : G_api_Rec) (K : Sl → Int → HP) : HP :=
 newc #[.int .i64 p0.Kind, .int .i64 p0.User, .int .i64 p0.Seq, .int .i64 p0.Next, .int .i64 p0.Base, .int .i64 p0.Uid, .int .i64 p0.Time, .int .i64 p0.Flags, .int .i64 p0.Body, .int .i64 p0.Size, .int .i64 p0.Origin, .slice p0.Data.a p0.Data.len p0.Data.cap] fun t1 =>
 ld_G_api_Rec (at0 t1) fun t8 =>
 record_Check t8 fun t9 =>
 bif (!decide ((t9 : Int) = 0)) then (
 K (⟨none, 0, 0⟩ : Sl) t9) else
 octet_NewSink fun t13 =>
 record_parts (some (at0 t1)) fun t14 =>
 loop (σ := List Value) (fun R1 vs1 =>
 asI .i64 (vs1.getD 0 undef) fun t16 =>
 bif (decide ((t16 : Int) < (t14.len : Nat))) then (
 ixL t14 4 t16 fun t18 =>
 ld_G_record_part t18 fun t19 =>
 newc #[.int .i64 0, .int .i64 0, .int .i64 0, .pointer none] fun t7 =>
 sts (at0 t7) 0 [.int .i64 t19.width, .int .i64 t19.low, .int .i64 t19.high, .pointer t19.at_] (
 ldP ((at0 t7).add 3) fun t22 =>
 nn t22 fun t23 =>
 ldI .i64 t23 fun t24 =>
 ldI .i64 ((at0 t7).add 0) fun t27 =>
 octet_Sink_U t13 (wr .u64 t24) t27 fun t28 =>
 R1 [.int .i64 (w64 (t16 + 1))])) else
 ldL ((at0 t1).add 11) fun t32 =>
 octet_Sink_Raw t13 t32 (
 octet_Sink_Bytes t13 fun t35 =>
 K t35 0)) [.int .i64 0]
def record_Payload_run (xs : List Value) (K : Value → HP) : HP :=
 arity xs 1 <|
 as_G_api_Rec (xs.getD 0 undef) fun p0 =>
 record_Payload p0 (fun r0 r1 => K (.tuple #[.slice r0.a r0.len r0.cap, .int .i64 r1]))
def frame_Veil_j2 (t3 : Sl) (t6 : Sl) (t7 : Int) (t8 : Int) (K : Sl → HP) (R1 : List Value → HP) : HP :=
 R1 [.slice t3.a t3.len t3.cap, .int .i64 (w64 (t8 + 1))]
def frame_Veil_j1 (t3 : Sl) (t5 : Int) (t6 : Sl) (t7 : Int) (t8 : Int) (t17 : Bool) (K : Sl → HP) (R1 : List Value → HP) : HP :=
 bif t17 then (
 newc #[.int .u8 81, .int .u8 (wr .u8 (t5 - 80))] fun t21 =>
 app 1 1 #[.int .u8 0] t3 (⟨some (at0 t21), 2, 2⟩ : Sl) fun t22 =>
 frame_Veil_j2 t22 t6 t7 t8 K R1) else
 newc #[.int .u8 t5] fun t25 =>
 app 1 1 #[.int .u8 0] t3 (⟨some (at0 t25), 1, 1⟩ : Sl) fun t26 =>
 frame_Veil_j2 t26 t6 t7 t8 K R1
def frame_Veil (p0 : Sl) (K : Sl → HP) : HP :=
 loop (σ := List Value) (fun R1 vs1 =>
 asL (vs1.getD 0 undef) fun t3 =>
 asI .i64 (vs1.getD 1 undef) fun t8 =>
 bif (decide ((t8 : Int) < (p0.len : Nat))) then (
 ixL p0 1 t8 fun t10 =>
 ldI .u8 t10 fun t11 =>
 bif (decide ((t11 : Int) = 80)) then (
 frame_Veil_j1 t3 t11 p0 (p0.len : Nat) t8 true K R1) else
 frame_Veil_j1 t3 t11 p0 (p0.len : Nat) t8 (decide ((t11 : Int) = 81)) K R1) else
 K t3) [.slice none 0 0, .int .i64 0]
def frame_Veil_run (xs : List Value) (K : Value → HP) : HP :=
 arity xs 1 <|
 asL (xs.getD 0 undef) fun p0 =>
 frame_Veil p0 (fun r0 => K (.slice r0.a r0.len r0.cap))
def frame_Wrap_j1 (t0 : Int) (t1 : Sl) (t7 : Bool) (K : Sl → Int → HP) : HP :=
 bif t7 then (
 K (⟨none, 0, 0⟩ : Sl) 1) else
 bif (decide ((65536 : Int) < (t1.len : Nat))) then (
 K (⟨none, 0, 0⟩ : Sl) 4) else
 octet_NewSink fun t18 =>
 octet_Sink_U t18 (wr .u64 t0) 1 fun t22 =>
 octet_Sink_U t18 (wr .u64 (t1.len : Nat)) 4 fun t27 =>
 octet_Sink_Bytes t18 fun t30 =>
 frame_sum t30 t1 fun t32 =>
 octet_Sink_U t18 (wr .u64 t32) 4 fun t34 =>
 octet_Sink_Raw t18 t1 (
 newc #[.int .u8 80] fun t38 =>
 octet_Sink_Bytes t18 fun t40 =>
 frame_Veil t40 fun t41 =>
 app 1 1 #[.int .u8 0] (⟨some (at0 t38), 1, 1⟩ : Sl) t41 fun t42 =>
 K t42 0)
def frame_Wrap (p0 : Int) (p1 : Sl) (K : Sl → Int → HP) : HP :=
 bif (decide ((p0 : Int) < 0)) then (
 frame_Wrap_j1 p0 p1 true K) else
 frame_Wrap_j1 p0 p1 (decide ((255 : Int) < p0)) K
def frame_Wrap_run (xs : List Value) (K : Value → HP) : HP :=
 arity xs 2 <|
 asI .i64 (xs.getD 0 undef) fun p0 =>
 asL (xs.getD 1 undef) fun p1 =>
 frame_Wrap p0 p1 (fun r0 r1 => K (.tuple #[.slice r0.a r0.len r0.cap, .int .i64 r1]))
def record_Frame (p0 : G_api_Rec) (K : Sl → Int → HP) : HP :=
 newc #[.int .i64 p0.Kind, .int .i64 p0.User, .int .i64 p0.Seq, .int .i64 p0.Next, .int .i64 p0.Base, .int .i64 p0.Uid, .int .i64 p0.Time, .int .i64 p0.Flags, .int .i64 p0.Body, .int .i64 p0.Size, .int .i64 p0.Origin, .slice p0.Data.a p0.Data.len p0.Data.cap] fun t1 =>
 ld_G_api_Rec (at0 t1) fun t7 =>
 record_Payload t7 fun t8a t8b =>
 bif (!decide ((t8b : Int) = 0)) then (
 K (⟨none, 0, 0⟩ : Sl) t8b) else
 ldI .i64 ((at0 t1).add 0) fun t15 =>
 frame_Wrap t15 t8a fun t17a t17b =>
 K t17a t17b
def record_Frame_run (xs : List Value) (K : Value → HP) : HP :=
 arity xs 1 <|
 as_G_api_Rec (xs.getD 0 undef) fun p0 =>
 record_Frame p0 (fun r0 r1 => K (.tuple #[.slice r0.a r0.len r0.cap, .int .i64 r1]))
def vdisk_patch_over (p0 : G_vdisk_patch) (p1 : ByteArray) (K : ByteArray → HP) : HP :=
 newc #[.int .i64 p0.place, .string p0.bytes] fun t2 =>
 ldI .i64 ((at0 t2).add 0) fun t9 =>
 ldS ((at0 t2).add 1) fun t11 =>
 mkSl 1 #[.int .u8 0] (if (w64 (t9 + (t11.size : Nat)) : Int) > (p1.size : Nat) then (w64 (t9 + (t11.size : Nat))) else (p1.size : Nat)) (if (w64 (t9 + (t11.size : Nat)) : Int) > (p1.size : Nat) then (w64 (t9 + (t11.size : Nat))) else (p1.size : Nat)) fun t15 =>
 cpyS t15 p1 fun t18 =>
 ldI .i64 ((at0 t2).add 0) fun t21 =>
 slL t15 1 t21 (t15.len : Nat) (t15.cap : Nat) fun t22 =>
 ldS ((at0 t2).add 1) fun t24 =>
 cpyS t22 t24 fun t25 =>
 ldBy t15 fun t27 =>
 K t27
def vdisk_patch_over_run (xs : List Value) (K : Value → HP) : HP :=
 arity xs 2 <|
 as_G_vdisk_patch (xs.getD 0 undef) fun p0 =>
 asS (xs.getD 1 undef) fun p1 =>
 vdisk_patch_over p0 p1 (fun r0 => K (.string r0))
def vdisk_Disk_write (p0 : Option Addr) (p1 : Int) (p2 : G_vdisk_patch) (K : Int → HP) : HP :=
 newc #[.int .i64 p2.place, .string p2.bytes] fun t5 =>
 nn p0 fun t10 =>
 ldL (t10.add 1) fun t12 =>
 ixL t12 1 p1 fun t14 =>
 ldP t14 fun t15 =>
 ld_G_vdisk_patch (at0 t5) fun t16 =>
 nn t15 fun t18 =>
 ldS (t18.add 0) fun t20 =>
 vdisk_patch_over t16 t20 fun t21 =>
 nn t15 fun t25 =>
 ldS (t25.add 0) fun t27 =>
 vdisk_Disk_free p0 fun t31 =>
 held (ldS (t25.add 0) fun t27_1 =>
 fun _ => (Value.string t27_1) = (Value.string t27)) (
 bif (decide ((t31 : Int) < (w64 ((t21.size : Nat) - (t27.size : Nat))))) then (
 K 10) else
 nn t15 fun t35 =>
 sts (t35.add 0) 0 [.string t21] (
 nn t15 fun t39 =>
 ldL (t39.add 2) fun t41 =>
 ld_G_vdisk_patch (at0 t5) fun t42 =>
 newc #[.int .i64 t42.place, .string t42.bytes] fun t43 =>
 held (ldL (t39.add 2) fun t41_1 =>
 fun _ => (Value.slice t41_1.a t41_1.len t41_1.cap) = (Value.slice t41.a t41.len t41.cap)) (
 app 2 24 #[.int .i64 0, .string (⟨#[]⟩ : ByteArray)] t41 (⟨some (at0 t43), 1, 1⟩ : Sl) fun t44 =>
 nn t15 fun t45 =>
 sts (t45.add 2) 0 [.slice t44.a t44.len t44.cap] (
 K 0))))
def vdisk_Disk_write_run (xs : List Value) (K : Value → HP) : HP :=
 arity xs 3 <|
 asP (xs.getD 0 undef) fun p0 =>
 asI .i64 (xs.getD 1 undef) fun p1 =>
 as_G_vdisk_patch (xs.getD 2 undef) fun p2 =>
 vdisk_Disk_write p0 p1 p2 (fun r0 => K (.int .i64 r0))
def vdisk_Disk_Append (p0 : Option Addr) (p1 : ByteArray) (p2 : Sl) (K : Int → HP) : HP :=
 vdisk_Disk_touch p0 p1 fun t12a t12b =>
 bif (!decide ((t12b : Int) = 0)) then (
 K t12b) else
 nn p0 fun t21 =>
 ldL (t21.add 1) fun t23 =>
 ixL t23 1 t12a fun t25 =>
 ldP t25 fun t26 =>
 nn t26 fun t27 =>
 ldS (t27.add 0) fun t29 =>
 ldBy p2 fun t32 =>
 vdisk_Disk_write p0 t12a (⟨(t29.size : Nat), t32⟩ : G_vdisk_patch) fun t34 =>
 K t34
def vdisk_Disk_Append_run (xs : List Value) (K : Value → HP) : HP :=
 arity xs 3 <|
 asP (xs.getD 0 undef) fun p0 =>
 asS (xs.getD 1 undef) fun p1 =>
 asL (xs.getD 2 undef) fun p2 =>
 vdisk_Disk_Append p0 p1 p2 (fun r0 => K (.int .i64 r0))
def safe_Append_1 (p0 : Addr) (p1 : Addr) (p2 : Addr) (K : Int → HP) : HP :=
 ldP p0 fun t4 =>
 ldS p1 fun t5 =>
 ldL p2 fun t6 =>
 vdisk_Disk_Append t4 t5 t6 fun t7 =>
 K t7
def safe_Append_1_run (xs : List Value) (K : Value → HP) : HP :=
 arity xs 3 <|
 asA (xs.getD 0 undef) fun p0 =>
 asA (xs.getD 1 undef) fun p1 =>
 asA (xs.getD 2 undef) fun p2 =>
 safe_Append_1 p0 p1 p2 (fun r0 => K (.int .i64 r0))
def vdisk_node_settle (p0 : Option Addr) (K : HP) : HP :=
 nn p0 fun t5 =>
 ldS (t5.add 0) fun t7 =>
 nn p0 fun t8 =>
 sts (t8.add 1) 0 [.string t7] (
 nn p0 fun t10 =>
 sts (t10.add 2) 0 [.slice none 0 0] (
 K))
def vdisk_node_settle_run (xs : List Value) (K : Value → HP) : HP :=
 arity xs 1 <|
 asP (xs.getD 0 undef) fun p0 =>
 vdisk_node_settle p0 (K (.tuple #[]))
def vdisk_Disk_Sync (p0 : Option Addr) (p1 : ByteArray) (K : Int → HP) : HP :=
 vdisk_Disk_touch p0 p1 fun t10a t10b =>
 bif (!decide ((t10b : Int) = 0)) then (
 K t10b) else
 nn p0 fun t17 =>
 ldL (t17.add 1) fun t19 =>
 ixL t19 1 t10a fun t21 =>
 ldP t21 fun t22 =>
 vdisk_node_settle t22 (
 K 0)
def vdisk_Disk_Sync_run (xs : List Value) (K : Value → HP) : HP :=
 arity xs 2 <|
 asP (xs.getD 0 undef) fun p0 =>
 asS (xs.getD 1 undef) fun p1 =>
 vdisk_Disk_Sync p0 p1 (fun r0 => K (.int .i64 r0))
def safe_sync_1 (p0 : Addr) (p1 : Addr) (K : Int → HP) : HP :=
 ldP p0 fun t3 =>
 ldS p1 fun t4 =>
 vdisk_Disk_Sync t3 t4 fun t5 =>
 K t5
def safe_sync_1_run (xs : List Value) (K : Value → HP) : HP :=
 arity xs 2 <|
 asA (xs.getD 0 undef) fun p0 =>
 asA (xs.getD 1 undef) fun p1 =>
 safe_sync_1 p0 p1 (fun r0 => K (.int .i64 r0))
def safe_sync (C : Cx) (p0 : Option Addr) (p1 : ByteArray) (K : Int → HP) : HP :=
 newc #[.pointer p0] fun t2 =>
 newc #[.string p1] fun t3 =>
 clo C (fun xs K => safe_sync_1_run ([] ++ xs ++ [.pointer (some (at0 t2)), .pointer (some (at0 t3))]) K) fun t5 =>
 safe_again C t5 fun t6 =>
 K t6
def safe_sync_run (C : Cx) (xs : List Value) (K : Value → HP) : HP :=
 arity xs 2 <|
 asP (xs.getD 0 undef) fun p0 =>
 asS (xs.getD 1 undef) fun p1 =>
 safe_sync C p0 p1 (fun r0 => K (.int .i64 r0))
def safe_Append_2 (C : Cx) (p0 : Addr) (p1 : Addr) (K : Int → HP) : HP :=
 ldP p0 fun t3 =>
 ldS p1 fun t4 =>
 safe_sync C t3 t4 fun t5 =>
 K t5
def safe_Append_2_run (C : Cx) (xs : List Value) (K : Value → HP) : HP :=
 arity xs 2 <|
 asA (xs.getD 0 undef) fun p0 =>
 asA (xs.getD 1 undef) fun p1 =>
 safe_Append_2 C p0 p1 (fun r0 => K (.int .i64 r0))
def safe_Append (C : Cx) (p0 : Option Addr) (p1 : ByteArray) (p2 : Sl) (K : Int → HP) : HP :=
 newc #[.pointer p0] fun t3 =>
 newc #[.string p1] fun t4 =>
 newc #[.slice p2.a p2.len p2.cap] fun t5 =>
 clo C (fun xs K => safe_Append_1_run ([] ++ xs ++ [.pointer (some (at0 t3)), .pointer (some (at0 t4)), .pointer (some (at0 t5))]) K) fun t7 =>
 clo C (fun xs K => safe_Append_2_run C ([] ++ xs ++ [.pointer (some (at0 t3)), .pointer (some (at0 t4))]) K) fun t8 =>
 newc #[t7.v, t8.v] fun t9 =>
 safe_steps C (⟨some (at0 t9), 2, 2⟩ : Sl) fun t10 =>
 K t10
def safe_Append_run (C : Cx) (xs : List Value) (K : Value → HP) : HP :=
 arity xs 3 <|
 asP (xs.getD 0 undef) fun p0 =>
 asS (xs.getD 1 undef) fun p1 =>
 asL (xs.getD 2 undef) fun p2 =>
 safe_Append C p0 p1 p2 (fun r0 => K (.int .i64 r0))
def dbox_Box_append_j1 (C : Cx) (t0 : Option Addr) (t3 : Nat) (t5 : Option Addr) (t6 : Sl) (t7 : Int) (K : Int → HP) : HP :=
 bif (!decide ((t7 : Int) = 0)) then (
 K t7) else
 nn t5 fun t37 =>
 ldL (t37.add 3) fun t39 =>
 nn t5 fun t41 =>
 ldI .i64 (t41.add 1) fun t43 =>
 ld_G_api_Rec (at0 t3) fun t46 =>
 newc #[.int .i64 t43, .int .i64 (t6.len : Nat), .int .i64 t46.Kind, .int .i64 t46.User, .int .i64 t46.Seq, .int .i64 t46.Next, .int .i64 t46.Base, .int .i64 t46.Uid, .int .i64 t46.Time, .int .i64 t46.Flags, .int .i64 t46.Body, .int .i64 t46.Size, .int .i64 t46.Origin, .slice t46.Data.a t46.Data.len t46.Data.cap] fun t48 =>
 held (ldL (t37.add 3) fun t39_1 =>
 fun _ => (Value.slice t39_1.a t39_1.len t39_1.cap) = (Value.slice t39.a t39.len t39.cap)) (
 app 14 128 #[.int .i64 0, .int .i64 0, .int .i64 0, .int .i64 0, .int .i64 0, .int .i64 0, .int .i64 0, .int .i64 0, .int .i64 0, .int .i64 0, .int .i64 0, .int .i64 0, .int .i64 0, .slice none 0 0] t39 (⟨some (at0 t48), 1, 1⟩ : Sl) fun t49 =>
 nn t5 fun t50 =>
 sts (t50.add 3) 0 [.slice t49.a t49.len t49.cap] (
 nn t5 fun t53 =>
 ldI .i64 (t53.add 1) fun t55 =>
 nn t5 fun t59 =>
 sts (t59.add 1) 0 [.int .i64 (w64 (t55 + (t6.len : Nat)))] (
 nn t0 fun t63 =>
 ldI .i64 (t63.add 3) fun t65 =>
 ld_G_api_Rec (at0 t3) fun t66 =>
 dbox_after t66 fun t67 =>
 held (ldI .i64 (t63.add 3) fun t65_1 =>
 fun _ => (Value.int .i64 t65_1) = (Value.int .i64 t65)) (
 nn t0 fun t69 =>
 sts (t69.add 3) 0 [.int .i64 (if (t67 : Int) > t65 then t67 else t65)] (
 K 0)))))
def dbox_Box_append (C : Cx) (p0 : Option Addr) (p1 : G_api_Rec) (K : Int → HP) : HP :=
 newc #[.int .i64 p1.Kind, .int .i64 p1.User, .int .i64 p1.Seq, .int .i64 p1.Next, .int .i64 p1.Base, .int .i64 p1.Uid, .int .i64 p1.Time, .int .i64 p1.Flags, .int .i64 p1.Body, .int .i64 p1.Size, .int .i64 p1.Origin, .slice p1.Data.a p1.Data.len p1.Data.cap] fun t3 =>
 dbox_Box_last p0 fun t9 =>
 ld_G_api_Rec (at0 t3) fun t11 =>
 record_Frame t11 fun t12a t12b =>
 bif (decide ((t12b : Int) = 0)) then (
 nn p0 fun t18 =>
 ldP (t18.add 0) fun t20 =>
 nn p0 fun t22 =>
 ldI .i64 (t22.add 1) fun t24 =>
 nn t9 fun t26 =>
 ldI .i64 (t26.add 0) fun t28 =>
 dbox_Name t24 t28 fun t29 =>
 held (ldP (t18.add 0) fun t20_1 =>
 fun _ => (Value.pointer t20_1) = (Value.pointer t20)) (
 safe_Append C t20 t29 t12a fun t31 =>
 dbox_Box_append_j1 C p0 t3 t9 t12a t31 K)) else
 dbox_Box_append_j1 C p0 t3 t9 t12a t12b K
def dbox_Box_append_run (C : Cx) (xs : List Value) (K : Value → HP) : HP :=
 arity xs 2 <|
 asP (xs.getD 0 undef) fun p0 =>
 as_G_api_Rec (xs.getD 1 undef) fun p1 =>
 dbox_Box_append C p0 p1 (fun r0 => K (.int .i64 r0))
def dbox_Box_head (p0 : Option Addr) (p1 : Int) (p2 : Int) (K : G_api_Rec → HP) : HP :=
 newc #[.int .i64 0, .int .i64 0, .int .i64 0, .int .i64 0, .int .i64 0, .int .i64 0, .int .i64 0, .int .i64 0, .int .i64 0, .int .i64 0, .int .i64 0, .slice none 0 0] fun t6 =>
 nn p0 fun t8 =>
 ldI .i64 (t8.add 1) fun t10 =>
 nn p0 fun t13 =>
 ldI .i64 (t13.add 3) fun t15 =>
 sts (at0 t6) 0 [.int .i64 1, .int .i64 t10, .int .i64 p1, .int .i64 t15, .int .i64 p2, .int .i64 0, .int .i64 0, .int .i64 0, .int .i64 0, .int .i64 0, .int .i64 0, .slice none 0 0] (
 ld_G_api_Rec (at0 t6) fun r6 =>
 K r6)
def dbox_Box_head_run (xs : List Value) (K : Value → HP) : HP :=
 arity xs 3 <|
 asP (xs.getD 0 undef) fun p0 =>
 asI .i64 (xs.getD 1 undef) fun p1 =>
 asI .i64 (xs.getD 2 undef) fun p2 =>
 dbox_Box_head p0 p1 p2 (fun r0 => K (r0.v))
def vdisk_Disk_Create_j1 (t0 : Option Addr) (t1 : ByteArray) (t7 : Bool) (K : Int → HP) : HP :=
 bif t7 then (
 K 8) else
 nn t0 fun t27 =>
 ldM (t27.add 2) fun t29 =>
 mlen t29 fun t30 =>
 bif (decide ((t30 : Int) = 1024)) then (
 K 6) else
 nn t0 fun t34 =>
 ldL (t34.add 1) fun t36 =>
 newc #[.string (⟨#[]⟩ : ByteArray), .string (⟨#[]⟩ : ByteArray), .slice none 0 0, .bool true] fun t38 =>
 newc #[.pointer (some (at0 t38))] fun t39 =>
 app 1 8 #[.pointer none] t36 (⟨some (at0 t39), 1, 1⟩ : Sl) fun t40 =>
 nn t0 fun t41 =>
 sts (t41.add 1) 0 [.slice t40.a t40.len t40.cap] (
 nn t0 fun t45 =>
 ldL (t45.add 1) fun t47 =>
 vdisk_Disk_turn t0 (⟨(w64 ((t47.len : Nat) - 1)), t1, true⟩ : G_vdisk_move) (
 K 0))
def vdisk_Disk_Create (p0 : Option Addr) (p1 : ByteArray) (K : Int → HP) : HP :=
 vdisk_Disk_change p0 fun t9 =>
 bif (!decide ((t9 : Int) = 0)) then (
 K t9) else
 vdisk_named p1 fun t14 =>
 bif (!t14) then (
 K 3) else
 nn p0 fun t18 =>
 ldM (t18.add 2) fun t20 =>
 mget .string t20 (Value.string p1) (
 vdisk_Disk_Create_j1 p0 p1 false K) fun t22 =>
 inI .i64 t22 fun t22_1 =>
 vdisk_Disk_Create_j1 p0 p1 true K
def vdisk_Disk_Create_run (xs : List Value) (K : Value → HP) : HP :=
 arity xs 2 <|
 asP (xs.getD 0 undef) fun p0 =>
 asS (xs.getD 1 undef) fun p1 =>
 vdisk_Disk_Create p0 p1 (fun r0 => K (.int .i64 r0))
def safe_Make_1 (C : Cx) (p0 : Addr) (p1 : Addr) (p2 : Addr) (K : Int → HP) : HP :=
 ldP p0 fun t4 =>
 ldS p1 fun t5 =>
 ldL p2 fun t6 =>
 safe_Append C t4 t5 t6 fun t7 =>
 K t7
def safe_Make_1_run (C : Cx) (xs : List Value) (K : Value → HP) : HP :=
 arity xs 3 <|
 asA (xs.getD 0 undef) fun p0 =>
 asA (xs.getD 1 undef) fun p1 =>
 asA (xs.getD 2 undef) fun p2 =>
 safe_Make_1 C p0 p1 p2 (fun r0 => K (.int .i64 r0))
def safe_Make_2 (C : Cx) (p0 : Addr) (K : Int → HP) : HP :=
 ldP p0 fun t2 =>
 clo C (fun xs K => vdisk_Disk_SyncDir_run ([.pointer t2] ++ xs ++ []) K) fun t3 =>
 safe_again C t3 fun t4 =>
 K t4
def safe_Make_2_run (C : Cx) (xs : List Value) (K : Value → HP) : HP :=
 arity xs 1 <|
 asA (xs.getD 0 undef) fun p0 =>
 safe_Make_2 C p0 (fun r0 => K (.int .i64 r0))
def safe_unlink_1 (p0 : Addr) (p1 : Addr) (K : Int → HP) : HP :=
 ldP p0 fun t3 =>
 ldS p1 fun t4 =>
 vdisk_Disk_Unlink t3 t4 fun t5 =>
 K t5
def safe_unlink_1_run (xs : List Value) (K : Value → HP) : HP :=
 arity xs 2 <|
 asA (xs.getD 0 undef) fun p0 =>
 asA (xs.getD 1 undef) fun p1 =>
 safe_unlink_1 p0 p1 (fun r0 => K (.int .i64 r0))
def safe_unlink (C : Cx) (p0 : Option Addr) (p1 : ByteArray) (K : HP) : HP :=
 newc #[.pointer p0] fun t2 =>
 newc #[.string p1] fun t3 =>
 clo C (fun xs K => safe_unlink_1_run ([] ++ xs ++ [.pointer (some (at0 t2)), .pointer (some (at0 t3))]) K) fun t4 =>
 safe_again C t4 fun t5 =>
 K
def safe_unlink_run (C : Cx) (xs : List Value) (K : Value → HP) : HP :=
 arity xs 2 <|
 asP (xs.getD 0 undef) fun p0 =>
 asS (xs.getD 1 undef) fun p1 =>
 safe_unlink C p0 p1 (K (.tuple #[]))
def safe_Make_j1 (C : Cx) (t3 : Nat) (t4 : Nat) (t8 : Int) (t27 : Bool) (K : Int → HP) : HP :=
 bif t27 then (
 ldP (at0 t3) fun t28 =>
 ldS (at0 t4) fun t29 =>
 safe_unlink C t28 t29 (
 K t8)) else
 K t8
def safe_Make (C : Cx) (p0 : Option Addr) (p1 : ByteArray) (p2 : Sl) (K : Int → HP) : HP :=
 newc #[.pointer p0] fun t3 =>
 newc #[.string p1] fun t4 =>
 newc #[.slice p2.a p2.len p2.cap] fun t5 =>
 ldP (at0 t3) fun t9 =>
 ldS (at0 t4) fun t10 =>
 safe_Has t9 t10 fun t11 =>
 bif t11 then (
 K 8) else
 ldP (at0 t3) fun t12 =>
 ldS (at0 t4) fun t13 =>
 vdisk_Disk_Create t12 t13 fun t14 =>
 bif (!decide ((t14 : Int) = 0)) then (
 K t14) else
 clo C (fun xs K => safe_Make_1_run C ([] ++ xs ++ [.pointer (some (at0 t3)), .pointer (some (at0 t4)), .pointer (some (at0 t5))]) K) fun t18 =>
 clo C (fun xs K => safe_Make_2_run C ([] ++ xs ++ [.pointer (some (at0 t3))]) K) fun t19 =>
 newc #[t18.v, t19.v] fun t20 =>
 safe_steps C (⟨some (at0 t20), 2, 2⟩ : Sl) fun t21 =>
 bif (!decide ((t21 : Int) = 0)) then (
 safe_Make_j1 C t3 t4 t21 (!decide ((t21 : Int) = 11)) K) else
 safe_Make_j1 C t3 t4 t21 false K
def safe_Make_run (C : Cx) (xs : List Value) (K : Value → HP) : HP :=
 arity xs 3 <|
 asP (xs.getD 0 undef) fun p0 =>
 asS (xs.getD 1 undef) fun p1 =>
 asL (xs.getD 2 undef) fun p2 =>
 safe_Make C p0 p1 p2 (fun r0 => K (.int .i64 r0))
def dbox_Box_room_j4 (C : Cx) (t0 : Option Addr) (t5 : Int) (t6 : Nat) (t7 : Sl) (t8 : Int) (K : Int → HP) : HP :=
 bif (!decide ((t8 : Int) = 0)) then (
 K t8) else
 nn t0 fun t91 =>
 ldL (t91.add 4) fun t93 =>
 ld_G_api_Rec (at0 t6) fun t99 =>
 newc #[.int .i64 0, .int .i64 (t7.len : Nat), .int .i64 t99.Kind, .int .i64 t99.User, .int .i64 t99.Seq, .int .i64 t99.Next, .int .i64 t99.Base, .int .i64 t99.Uid, .int .i64 t99.Time, .int .i64 t99.Flags, .int .i64 t99.Body, .int .i64 t99.Size, .int .i64 t99.Origin, .slice t99.Data.a t99.Data.len t99.Data.cap] fun t101 =>
 held (ldL (t91.add 4) fun t93_2 =>
 fun _ => (Value.slice t93_2.a t93_2.len t93_2.cap) = (Value.slice t93.a t93.len t93.cap)) (
 newc #[.int .i64 t5, .int .i64 (t7.len : Nat), .int .i64 0, .slice (some (at0 t101)) 1 1] fun t103 =>
 held (ldL (t91.add 4) fun t93_1 =>
 fun _ => (Value.slice t93_1.a t93_1.len t93_1.cap) = (Value.slice t93.a t93.len t93.cap)) (
 app 4 48 #[.int .i64 0, .int .i64 0, .int .i64 0, .slice none 0 0] t93 (⟨some (at0 t103), 1, 1⟩ : Sl) fun t104 =>
 nn t0 fun t105 =>
 sts (t105.add 4) 0 [.slice t104.a t104.len t104.cap] (
 K 0)))
def dbox_Box_room_j3 (C : Cx) (t0 : Option Addr) (K : Int → HP) : HP :=
 dbox_Box_Last t0 fun t62 =>
 dbox_Box_head t0 (w64 (t62 + 1)) 0 fun t66 =>
 newc #[.int .i64 0, .int .i64 0, .int .i64 0, .int .i64 0, .int .i64 0, .int .i64 0, .int .i64 0, .int .i64 0, .int .i64 0, .int .i64 0, .int .i64 0, .slice none 0 0] fun t6 =>
 sts (at0 t6) 0 [.int .i64 t66.Kind, .int .i64 t66.User, .int .i64 t66.Seq, .int .i64 t66.Next, .int .i64 t66.Base, .int .i64 t66.Uid, .int .i64 t66.Time, .int .i64 t66.Flags, .int .i64 t66.Body, .int .i64 t66.Size, .int .i64 t66.Origin, .slice t66.Data.a t66.Data.len t66.Data.cap] (
 ld_G_api_Rec (at0 t6) fun t68 =>
 record_Frame t68 fun t69a t69b =>
 bif (decide ((t69b : Int) = 0)) then (
 nn t0 fun t75 =>
 ldP (t75.add 0) fun t77 =>
 nn t0 fun t79 =>
 ldI .i64 (t79.add 1) fun t81 =>
 dbox_Name t81 (w64 (t62 + 1)) fun t83 =>
 held (ldP (t75.add 0) fun t77_1 =>
 fun _ => (Value.pointer t77_1) = (Value.pointer t77)) (
 safe_Make C t77 t83 t69a fun t85 =>
 dbox_Box_room_j4 C t0 (w64 (t62 + 1)) t6 t69a t85 K)) else
 dbox_Box_room_j4 C t0 (w64 (t62 + 1)) t6 t69a t69b K)
def dbox_Box_room_j2 (C : Cx) (t0 : Option Addr) (t50 : Bool) (K : Int → HP) : HP :=
 bif t50 then (
 nn t0 fun t53 =>
 ldI .i64 (t53.add 3) fun t55 =>
 dbox_Box_append C t0 (⟨5, 0, 0, t55, 0, 0, 0, 0, 0, 0, 0, (⟨none, 0, 0⟩ : Sl)⟩ : G_api_Rec) fun t57 =>
 bif (!decide ((t57 : Int) = 0)) then (
 K t57) else
 dbox_Box_room_j3 C t0 K) else
 dbox_Box_room_j3 C t0 K
def dbox_Box_room_j1 (C : Cx) (t0 : Option Addr) (t3 : Option Addr) (t27 : Bool) (K : Int → HP) : HP :=
 bif t27 then (
 K 0) else
 bif (!t3.isNone) then (
 dbox_container_clean t3 fun t32 =>
 bif t32 then (
 nn t3 fun t36 =>
 ldL (t36.add 3) fun t38 =>
 nn t3 fun t40 =>
 ldL (t40.add 3) fun t42 =>
 ixL t38 14 (w64 ((t42.len : Nat) - 1)) fun t45 =>
 ldI .i64 ((t45.add 2).add 0) fun t48 =>
 dbox_Box_room_j2 C t0 (!decide ((t48 : Int) = 5)) K) else
 dbox_Box_room_j2 C t0 false K) else
 dbox_Box_room_j2 C t0 false K
def dbox_Box_room (C : Cx) (p0 : Option Addr) (K : Int → HP) : HP :=
 dbox_Box_last p0 fun t10 =>
 bif (!t10.isNone) then (
 dbox_container_clean t10 fun t15 =>
 bif t15 then (
 nn t10 fun t19 =>
 ldI .i64 (t19.add 1) fun t21 =>
 nn p0 fun t23 =>
 ldI .i64 (t23.add 2) fun t25 =>
 dbox_Box_room_j1 C p0 t10 (decide ((t21 : Int) < t25)) K) else
 dbox_Box_room_j1 C p0 t10 false K) else
 dbox_Box_room_j1 C p0 t10 false K
def dbox_Box_room_run (C : Cx) (xs : List Value) (K : Value → HP) : HP :=
 arity xs 1 <|
 asP (xs.getD 0 undef) fun p0 =>
 dbox_Box_room C p0 (fun r0 => K (.int .i64 r0))
def dbox_Box_Put_j2 (C : Cx) (t0 : Option Addr) (t3 : Nat) (t4 : Nat) (t6 : Int) (K : G_api_Place → Int → HP) : HP :=
 bif (!decide ((t6 : Int) = 0)) then (
 sts (at0 t4) 0 [.int .i64 0, .int .i64 0, .int .i64 0, .int .i64 0, .int .i64 0, .int .i64 0, .int .i64 0, .int .i64 0, .int .i64 0, .int .i64 0, .int .i64 0, .int .i64 0, .int .i64 0, .slice none 0 0] (
 ld_G_api_Place (at0 t4) fun r4 =>
 K r4 t6)) else
 dbox_Box_last t0 fun t34 =>
 nn t34 fun t36 =>
 ldI .i64 (t36.add 0) fun t38 =>
 nn t34 fun t40 =>
 ldL (t40.add 3) fun t42 =>
 nn t34 fun t44 =>
 ldL (t44.add 3) fun t46 =>
 ixL t42 14 (w64 ((t46.len : Nat) - 1)) fun t49 =>
 ldI .i64 (t49.add 0) fun t51 =>
 ld_G_api_Rec (at0 t3) fun t52 =>
 sts (at0 t4) 0 [.int .i64 t38, .int .i64 t51, .int .i64 t52.Kind, .int .i64 t52.User, .int .i64 t52.Seq, .int .i64 t52.Next, .int .i64 t52.Base, .int .i64 t52.Uid, .int .i64 t52.Time, .int .i64 t52.Flags, .int .i64 t52.Body, .int .i64 t52.Size, .int .i64 t52.Origin, .slice t52.Data.a t52.Data.len t52.Data.cap] (
 ld_G_api_Place (at0 t4) fun r4_1 =>
 K r4_1 0)
def dbox_Box_Put_j1 (C : Cx) (t0 : Option Addr) (t3 : Nat) (t4 : Nat) (t20 : Bool) (K : G_api_Place → Int → HP) : HP :=
 bif t20 then (
 sts (at0 t4) 0 [.int .i64 0, .int .i64 0, .int .i64 0, .int .i64 0, .int .i64 0, .int .i64 0, .int .i64 0, .int .i64 0, .int .i64 0, .int .i64 0, .int .i64 0, .int .i64 0, .int .i64 0, .slice none 0 0] (
 ld_G_api_Place (at0 t4) fun r4 =>
 K r4 1)) else
 dbox_Box_room C t0 fun t23 =>
 bif (decide ((t23 : Int) = 0)) then (
 ld_G_api_Rec (at0 t3) fun t27 =>
 dbox_Box_append C t0 t27 fun t28 =>
 dbox_Box_Put_j2 C t0 t3 t4 t28 K) else
 dbox_Box_Put_j2 C t0 t3 t4 t23 K
def dbox_Box_Put (C : Cx) (p0 : Option Addr) (p1 : G_api_Rec) (K : G_api_Place → Int → HP) : HP :=
 newc #[.int .i64 p1.Kind, .int .i64 p1.User, .int .i64 p1.Seq, .int .i64 p1.Next, .int .i64 p1.Base, .int .i64 p1.Uid, .int .i64 p1.Time, .int .i64 p1.Flags, .int .i64 p1.Body, .int .i64 p1.Size, .int .i64 p1.Origin, .slice p1.Data.a p1.Data.len p1.Data.cap] fun t3 =>
 newc #[.int .i64 0, .int .i64 0, .int .i64 0, .int .i64 0, .int .i64 0, .int .i64 0, .int .i64 0, .int .i64 0, .int .i64 0, .int .i64 0, .int .i64 0, .int .i64 0, .int .i64 0, .slice none 0 0] fun t4 =>
 ld_G_api_Rec (at0 t3) fun t8 =>
 dbox_kept t8 fun t9 =>
 bif (!t9) then (
 dbox_Box_Put_j1 C p0 t3 t4 true K) else
 ld_G_api_Rec (at0 t3) fun t12 =>
 record_Check t12 fun t13 =>
 bif (!decide ((t13 : Int) = 0)) then (
 dbox_Box_Put_j1 C p0 t3 t4 true K) else
 dbox_Box_Last p0 fun t18 =>
 dbox_Box_Put_j1 C p0 t3 t4 (decide ((t18 : Int) = 99999999)) K
def dbox_Box_Put_run (C : Cx) (xs : List Value) (K : Value → HP) : HP :=
 arity xs 2 <|
 asP (xs.getD 0 undef) fun p0 =>
 as_G_api_Rec (xs.getD 1 undef) fun p1 =>
 dbox_Box_Put C p0 p1 (fun r0 r1 => K (.tuple #[r0.v, .int .i64 r1]))
def dbox_Box_Places_j1 (t3 : Sl) (t5 : Nat) (t11 : Sl) (t12 : Int) (t13 : Int) (t18 : Sl) (t19 : Int) (t20 : Int) (K : Sl → HP) (R1 : List Value → HP) (R2 : List Value → HP) : HP :=
 R2 [.slice t3.a t3.len t3.cap, .int .i64 (w64 (t20 + 1))]
def dbox_Box_Places (p0 : Option Addr) (K : Sl → HP) : HP :=
 nn p0 fun t9 =>
 ldL (t9.add 4) fun t11 =>
 loop (σ := List Value) (fun R1 vs1 =>
 asL (vs1.getD 0 undef) fun t3 =>
 asI .i64 (vs1.getD 1 undef) fun t13 =>
 bif (decide ((t13 : Int) < (t11.len : Nat))) then (
 ixL t11 4 t13 fun t15 =>
 ld_G_dbox_container t15 fun t16 =>
 newc #[.int .i64 0, .int .i64 0, .int .i64 0, .slice none 0 0] fun t5 =>
 sts (at0 t5) 0 [.int .i64 t16.seq, .int .i64 t16.size, .int .i64 t16.broken, .slice t16.l.a t16.l.len t16.l.cap] (
 ldL ((at0 t5).add 3) fun t18 =>
 loop (σ := List Value) (fun R2 vs2 =>
 asL (vs2.getD 0 undef) fun t3_1 =>
 asI .i64 (vs2.getD 1 undef) fun t20 =>
 bif (decide ((t20 : Int) < (t18.len : Nat))) then (
 ixL t18 14 t20 fun t22 =>
 ld_G_api_Found t22 fun t23 =>
 newc #[.int .i64 0, .int .i64 0, .int .i64 0, .int .i64 0, .int .i64 0, .int .i64 0, .int .i64 0, .int .i64 0, .int .i64 0, .int .i64 0, .int .i64 0, .int .i64 0, .int .i64 0, .slice none 0 0] fun t7 =>
 sts (at0 t7) 0 [.int .i64 t23.At, .int .i64 t23.Len, .int .i64 t23.Rec_Kind, .int .i64 t23.Rec_User, .int .i64 t23.Rec_Seq, .int .i64 t23.Rec_Next, .int .i64 t23.Rec_Base, .int .i64 t23.Rec_Uid, .int .i64 t23.Rec_Time, .int .i64 t23.Rec_Flags, .int .i64 t23.Rec_Body, .int .i64 t23.Rec_Size, .int .i64 t23.Rec_Origin, .slice t23.Rec_Data.a t23.Rec_Data.len t23.Rec_Data.cap] (
 ld_G_api_Rec ((at0 t7).add 2) fun t25 =>
 dbox_kept t25 fun t26 =>
 bif t26 then (
 ldI .i64 ((at0 t5).add 0) fun t29 =>
 ldI .i64 ((at0 t7).add 0) fun t31 =>
 ld_G_api_Rec ((at0 t7).add 2) fun t33 =>
 newc #[.int .i64 t29, .int .i64 t31, .int .i64 t33.Kind, .int .i64 t33.User, .int .i64 t33.Seq, .int .i64 t33.Next, .int .i64 t33.Base, .int .i64 t33.Uid, .int .i64 t33.Time, .int .i64 t33.Flags, .int .i64 t33.Body, .int .i64 t33.Size, .int .i64 t33.Origin, .slice t33.Data.a t33.Data.len t33.Data.cap] fun t35 =>
 app 14 128 #[.int .i64 0, .int .i64 0, .int .i64 0, .int .i64 0, .int .i64 0, .int .i64 0, .int .i64 0, .int .i64 0, .int .i64 0, .int .i64 0, .int .i64 0, .int .i64 0, .int .i64 0, .slice none 0 0] t3_1 (⟨some (at0 t35), 1, 1⟩ : Sl) fun t36 =>
 dbox_Box_Places_j1 t36 t5 t11 (t11.len : Nat) t13 t18 (t18.len : Nat) t20 K R1 R2) else
 dbox_Box_Places_j1 t3_1 t5 t11 (t11.len : Nat) t13 t18 (t18.len : Nat) t20 K R1 R2)) else
 R1 [.slice t3_1.a t3_1.len t3_1.cap, .int .i64 (w64 (t13 + 1))]) [.slice t3.a t3.len t3.cap, .int .i64 0])) else
 K t3) [.slice none 0 0, .int .i64 0]
def dbox_Box_Places_run (xs : List Value) (K : Value → HP) : HP :=
 arity xs 1 <|
 asP (xs.getD 0 undef) fun p0 =>
 dbox_Box_Places p0 (fun r0 => K (.slice r0.a r0.len r0.cap))
def dbox_Box_Get_1 (p0 : G_api_Place) (p1 : Addr) (K : Bool → HP) : HP :=
 newc #[.int .i64 p0.Seq, .int .i64 p0.At, .int .i64 p0.Rec_Kind, .int .i64 p0.Rec_User, .int .i64 p0.Rec_Seq, .int .i64 p0.Rec_Next, .int .i64 p0.Rec_Base, .int .i64 p0.Rec_Uid, .int .i64 p0.Rec_Time, .int .i64 p0.Rec_Flags, .int .i64 p0.Rec_Body, .int .i64 p0.Rec_Size, .int .i64 p0.Rec_Origin, .slice p0.Rec_Data.a p0.Rec_Data.len p0.Rec_Data.cap] fun t2 =>
 ldI .i64 ((at0 t2).add 0) fun t5 =>
 ldI .i64 (p1.add 0) fun t7 =>
 bif (decide ((t5 : Int) = t7)) then (
 ldI .i64 ((at0 t2).add 1) fun t11 =>
 ldI .i64 (p1.add 1) fun t13 =>
 K (decide ((t11 : Int) = t13))) else
 K false
def dbox_Box_Get_1_run (xs : List Value) (K : Value → HP) : HP :=
 arity xs 2 <|
 as_G_api_Place (xs.getD 0 undef) fun p0 =>
 asA (xs.getD 1 undef) fun p1 =>
 dbox_Box_Get_1 p0 p1 (fun r0 => K (.bool r0))
def slices_IndexFunc_api_Place_api_Place (C : Cx) (p0 : Sl) (p1 : FV) (K : Int → HP) : HP :=
 loop (σ := List Value) (fun R1 vs1 =>
 asI .i64 (vs1.getD 0 undef) fun t8 =>
 bif (decide ((t8 : Int) < (p0.len : Nat))) then (
 ixL p0 14 t8 fun t14 =>
 ld_G_api_Place t14 fun t15 =>
 C.ap p1 [.agg #[.int .i64 t15.Seq, .int .i64 t15.At, .int .i64 t15.Rec_Kind, .int .i64 t15.Rec_User, .int .i64 t15.Rec_Seq, .int .i64 t15.Rec_Next, .int .i64 t15.Rec_Base, .int .i64 t15.Rec_Uid, .int .i64 t15.Rec_Time, .int .i64 t15.Rec_Flags, .int .i64 t15.Rec_Body, .int .i64 t15.Rec_Size, .int .i64 t15.Rec_Origin, .slice t15.Rec_Data.a t15.Rec_Data.len t15.Rec_Data.cap]] fun t16 =>
 asB t16 fun t16_1 =>
 bif t16_1 then (
 K t8) else
 R1 [.int .i64 (w64 (t8 + 1))]) else
 K (-1)) [.int .i64 0]
def slices_IndexFunc_api_Place_api_Place_run (C : Cx) (xs : List Value) (K : Value → HP) : HP :=
 arity xs 2 <|
 asL (xs.getD 0 undef) fun p0 =>
 asF (xs.getD 1 undef) fun p1 =>
 slices_IndexFunc_api_Place_api_Place C p0 p1 (fun r0 => K (.int .i64 r0))
def slices_ContainsFunc_api_Place_api_Place (C : Cx) (p0 : Sl) (p1 : FV) (K : Bool → HP) : HP :=
 slices_IndexFunc_api_Place_api_Place C p0 p1 fun t7 =>
 K (decide ((0 : Int) ≤ t7))
def slices_ContainsFunc_api_Place_api_Place_run (C : Cx) (xs : List Value) (K : Value → HP) : HP :=
 arity xs 2 <|
 asL (xs.getD 0 undef) fun p0 =>
 asF (xs.getD 1 undef) fun p1 =>
 slices_ContainsFunc_api_Place_api_Place C p0 p1 (fun r0 => K (.bool r0))
def dbox_Box_Get_j1 (C : Cx) (t4 : Nat) (t8 : Sl) (t55 : Bool) (K : G_api_Rec → Int → HP) : HP :=
 bif t55 then (
 sts (at0 t4) 0 [.int .i64 0, .int .i64 0, .int .i64 0, .int .i64 0, .int .i64 0, .int .i64 0, .int .i64 0, .int .i64 0, .int .i64 0, .int .i64 0, .int .i64 0, .slice none 0 0] (
 ld_G_api_Rec (at0 t4) fun r4 =>
 K r4 12)) else
 ixL t8 14 0 fun t58 =>
 ld_G_api_Rec (t58.add 2) fun t60 =>
 sts (at0 t4) 0 [.int .i64 t60.Kind, .int .i64 t60.User, .int .i64 t60.Seq, .int .i64 t60.Next, .int .i64 t60.Base, .int .i64 t60.Uid, .int .i64 t60.Time, .int .i64 t60.Flags, .int .i64 t60.Body, .int .i64 t60.Size, .int .i64 t60.Origin, .slice t60.Data.a t60.Data.len t60.Data.cap] (
 ld_G_api_Rec (at0 t4) fun r4_2 =>
 K r4_2 0)
def dbox_Box_Get (C : Cx) (p0 : Option Addr) (p1 : G_api_Place) (K : G_api_Rec → Int → HP) : HP :=
 newc #[.int .i64 p1.Seq, .int .i64 p1.At, .int .i64 p1.Rec_Kind, .int .i64 p1.Rec_User, .int .i64 p1.Rec_Seq, .int .i64 p1.Rec_Next, .int .i64 p1.Rec_Base, .int .i64 p1.Rec_Uid, .int .i64 p1.Rec_Time, .int .i64 p1.Rec_Flags, .int .i64 p1.Rec_Body, .int .i64 p1.Rec_Size, .int .i64 p1.Rec_Origin, .slice p1.Rec_Data.a p1.Rec_Data.len p1.Rec_Data.cap] fun t3 =>
 newc #[.int .i64 0, .int .i64 0, .int .i64 0, .int .i64 0, .int .i64 0, .int .i64 0, .int .i64 0, .int .i64 0, .int .i64 0, .int .i64 0, .int .i64 0, .slice none 0 0] fun t4 =>
 nn p0 fun t12 =>
 ldP (t12.add 0) fun t14 =>
 nn p0 fun t16 =>
 ldI .i64 (t16.add 1) fun t18 =>
 ldI .i64 ((at0 t3).add 0) fun t20 =>
 dbox_Name t18 t20 fun t21 =>
 held (ldP (t12.add 0) fun t14_1 =>
 fun _ => (Value.pointer t14_1) = (Value.pointer t14)) (
 vdisk_Disk_Read t14 t21 fun t22a t22b =>
 bif (!decide ((t22b : Int) = 0)) then (
 sts (at0 t4) 0 [.int .i64 0, .int .i64 0, .int .i64 0, .int .i64 0, .int .i64 0, .int .i64 0, .int .i64 0, .int .i64 0, .int .i64 0, .int .i64 0, .int .i64 0, .slice none 0 0] (
 ld_G_api_Rec (at0 t4) fun r4 =>
 K r4 t22b)) else
 dbox_Box_Places p0 fun t30 =>
 clo C (fun xs K => dbox_Box_Get_1_run ([] ++ xs ++ [.pointer (some (at0 t3))]) K) fun t31 =>
 slices_ContainsFunc_api_Place_api_Place C t30 t31 fun t32 =>
 bif (!t32) then (
 sts (at0 t4) 0 [.int .i64 0, .int .i64 0, .int .i64 0, .int .i64 0, .int .i64 0, .int .i64 0, .int .i64 0, .int .i64 0, .int .i64 0, .int .i64 0, .int .i64 0, .slice none 0 0] (
 ld_G_api_Rec (at0 t4) fun r4_1 =>
 K r4_1 7)) else
 ldI .i64 ((at0 t3).add 1) fun t38 =>
 slL t22a 1 (if ((t22a.len : Nat) : Int) < t38 then (t22a.len : Nat) else t38) (t22a.len : Nat) (t22a.cap : Nat) fun t42 =>
 record_Scan C t42 fun t43a t43b =>
 bif (decide (((t43a.len : Nat) : Int) = 0)) then (
 dbox_Box_Get_j1 C t4 t43a true K) else
 ixL t43a 14 0 fun t51 =>
 ldI .i64 (t51.add 0) fun t53 =>
 dbox_Box_Get_j1 C t4 t43a (!decide ((t53 : Int) = 0)) K)
def dbox_Box_Get_run (C : Cx) (xs : List Value) (K : Value → HP) : HP :=
 arity xs 2 <|
 asP (xs.getD 0 undef) fun p0 =>
 as_G_api_Place (xs.getD 1 undef) fun p1 =>
 dbox_Box_Get C p0 p1 (fun r0 r1 => K (.tuple #[r0.v, .int .i64 r1]))
def dbox_Box_Next (p0 : Option Addr) (K : Int → HP) : HP :=
 nn p0 fun t4 =>
 ldI .i64 (t4.add 3) fun t6 =>
 K t6
def dbox_Box_Next_run (xs : List Value) (K : Value → HP) : HP :=
 arity xs 1 <|
 asP (xs.getD 0 undef) fun p0 =>
 dbox_Box_Next p0 (fun r0 => K (.int .i64 r0))
def dbox_Box_Broken (p0 : Option Addr) (K : Int → HP) : HP :=
 nn p0 fun t7 =>
 ldL (t7.add 4) fun t9 =>
 loop (σ := List Value) (fun R1 vs1 =>
 asI .i64 (vs1.getD 0 undef) fun t3 =>
 asI .i64 (vs1.getD 1 undef) fun t11 =>
 bif (decide ((t11 : Int) < (t9.len : Nat))) then (
 ixL t9 4 t11 fun t13 =>
 ld_G_dbox_container t13 fun t14 =>
 newc #[.int .i64 0, .int .i64 0, .int .i64 0, .slice none 0 0] fun t5 =>
 sts (at0 t5) 0 [.int .i64 t14.seq, .int .i64 t14.size, .int .i64 t14.broken, .slice t14.l.a t14.l.len t14.l.cap] (
 ldI .i64 ((at0 t5).add 2) fun t17 =>
 R1 [.int .i64 (w64 (t3 + t17)), .int .i64 (w64 (t11 + 1))])) else
 K t3) [.int .i64 0, .int .i64 0]
def dbox_Box_Broken_run (xs : List Value) (K : Value → HP) : HP :=
 arity xs 1 <|
 asP (xs.getD 0 undef) fun p0 =>
 dbox_Box_Broken p0 (fun r0 => K (.int .i64 r0))
def lw18_awake_j2 (C : Cx) (t2 : Option Addr) (t25 : Bool) (K : Bool → HP) : HP :=
 bif t25 then (
 K false) else
 dbox_Box_Put C t2 (⟨3, 0, 0, 0, 0, 3, 0, 0, 0, 0, 0, (⟨none, 0, 0⟩ : Sl)⟩ : G_api_Rec) fun t29a t29b =>
 newc #[.int .i64 0, .int .i64 0, .int .i64 0, .int .i64 0, .int .i64 0, .int .i64 0, .int .i64 0, .int .i64 0, .int .i64 0, .int .i64 0, .int .i64 0, .int .i64 0, .int .i64 0, .slice none 0 0] fun t4 =>
 sts (at0 t4) 0 [.int .i64 t29a.Seq, .int .i64 t29a.At, .int .i64 t29a.Rec_Kind, .int .i64 t29a.Rec_User, .int .i64 t29a.Rec_Seq, .int .i64 t29a.Rec_Next, .int .i64 t29a.Rec_Base, .int .i64 t29a.Rec_Uid, .int .i64 t29a.Rec_Time, .int .i64 t29a.Rec_Flags, .int .i64 t29a.Rec_Body, .int .i64 t29a.Rec_Size, .int .i64 t29a.Rec_Origin, .slice t29a.Rec_Data.a t29a.Rec_Data.len t29a.Rec_Data.cap] (
 ld_G_api_Place (at0 t4) fun t34 =>
 dbox_Box_Get C t2 t34 fun t35a t35b =>
 newc #[.int .i64 0, .int .i64 0, .int .i64 0, .int .i64 0, .int .i64 0, .int .i64 0, .int .i64 0, .int .i64 0, .int .i64 0, .int .i64 0, .int .i64 0, .slice none 0 0] fun t6 =>
 sts (at0 t6) 0 [.int .i64 t35a.Kind, .int .i64 t35a.User, .int .i64 t35a.Seq, .int .i64 t35a.Next, .int .i64 t35a.Base, .int .i64 t35a.Uid, .int .i64 t35a.Time, .int .i64 t35a.Flags, .int .i64 t35a.Body, .int .i64 t35a.Size, .int .i64 t35a.Origin, .slice t35a.Data.a t35a.Data.len t35a.Data.cap] (
 bif (decide ((t29b : Int) = 0)) then (
 bif (decide ((t35b : Int) = 0)) then (
 ldI .i64 ((at0 t6).add 5) fun t46 =>
 bif (decide ((t46 : Int) = 3)) then (
 ldI .i64 ((at0 t4).add 0) fun t51 =>
 bif (decide ((t51 : Int) = 1)) then (
 ldI .i64 ((at0 t4).add 1) fun t56 =>
 bif (decide ((0 : Int) < t56)) then (
 dbox_Box_Next t2 fun t61 =>
 bif (decide ((t61 : Int) = 4)) then (
 dbox_Box_Places t2 fun t66 =>
 bif (decide (((t66.len : Nat) : Int) = 1)) then (
 dbox_Box_Last t2 fun t72 =>
 bif (decide ((t72 : Int) = 1)) then (
 dbox_Box_Broken t2 fun t77 =>
 K (decide ((t77 : Int) = 0))) else
 K false) else
 K false) else
 K false) else
 K false) else
 K false) else
 K false) else
 K false) else
 K false))
def lw18_awake_j1 (C : Cx) (t1 : Option Addr) (t14 : Bool) (K : Bool → HP) : HP :=
 bif t14 then (
 K false) else
 dbox_Open C t1 7 100 fun t17a t17b =>
 bif t17a.isNone then (
 lw18_awake_j2 C t17a true K) else
 lw18_awake_j2 C t17a (!decide ((t17b : Int) = 0)) K
def lw18_awake (C : Cx) (K : Bool → HP) : HP :=
 vdisk_New (⟨none, 0, 0⟩ : Sl) 1000 fun t8 =>
 bif t8.isNone then (
 lw18_awake_j1 C t8 true K) else
 dbox_Name 7 1 fun t12 =>
 lw18_awake_j1 C t8 (!decide (t12 = (⟨#[99, 48, 48, 55, 45, 48, 48, 48, 48, 48, 48, 48, 49]⟩ : ByteArray))) K
def lw18_awake_run (C : Cx) (xs : List Value) (K : Value → HP) : HP :=
 arity xs 0 <|
 lw18_awake C (fun r0 => K (.bool r0))
def rf04_Bulk_j1 (t0 : Sl) (t1 : Int) (t5 : Int) (t6 : Int) (t15 : Bool) (K : Int → HP) (R1 : List Value → HP) : HP :=
 bif t15 then (
 ixL t0 2 t6 fun t22 =>
 ldL (t22.add 1) fun t24 =>
 R1 [.int .i64 (w64 ((w64 (t5 + 1)) + (if (w64 (t1 + 1) : Int) < (t24.len : Nat) then (w64 (t1 + 1)) else (t24.len : Nat)))), .int .i64 (w64 (t6 + 1))]) else
 K t5
def rf04_Bulk (p0 : Sl) (p1 : Int) (K : Int → HP) : HP :=
 loop (σ := List Value) (fun R1 vs1 =>
 asI .i64 (vs1.getD 0 undef) fun t5 =>
 asI .i64 (vs1.getD 1 undef) fun t6 =>
 bif (decide ((t6 : Int) < (p0.len : Nat))) then (
 rf04_Bulk_j1 p0 p1 t5 t6 (decide ((t5 : Int) ≤ p1)) K R1) else
 rf04_Bulk_j1 p0 p1 t5 t6 false K R1) [.int .i64 0, .int .i64 0]
def rf04_Bulk_run (xs : List Value) (K : Value → HP) : HP :=
 arity xs 2 <|
 asL (xs.getD 0 undef) fun p0 =>
 asI .i64 (xs.getD 1 undef) fun p1 =>
 rf04_Bulk p0 p1 (fun r0 => K (.int .i64 r0))
def rf18_digits (p0 : Int) (p1 : Int) (K : ByteArray → HP) : HP :=
 loop (σ := List Value) (fun R1 vs1 =>
 asI .i64 (vs1.getD 0 undef) fun t0 =>
 asS (vs1.getD 1 undef) fun t5 =>
 asI .i64 (vs1.getD 2 undef) fun t6 =>
 bif (decide ((t6 : Int) < p1)) then (
 nz 10 (
 newc #[.int .u8 (wr .u8 (w64 (48 + (Int.tmod t0 10))))] fun t16 =>
 ldBy (⟨some (at0 t16), 1, 1⟩ : Sl) fun t17 =>
 cat t17 t5 fun t19 =>
 nz 10 (
 R1 [.int .i64 (w64 (Int.tdiv t0 10)), .string t19, .int .i64 (w64 (t6 + 1))]))) else
 K t5) [.int .i64 p0, .string (⟨#[]⟩ : ByteArray), .int .i64 0]
def rf18_digits_run (xs : List Value) (K : Value → HP) : HP :=
 arity xs 2 <|
 asI .i64 (xs.getD 0 undef) fun p0 =>
 asI .i64 (xs.getD 1 undef) fun p1 =>
 rf18_digits p0 p1 (fun r0 => K (.string r0))
def rf18_Name_j1 (t0 : Int) (t1 : Int) (t18 : Bool) (K : ByteArray → HP) : HP :=
 bif t18 then (
 K (⟨#[]⟩ : ByteArray)) else
 rf18_digits t0 3 fun t20 =>
 cat (⟨#[99]⟩ : ByteArray) t20 fun t21 =>
 cat t21 (⟨#[45]⟩ : ByteArray) fun t22 =>
 rf18_digits t1 8 fun t24 =>
 cat t22 t24 fun t25 =>
 K t25
def rf18_Name (p0 : Int) (p1 : Int) (K : ByteArray → HP) : HP :=
 bif (decide ((p0 : Int) < 1)) then (
 rf18_Name_j1 p0 p1 true K) else
 bif (decide ((999 : Int) < p0)) then (
 rf18_Name_j1 p0 p1 true K) else
 bif (decide ((p1 : Int) < 1)) then (
 rf18_Name_j1 p0 p1 true K) else
 rf18_Name_j1 p0 p1 (decide ((99999999 : Int) < p1)) K
def rf18_Name_run (xs : List Value) (K : Value → HP) : HP :=
 arity xs 2 <|
 asI .i64 (xs.getD 0 undef) fun p0 =>
 asI .i64 (xs.getD 1 undef) fun p1 =>
 rf18_Name p0 p1 (fun r0 => K (.string r0))
def rf04_Name_j2 (t0 : ByteArray) (t3 : Int) (t45 : Bool) (K : Bool → HP) (R1 : List Value → HP) : HP :=
 bif t45 then (
 K false) else
 R1 [.int .i64 (w64 (t3 + 1))]
def rf04_Name_j1 (t0 : ByteArray) (t12 : Bool) (K : Bool → HP) : HP :=
 bif t12 then (
 K false) else
 loop (σ := List Value) (fun R1 vs1 =>
 asI .i64 (vs1.getD 0 undef) fun t3 =>
 bif (decide ((t3 : Int) < (t0.size : Nat))) then (
 ixS t0 t3 fun t21 =>
 bif (decide ((97 : Int) ≤ t21)) then (
 bif (!(decide ((t21 : Int) ≤ 122))) then (
 bif (decide ((48 : Int) ≤ t21)) then (
 bif (!(decide ((t21 : Int) ≤ 57))) then (
 bif (!decide ((t21 : Int) = 46)) then (
 rf04_Name_j2 t0 t3 (!decide ((t21 : Int) = 45)) K R1) else
 rf04_Name_j2 t0 t3 false K R1) else
 rf04_Name_j2 t0 t3 false K R1) else
 bif (!false) then (
 bif (!decide ((t21 : Int) = 46)) then (
 rf04_Name_j2 t0 t3 (!decide ((t21 : Int) = 45)) K R1) else
 rf04_Name_j2 t0 t3 false K R1) else
 rf04_Name_j2 t0 t3 false K R1) else
 rf04_Name_j2 t0 t3 false K R1) else
 bif (!false) then (
 bif (decide ((48 : Int) ≤ t21)) then (
 bif (!(decide ((t21 : Int) ≤ 57))) then (
 bif (!decide ((t21 : Int) = 46)) then (
 rf04_Name_j2 t0 t3 (!decide ((t21 : Int) = 45)) K R1) else
 rf04_Name_j2 t0 t3 false K R1) else
 rf04_Name_j2 t0 t3 false K R1) else
 bif (!false) then (
 bif (!decide ((t21 : Int) = 46)) then (
 rf04_Name_j2 t0 t3 (!decide ((t21 : Int) = 45)) K R1) else
 rf04_Name_j2 t0 t3 false K R1) else
 rf04_Name_j2 t0 t3 false K R1) else
 rf04_Name_j2 t0 t3 false K R1) else
 K true) [.int .i64 0]
def rf04_Name (p0 : ByteArray) (K : Bool → HP) : HP :=
 bif (decide (((p0.size : Nat) : Int) < 1)) then (
 rf04_Name_j1 p0 true K) else
 rf04_Name_j1 p0 (decide ((32 : Int) < (p0.size : Nat))) K
def rf04_Name_run (xs : List Value) (K : Value → HP) : HP :=
 arity xs 1 <|
 asS (xs.getD 0 undef) fun p0 =>
 rf04_Name p0 (fun r0 => K (.bool r0))
def rf04_find (p0 : Sl) (p1 : ByteArray) (K : Int → HP) : HP :=
 loop (σ := List Value) (fun R1 vs1 =>
 asI .i64 (vs1.getD 0 undef) fun t5 =>
 bif (decide ((t5 : Int) < (p0.len : Nat))) then (
 ixL p0 2 t5 fun t14 =>
 ldS (t14.add 0) fun t16 =>
 bif (decide (t16 = p1)) then (
 ixL p0 2 t5 fun t21 =>
 ldI .i64 (t21.add 1) fun t23 =>
 K t23) else
 R1 [.int .i64 (w64 (t5 + 1))]) else
 K (-1)) [.int .i64 0]
def rf04_find_run (xs : List Value) (K : Value → HP) : HP :=
 arity xs 2 <|
 asL (xs.getD 0 undef) fun p0 =>
 asS (xs.getD 1 undef) fun p1 =>
 rf04_find p0 p1 (fun r0 => K (.int .i64 r0))
def rf04_without_j1 (t0 : Sl) (t1 : ByteArray) (t5 : Sl) (t6 : Int) (K : Sl → HP) (R1 : List Value → HP) : HP :=
 R1 [.slice t5.a t5.len t5.cap, .int .i64 (w64 (t6 + 1))]
def rf04_without (p0 : Sl) (p1 : ByteArray) (K : Sl → HP) : HP :=
 loop (σ := List Value) (fun R1 vs1 =>
 asL (vs1.getD 0 undef) fun t5 =>
 asI .i64 (vs1.getD 1 undef) fun t6 =>
 bif (decide ((t6 : Int) < (p0.len : Nat))) then (
 ixL p0 2 t6 fun t15 =>
 ldS (t15.add 0) fun t17 =>
 bif (!decide (t17 = p1)) then (
 ixL p0 2 t6 fun t23 =>
 ld_G_rf04_Entry t23 fun t24 =>
 newc #[.string t24.Name, .int .i64 t24.File] fun t25 =>
 app 2 24 #[.string (⟨#[]⟩ : ByteArray), .int .i64 0] t5 (⟨some (at0 t25), 1, 1⟩ : Sl) fun t26 =>
 rf04_without_j1 p0 p1 t26 t6 K R1) else
 rf04_without_j1 p0 p1 t5 t6 K R1) else
 K t5) [.slice none 0 0, .int .i64 0]
def rf04_without_run (xs : List Value) (K : Value → HP) : HP :=
 arity xs 2 <|
 asL (xs.getD 0 undef) fun p0 =>
 asS (xs.getD 1 undef) fun p1 =>
 rf04_without p0 p1 (fun r0 => K (.slice r0.a r0.len r0.cap))
def rf04_put_j1 (t0 : Sl) (t3 : Nat) (t5 : Int) (t25 : Bool) (K : Sl → HP) (R1 : List Value → HP) : HP :=
 bif t25 then (
 R1 [.int .i64 (w64 (t5 - 1))]) else
 slL t0 2 0 t5 (t0.cap : Nat) fun t31 =>
 app 2 24 #[.string (⟨#[]⟩ : ByteArray), .int .i64 0] (⟨none, 0, 0⟩ : Sl) t31 fun t32 =>
 ld_G_rf04_Entry (at0 t3) fun t34 =>
 newc #[.string t34.Name, .int .i64 t34.File] fun t35 =>
 app 2 24 #[.string (⟨#[]⟩ : ByteArray), .int .i64 0] t32 (⟨some (at0 t35), 1, 1⟩ : Sl) fun t36 =>
 slL t0 2 t5 (t0.len : Nat) (t0.cap : Nat) fun t40 =>
 app 2 24 #[.string (⟨#[]⟩ : ByteArray), .int .i64 0] t36 t40 fun t41 =>
 K t41
def rf04_put (p0 : Sl) (p1 : G_rf04_Entry) (K : Sl → HP) : HP :=
 newc #[.string p1.Name, .int .i64 p1.File] fun t3 =>
 ldS ((at0 t3).add 0) fun t9 =>
 rf04_without p0 t9 fun t10 =>
 loop (σ := List Value) (fun R1 vs1 =>
 asI .i64 (vs1.getD 0 undef) fun t5 =>
 bif (decide ((0 : Int) < t5)) then (
 ixL t10 2 (w64 (t5 - 1)) fun t19 =>
 ldS (t19.add 0) fun t21 =>
 ldS ((at0 t3).add 0) fun t23 =>
 rf04_put_j1 t10 t3 t5 (!(slt t21 t23 || decide (t21 = t23))) K R1) else
 rf04_put_j1 t10 t3 t5 false K R1) [.int .i64 (t10.len : Nat)]
def rf04_put_run (xs : List Value) (K : Value → HP) : HP :=
 arity xs 2 <|
 asL (xs.getD 0 undef) fun p0 =>
 as_G_rf04_Entry (xs.getD 1 undef) fun p1 =>
 rf04_put p0 p1 (fun r0 => K (.slice r0.a r0.len r0.cap))
def rf04_New_j2 (t0 : Sl) (t1 : Int) (t5 : Nat) (t6 : Int) (t7 : Int) (t8 : Nat) (t55 : Bool) (K : Option Addr → HP) (R1 : List Value → HP) : HP :=
 bif t55 then (
 K none) else
 ldL ((at0 t8).add 1) fun t58 =>
 nn (some (at0 t5)) fun t63 =>
 ldL (t63.add 0) fun t65 =>
 ldL ((at0 t8).add 1) fun t67 =>
 ldBy t67 fun t68 =>
 ldL ((at0 t8).add 1) fun t70 =>
 ldBy t70 fun t71 =>
 newc #[.string t68, .string t71, .slice none 0 0] fun t73 =>
 held (ldL (t63.add 0) fun t65_1 =>
 fun _ => (Value.slice t65_1.a t65_1.len t65_1.cap) = (Value.slice t65.a t65.len t65.cap)) (
 app 3 56 #[.string (⟨#[]⟩ : ByteArray), .string (⟨#[]⟩ : ByteArray), .slice none 0 0] t65 (⟨some (at0 t73), 1, 1⟩ : Sl) fun t74 =>
 nn (some (at0 t5)) fun t75 =>
 sts (t75.add 0) 0 [.slice t74.a t74.len t74.cap] (
 nn (some (at0 t5)) fun t79 =>
 ldL (t79.add 1) fun t81 =>
 ldS ((at0 t8).add 0) fun t83 =>
 rf04_put t81 (⟨t83, t7⟩ : G_rf04_Entry) fun t86 =>
 nn (some (at0 t5)) fun t87 =>
 sts (t87.add 1) 0 [.slice t86.a t86.len t86.cap] (
 R1 [.int .i64 (w64 (t6 + (t58.len : Nat))), .int .i64 (w64 (t7 + 1))])))
def rf04_New_j1 (t0 : Sl) (t1 : Int) (t19 : Bool) (K : Option Addr → HP) : HP :=
 bif t19 then (
 K none) else
 newc #[.slice none 0 0, .slice none 0 0, .slice none 0 0, .slice none 0 0, .int .i64 t1, .bool false, .int .i64 0, .int .i64 (-1), .int .i64 (-1), .int .i64 0] fun t22 =>
 loop (σ := List Value) (fun R1 vs1 =>
 asI .i64 (vs1.getD 0 undef) fun t6 =>
 asI .i64 (vs1.getD 1 undef) fun t7 =>
 bif (decide ((t7 : Int) < (t0.len : Nat))) then (
 ixL t0 2 t7 fun t31 =>
 ld_G_api_File t31 fun t32 =>
 newc #[.string (⟨#[]⟩ : ByteArray), .slice none 0 0] fun t8 =>
 sts (at0 t8) 0 [.string t32.Name, .slice t32.Data.a t32.Data.len t32.Data.cap] (
 ldS ((at0 t8).add 0) fun t34 =>
 rf04_Name t34 fun t35 =>
 bif (!t35) then (
 rf04_New_j2 t0 t1 t22 t6 t7 t8 true K R1) else
 nn (some (at0 t22)) fun t39 =>
 ldL (t39.add 1) fun t41 =>
 ldS ((at0 t8).add 0) fun t43 =>
 rf04_find t41 t43 fun t44 =>
 bif (decide ((0 : Int) ≤ t44)) then (
 rf04_New_j2 t0 t1 t22 t6 t7 t8 true K R1) else
 ldL ((at0 t8).add 1) fun t49 =>
 rf04_New_j2 t0 t1 t22 t6 t7 t8 (decide ((w64 (t1 - t6) : Int) < (t49.len : Nat))) K R1)) else
 nn (some (at0 t22)) fun t91 =>
 ldL (t91.add 1) fun t93 =>
 nn (some (at0 t22)) fun t94 =>
 sts (t94.add 2) 0 [.slice t93.a t93.len t93.cap] (
 K (some (at0 t22)))) [.int .i64 0, .int .i64 0]
def rf04_New (p0 : Sl) (p1 : Int) (K : Option Addr → HP) : HP :=
 bif (decide ((p1 : Int) < 1)) then (
 rf04_New_j1 p0 p1 true K) else
 bif (decide ((4194304 : Int) < p1)) then (
 rf04_New_j1 p0 p1 true K) else
 rf04_New_j1 p0 p1 (decide ((1024 : Int) < (p0.len : Nat))) K
def rf04_New_run (xs : List Value) (K : Value → HP) : HP :=
 arity xs 2 <|
 asL (xs.getD 0 undef) fun p0 =>
 asI .i64 (xs.getD 1 undef) fun p1 =>
 rf04_New p0 p1 (fun r0 => K (.pointer r0))
def rf04_Disk_begin_j2 (t0 : Option Addr) (t3 : Bool) (t4 : Bool) (K : Int → HP) : HP :=
 bif t3 then (
 nn t0 fun t55 =>
 sts (t55.add 5) 0 [.bool true] (
 K 11)) else
 bif t4 then (
 nn t0 fun t59 =>
 ldI .i64 (t59.add 9) fun t61 =>
 K t61) else
 K 0
def rf04_Disk_begin_j1 (t0 : Option Addr) (t3 : Bool) (t4 : Bool) (K : Int → HP) : HP :=
 nn t0 fun t41 =>
 ldI .i64 (t41.add 7) fun t43 =>
 bif (decide ((0 : Int) ≤ t43)) then (
 nn t0 fun t47 =>
 ldI .i64 (t47.add 7) fun t49 =>
 nn t0 fun t51 =>
 sts (t51.add 7) 0 [.int .i64 (w64 (t49 - 1))] (
 rf04_Disk_begin_j2 t0 t3 t4 K)) else
 rf04_Disk_begin_j2 t0 t3 t4 K
def rf04_Disk_begin (p0 : Option Addr) (K : Int → HP) : HP :=
 nn p0 fun t6 =>
 ldB (t6.add 5) fun t8 =>
 bif t8 then (
 K 11) else
 nn p0 fun t11 =>
 ldI .i64 (t11.add 6) fun t13 =>
 nn p0 fun t15 =>
 sts (t15.add 6) 0 [.int .i64 (w64 (t13 + 1))] (
 nn p0 fun t18 =>
 ldI .i64 (t18.add 8) fun t20 =>
 nn p0 fun t23 =>
 ldI .i64 (t23.add 7) fun t25 =>
 nn p0 fun t28 =>
 ldI .i64 (t28.add 8) fun t30 =>
 bif (decide ((0 : Int) ≤ t30)) then (
 nn p0 fun t34 =>
 ldI .i64 (t34.add 8) fun t36 =>
 nn p0 fun t38 =>
 sts (t38.add 8) 0 [.int .i64 (w64 (t36 - 1))] (
 rf04_Disk_begin_j1 p0 (decide ((t20 : Int) = 0)) (decide ((t25 : Int) = 0)) K)) else
 rf04_Disk_begin_j1 p0 (decide ((t20 : Int) = 0)) (decide ((t25 : Int) = 0)) K)
def rf04_Disk_begin_run (xs : List Value) (K : Value → HP) : HP :=
 arity xs 1 <|
 asP (xs.getD 0 undef) fun p0 =>
 rf04_Disk_begin p0 (fun r0 => K (.int .i64 r0))
def rf04_Disk_Find (p0 : Option Addr) (p1 : ByteArray) (K : Int → HP) : HP :=
 nn p0 fun t6 =>
 ldL (t6.add 1) fun t8 =>
 rf04_find t8 p1 fun t10 =>
 K t10
def rf04_Disk_Find_run (xs : List Value) (K : Value → HP) : HP :=
 arity xs 2 <|
 asP (xs.getD 0 undef) fun p0 =>
 asS (xs.getD 1 undef) fun p1 =>
 rf04_Disk_Find p0 p1 (fun r0 => K (.int .i64 r0))
def rf04_do_j1 (t0 : Sl) (t3 : Nat) (t5 : Int) (K : Sl → HP) : HP :=
 ldS ((at0 t3).add 1) fun t22 =>
 bif (decide (t22 = (⟨#[]⟩ : ByteArray))) then (
 K t0) else
 ldS ((at0 t3).add 1) fun t27 =>
 rf04_put t0 (⟨t27, t5⟩ : G_rf04_Entry) fun t30 =>
 K t30
def rf04_do (p0 : Sl) (p1 : G_rf04_Turn) (K : Sl → HP) : HP :=
 newc #[.string p1.From, .string p1.To, .int .i64 p1.File] fun t3 =>
 ldI .i64 ((at0 t3).add 2) fun t7 =>
 bif (decide ((t7 : Int) < 0)) then (
 ldS ((at0 t3).add 0) fun t12 =>
 rf04_find p0 t12 fun t13 =>
 bif (decide ((t13 : Int) < 0)) then (
 K p0) else
 ldS ((at0 t3).add 0) fun t19 =>
 rf04_without p0 t19 fun t20 =>
 rf04_do_j1 t20 t3 t13 K) else
 rf04_do_j1 p0 t3 t7 K
def rf04_do_run (xs : List Value) (K : Value → HP) : HP :=
 arity xs 2 <|
 asL (xs.getD 0 undef) fun p0 =>
 as_G_rf04_Turn (xs.getD 1 undef) fun p1 =>
 rf04_do p0 p1 (fun r0 => K (.slice r0.a r0.len r0.cap))
def rf04_Disk_turn (p0 : Option Addr) (p1 : G_rf04_Turn) (K : HP) : HP :=
 newc #[.string p1.From, .string p1.To, .int .i64 p1.File] fun t3 =>
 nn p0 fun t7 =>
 ldL (t7.add 3) fun t9 =>
 app 3 40 #[.string (⟨#[]⟩ : ByteArray), .string (⟨#[]⟩ : ByteArray), .int .i64 0] (⟨none, 0, 0⟩ : Sl) t9 fun t10 =>
 ld_G_rf04_Turn (at0 t3) fun t13 =>
 newc #[.string t13.From, .string t13.To, .int .i64 t13.File] fun t14 =>
 app 3 40 #[.string (⟨#[]⟩ : ByteArray), .string (⟨#[]⟩ : ByteArray), .int .i64 0] t10 (⟨some (at0 t14), 1, 1⟩ : Sl) fun t15 =>
 nn p0 fun t16 =>
 sts (t16.add 3) 0 [.slice t15.a t15.len t15.cap] (
 nn p0 fun t20 =>
 ldL (t20.add 1) fun t22 =>
 ld_G_rf04_Turn (at0 t3) fun t23 =>
 rf04_do t22 t23 fun t24 =>
 nn p0 fun t25 =>
 sts (t25.add 1) 0 [.slice t24.a t24.len t24.cap] (
 K))
def rf04_Disk_turn_run (xs : List Value) (K : Value → HP) : HP :=
 arity xs 2 <|
 asP (xs.getD 0 undef) fun p0 =>
 as_G_rf04_Turn (xs.getD 1 undef) fun p1 =>
 rf04_Disk_turn p0 p1 (K (.tuple #[]))
def rf04_Disk_Unlink (p0 : Option Addr) (p1 : ByteArray) (K : Int → HP) : HP :=
 rf04_Disk_begin p0 fun t7 =>
 bif (!decide ((t7 : Int) = 0)) then (
 K t7) else
 rf04_Disk_Find p0 p1 fun t13 =>
 bif (decide ((t13 : Int) < 0)) then (
 K 7) else
 rf04_Disk_turn p0 (⟨p1, (⟨#[]⟩ : ByteArray), (-1)⟩ : G_rf04_Turn) (
 K 0)
def rf04_Disk_Unlink_run (xs : List Value) (K : Value → HP) : HP :=
 arity xs 2 <|
 asP (xs.getD 0 undef) fun p0 =>
 asS (xs.getD 1 undef) fun p1 =>
 rf04_Disk_Unlink p0 p1 (fun r0 => K (.int .i64 r0))
def rf16_Tidy_j2 (t0 : Option Addr) (t1 : ByteArray) (t5 : Sl) (t6 : Int) (K : Int → HP) (R1 : List Value → HP) : HP :=
 R1 [.slice t5.a t5.len t5.cap, .int .i64 (w64 (t6 + 1))]
def rf16_Tidy_j1 (t0 : Option Addr) (t1 : ByteArray) (t5 : Sl) (t6 : Int) (t7 : ByteArray) (t56 : Bool) (K : Int → HP) (R1 : List Value → HP) : HP :=
 bif t56 then (
 newc #[.string t7] fun t59 =>
 app 1 16 #[.string (⟨#[]⟩ : ByteArray)] t5 (⟨some (at0 t59), 1, 1⟩ : Sl) fun t60 =>
 rf16_Tidy_j2 t0 t1 t60 t6 K R1) else
 rf16_Tidy_j2 t0 t1 t5 t6 K R1
def rf16_Tidy (p0 : Option Addr) (p1 : ByteArray) (K : Int → HP) : HP :=
 nn p0 fun t12 =>
 ldB (t12.add 5) fun t14 =>
 bif t14 then (
 K 0) else
 loop (σ := List Value) (fun R1 vs1 =>
 asL (vs1.getD 0 undef) fun t5 =>
 asI .i64 (vs1.getD 1 undef) fun t6 =>
 nn p0 fun t17 =>
 ldL (t17.add 1) fun t19 =>
 bif (decide ((t6 : Int) < (t19.len : Nat))) then (
 nn p0 fun t25 =>
 ldL (t25.add 1) fun t27 =>
 ixL t27 2 t6 fun t29 =>
 ldS (t29.add 0) fun t31 =>
 bif (decide (((p1.size : Nat) : Int) ≤ (t31.size : Nat))) then (
 slS t31 0 (p1.size : Nat) fun t42 =>
 bif (decide (t42 = p1)) then (
 bif (decide ((2 : Int) ≤ (t31.size : Nat))) then (
 slS t31 (w64 ((t31.size : Nat) - 2)) (t31.size : Nat) fun t54 =>
 rf16_Tidy_j1 p0 p1 t5 t6 t31 (decide (t54 = (⟨#[46, 110]⟩ : ByteArray))) K R1) else
 rf16_Tidy_j1 p0 p1 t5 t6 t31 false K R1) else
 rf16_Tidy_j1 p0 p1 t5 t6 t31 false K R1) else
 rf16_Tidy_j1 p0 p1 t5 t6 t31 false K R1) else
 loop (σ := List Value) (fun R2 vs2 =>
 asI .i64 (vs2.getD 0 undef) fun t9 =>
 bif (decide ((t9 : Int) < (t5.len : Nat))) then (
 ixL t5 1 t9 fun t70 =>
 ldS t70 fun t71 =>
 rf04_Disk_Unlink p0 t71 fun t72 =>
 bif (!decide ((t72 : Int) = 0)) then (
 K t72) else
 R2 [.int .i64 (w64 (t9 + 1))]) else
 K 0) [.int .i64 0]) [.slice none 0 0, .int .i64 0]
def rf16_Tidy_run (xs : List Value) (K : Value → HP) : HP :=
 arity xs 2 <|
 asP (xs.getD 0 undef) fun p0 =>
 asS (xs.getD 1 undef) fun p1 =>
 rf16_Tidy p0 p1 (fun r0 => K (.int .i64 r0))
def rf18_seqOf_j2 (t1 : ByteArray) (t6 : Int) (t7 : Int) (t41 : Bool) (K : Int → HP) (R1 : List Value → HP) : HP :=
 bif t41 then (
 K 0) else
 ixS t1 t7 fun t46 =>
 R1 [.int .i64 (w64 ((w64 ((w64 (10 * t6)) + (w64 t46))) - 48)), .int .i64 (w64 (t7 + 1))]
def rf18_seqOf_j1 (t1 : ByteArray) (t20 : Bool) (K : Int → HP) : HP :=
 bif t20 then (
 K (-1)) else
 loop (σ := List Value) (fun R1 vs1 =>
 asI .i64 (vs1.getD 0 undef) fun t6 =>
 asI .i64 (vs1.getD 1 undef) fun t7 =>
 bif (decide ((t7 : Int) < (t1.size : Nat))) then (
 ixS t1 t7 fun t29 =>
 bif (decide ((t29 : Int) < 48)) then (
 rf18_seqOf_j2 t1 t6 t7 true K R1) else
 ixS t1 t7 fun t34 =>
 bif (decide ((57 : Int) < t34)) then (
 rf18_seqOf_j2 t1 t6 t7 true K R1) else
 rf18_seqOf_j2 t1 t6 t7 (!decide (((t1.size : Nat) : Int) = 13)) K R1) else
 K t6) [.int .i64 0, .int .i64 5]
def rf18_seqOf (p0 : Int) (p1 : ByteArray) (K : Int → HP) : HP :=
 rf18_digits p0 3 fun t9 =>
 cat (⟨#[99]⟩ : ByteArray) t9 fun t10 =>
 cat t10 (⟨#[45]⟩ : ByteArray) fun t11 =>
 bif (decide (((p1.size : Nat) : Int) < 5)) then (
 rf18_seqOf_j1 p1 true K) else
 slS p1 0 5 fun t17 =>
 rf18_seqOf_j1 p1 (!decide (t17 = t11)) K
def rf18_seqOf_run (xs : List Value) (K : Value → HP) : HP :=
 arity xs 2 <|
 asI .i64 (xs.getD 0 undef) fun p0 =>
 asS (xs.getD 1 undef) fun p1 =>
 rf18_seqOf p0 p1 (fun r0 => K (.int .i64 r0))
def rf01_Get_j1 (t0 : Sl) (t1 : Int) (t2 : Int) (t33 : Bool) (K : Int → Bool → HP) : HP :=
 bif t33 then (
 K 0 false) else
 loop (σ := List Value) (fun R1 vs1 =>
 asI .u64 (vs1.getD 0 undef) fun t8 =>
 asI .i64 (vs1.getD 1 undef) fun t9 =>
 bif (decide ((t9 : Int) < t2)) then (
 ixL t0 1 (w64 (t1 + t9)) fun t45 =>
 ldI .u8 t45 fun t46 =>
 R1 [.int .u64 (wr .u64 ((wr .u64 (256 * t8)) + (wr .u64 t46))), .int .i64 (w64 (t9 + 1))]) else
 K t8 true) [.int .u64 0, .int .i64 0]
def rf01_Get (p0 : Sl) (p1 : Int) (p2 : Int) (K : Int → Bool → HP) : HP :=
 bif (decide ((p2 : Int) < 1)) then (
 rf01_Get_j1 p0 p1 p2 true K) else
 bif (decide ((8 : Int) < p2)) then (
 rf01_Get_j1 p0 p1 p2 true K) else
 bif (decide ((p1 : Int) < 0)) then (
 rf01_Get_j1 p0 p1 p2 true K) else
 bif (decide (((p0.len : Nat) : Int) < p1)) then (
 rf01_Get_j1 p0 p1 p2 true K) else
 rf01_Get_j1 p0 p1 p2 (decide ((w64 ((p0.len : Nat) - p1) : Int) < p2)) K
def rf01_Get_run (xs : List Value) (K : Value → HP) : HP :=
 arity xs 3 <|
 asL (xs.getD 0 undef) fun p0 =>
 asI .i64 (xs.getD 1 undef) fun p1 =>
 asI .i64 (xs.getD 2 undef) fun p2 =>
 rf01_Get p0 p1 p2 (fun r0 r1 => K (.tuple #[.int .u64 r0, .bool r1]))
def rf03_read (p0 : Sl) (p1 : Int) (K : G_rf03_Plain → HP) : HP :=
 newc #[.int .u8 0, .int .i64 0, .int .i64 0] fun t4 =>
 bif (decide (((p0.len : Nat) : Int) ≤ p1)) then (
 sts (at0 t4) 0 [.int .u8 0, .int .i64 0, .int .i64 2] (
 ld_G_rf03_Plain (at0 t4) fun r4 =>
 K r4)) else
 ixL p0 1 p1 fun t12 =>
 ldI .u8 t12 fun t13 =>
 bif (decide ((t13 : Int) = 80)) then (
 sts (at0 t4) 0 [.int .u8 0, .int .i64 0, .int .i64 3] (
 ld_G_rf03_Plain (at0 t4) fun r4_1 =>
 K r4_1)) else
 ixL p0 1 p1 fun t18 =>
 ldI .u8 t18 fun t19 =>
 bif (!decide ((t19 : Int) = 81)) then (
 ixL p0 1 p1 fun t23 =>
 ldI .u8 t23 fun t24 =>
 sts (at0 t4) 0 [.int .u8 t24, .int .i64 (w64 (p1 + 1)), .int .i64 0] (
 ld_G_rf03_Plain (at0 t4) fun r4_2 =>
 K r4_2)) else
 bif (decide (((p0.len : Nat) : Int) ≤ (w64 (p1 + 1)))) then (
 sts (at0 t4) 0 [.int .u8 0, .int .i64 0, .int .i64 2] (
 ld_G_rf03_Plain (at0 t4) fun r4_3 =>
 K r4_3)) else
 ixL p0 1 (w64 (p1 + 1)) fun t37 =>
 ldI .u8 t37 fun t38 =>
 bif (decide ((t38 : Int) = 0)) then (
 sts (at0 t4) 0 [.int .u8 80, .int .i64 (w64 (p1 + 2)), .int .i64 0] (
 ld_G_rf03_Plain (at0 t4) fun r4_4 =>
 K r4_4)) else
 ixL p0 1 (w64 (p1 + 1)) fun t46 =>
 ldI .u8 t46 fun t47 =>
 bif (decide ((t47 : Int) = 1)) then (
 sts (at0 t4) 0 [.int .u8 81, .int .i64 (w64 (p1 + 2)), .int .i64 0] (
 ld_G_rf03_Plain (at0 t4) fun r4_5 =>
 K r4_5)) else
 sts (at0 t4) 0 [.int .u8 0, .int .i64 0, .int .i64 3] (
 ld_G_rf03_Plain (at0 t4) fun r4_6 =>
 K r4_6)
def rf03_read_run (xs : List Value) (K : Value → HP) : HP :=
 arity xs 2 <|
 asL (xs.getD 0 undef) fun p0 =>
 asI .i64 (xs.getD 1 undef) fun p1 =>
 rf03_read p0 p1 (fun r0 => K (r0.v))
def rf01_fits (p0 : Int) (p1 : Int) (K : Bool → HP) : HP :=
 loop (σ := List Value) (fun R1 vs1 =>
 asI .u64 (vs1.getD 0 undef) fun t0 =>
 asI .i64 (vs1.getD 1 undef) fun t5 =>
 bif (decide ((t5 : Int) < p1)) then (
 nz 256 (
 R1 [.int .u64 (wr .u64 (Int.tdiv t0 256)), .int .i64 (w64 (t5 + 1))])) else
 K (decide ((t0 : Int) = 0))) [.int .u64 p0, .int .i64 0]
def rf01_fits_run (xs : List Value) (K : Value → HP) : HP :=
 arity xs 2 <|
 asI .u64 (xs.getD 0 undef) fun p0 =>
 asI .i64 (xs.getD 1 undef) fun p1 =>
 rf01_fits p0 p1 (fun r0 => K (.bool r0))
def rf01_Put_j1 (t0 : Int) (t1 : Int) (t19 : Bool) (K : Sl → Bool → HP) : HP :=
 bif t19 then (
 K (⟨none, 0, 0⟩ : Sl) false) else
 loop (σ := List Value) (fun R1 vs1 =>
 asI .u64 (vs1.getD 0 undef) fun t0 =>
 asL (vs1.getD 1 undef) fun t6 =>
 asI .i64 (vs1.getD 2 undef) fun t7 =>
 bif (decide ((t7 : Int) < t1)) then (
 nz 256 (
 newc #[.int .u8 (wr .u8 (Int.tmod t0 256))] fun t28 =>
 app 1 1 #[.int .u8 0] (⟨some (at0 t28), 1, 1⟩ : Sl) t6 fun t30 =>
 nz 256 (
 R1 [.int .u64 (wr .u64 (Int.tdiv t0 256)), .slice t30.a t30.len t30.cap, .int .i64 (w64 (t7 + 1))]))) else
 K t6 true) [.int .u64 t0, .slice none 0 0, .int .i64 0]
def rf01_Put (p0 : Int) (p1 : Int) (K : Sl → Bool → HP) : HP :=
 bif (decide ((p1 : Int) < 1)) then (
 rf01_Put_j1 p0 p1 true K) else
 bif (decide ((8 : Int) < p1)) then (
 rf01_Put_j1 p0 p1 true K) else
 rf01_fits p0 p1 fun t17 =>
 rf01_Put_j1 p0 p1 (!t17) K
def rf01_Put_run (xs : List Value) (K : Value → HP) : HP :=
 arity xs 2 <|
 asI .u64 (xs.getD 0 undef) fun p0 =>
 asI .i64 (xs.getD 1 undef) fun p1 =>
 rf01_Put p0 p1 (fun r0 r1 => K (.tuple #[.slice r0.a r0.len r0.cap, .bool r1]))
def rf03_number (p0 : Int) (p1 : Int) (K : ByteArray → HP) : HP :=
 rf01_Put p0 p1 fun t10a t10b =>
 ldBy t10a fun t14 =>
 K t14
def rf03_number_run (xs : List Value) (K : Value → HP) : HP :=
 arity xs 2 <|
 asI .u64 (xs.getD 0 undef) fun p0 =>
 asI .i64 (xs.getD 1 undef) fun p1 =>
 rf03_number p0 p1 (fun r0 => K (.string r0))
def rf02_step (p0 : Int) (K : Int → HP) : HP :=
 nz 2 (
 bif (decide ((Int.tmod p0 2 : Int) = 1)) then (
 nz 2 (
 K (ixor .u32 (wr .u32 (Int.tdiv p0 2)) 3988292384))) else
 nz 2 (
 K (wr .u32 (Int.tdiv p0 2))))
def rf02_step_run (xs : List Value) (K : Value → HP) : HP :=
 arity xs 1 <|
 asI .u32 (xs.getD 0 undef) fun p0 =>
 rf02_step p0 (fun r0 => K (.int .u32 r0))
def rf02_More (p0 : Int) (p1 : Sl) (K : Int → HP) : HP :=
 loop (σ := List Value) (fun R1 vs1 =>
 asI .u32 (vs1.getD 0 undef) fun t5 =>
 asI .i64 (vs1.getD 1 undef) fun t6 =>
 bif (decide ((t6 : Int) < (p1.len : Nat))) then (
 ixL p1 1 t6 fun t19 =>
 ldI .u8 t19 fun t20 =>
 loop (σ := List Value) (fun R2 vs2 =>
 asI .u32 (vs2.getD 0 undef) fun t5_1 =>
 asI .i64 (vs2.getD 1 undef) fun t7 =>
 bif (decide ((t7 : Int) < 8)) then (
 rf02_step t5_1 fun t28 =>
 R2 [.int .u32 t28, .int .i64 (w64 (t7 + 1))]) else
 R1 [.int .u32 t5_1, .int .i64 (w64 (t6 + 1))]) [.int .u32 (ixor .u32 t5 (wr .u32 t20)), .int .i64 0]) else
 K (wr .u32 (4294967295 - t5))) [.int .u32 (wr .u32 (4294967295 - p0)), .int .i64 0]
def rf02_More_run (xs : List Value) (K : Value → HP) : HP :=
 arity xs 2 <|
 asI .u32 (xs.getD 0 undef) fun p0 =>
 asL (xs.getD 1 undef) fun p1 =>
 rf02_More p0 p1 (fun r0 => K (.int .u32 r0))
def rf02_Of (p0 : Sl) (K : Int → HP) : HP :=
 rf02_More 0 p0 fun t4 =>
 K t4
def rf02_Of_run (xs : List Value) (K : Value → HP) : HP :=
 arity xs 1 <|
 asL (xs.getD 0 undef) fun p0 =>
 rf02_Of p0 (fun r0 => K (.int .u32 r0))
def rf03_Veil_j1 (t0 : Sl) (t3 : Sl) (t4 : Int) (K : Sl → HP) (R1 : List Value → HP) : HP :=
 R1 [.slice t3.a t3.len t3.cap, .int .i64 (w64 (t4 + 1))]
def rf03_Veil (p0 : Sl) (K : Sl → HP) : HP :=
 loop (σ := List Value) (fun R1 vs1 =>
 asL (vs1.getD 0 undef) fun t3 =>
 asI .i64 (vs1.getD 1 undef) fun t4 =>
 bif (decide ((t4 : Int) < (p0.len : Nat))) then (
 ixL p0 1 t4 fun t13 =>
 ldI .u8 t13 fun t14 =>
 bif (decide ((t14 : Int) = 80)) then (
 newc #[.int .u8 81, .int .u8 0] fun t17 =>
 app 1 1 #[.int .u8 0] t3 (⟨some (at0 t17), 2, 2⟩ : Sl) fun t18 =>
 rf03_Veil_j1 p0 t18 t4 K R1) else
 ixL p0 1 t4 fun t21 =>
 ldI .u8 t21 fun t22 =>
 bif (decide ((t22 : Int) = 81)) then (
 newc #[.int .u8 81, .int .u8 1] fun t25 =>
 app 1 1 #[.int .u8 0] t3 (⟨some (at0 t25), 2, 2⟩ : Sl) fun t26 =>
 rf03_Veil_j1 p0 t26 t4 K R1) else
 ixL p0 1 t4 fun t30 =>
 ldI .u8 t30 fun t31 =>
 newc #[.int .u8 t31] fun t32 =>
 app 1 1 #[.int .u8 0] t3 (⟨some (at0 t32), 1, 1⟩ : Sl) fun t33 =>
 rf03_Veil_j1 p0 t33 t4 K R1) else
 K t3) [.slice none 0 0, .int .i64 0]
def rf03_Veil_run (xs : List Value) (K : Value → HP) : HP :=
 arity xs 1 <|
 asL (xs.getD 0 undef) fun p0 =>
 rf03_Veil p0 (fun r0 => K (.slice r0.a r0.len r0.cap))
def rf03_Wrap_j1 (t0 : Int) (t1 : Sl) (t13 : Bool) (K : Sl → Int → HP) : HP :=
 bif t13 then (
 K (⟨none, 0, 0⟩ : Sl) 1) else
 bif (decide ((65536 : Int) < (t1.len : Nat))) then (
 K (⟨none, 0, 0⟩ : Sl) 4) else
 rf03_number (wr .u64 t0) 1 fun t19 =>
 rf03_number (wr .u64 (t1.len : Nat)) 4 fun t23 =>
 cat t19 t23 fun t24 =>
 ldBy t1 fun t27 =>
 cat t24 t27 fun t28 =>
 s2b t28 fun t29 =>
 rf02_Of t29 fun t30 =>
 ldBy t1 fun t38 =>
 both (
 newc #[.int .u8 80] fun t31 =>
 held (ldBy t1 fun t38_2 =>
 fun _ => (Value.string t38_2) = (Value.string t38)) (
 rf03_number (wr .u64 t30) 4 fun t35 =>
 held (ldBy t1 fun t38_1 =>
 fun _ => (Value.string t38_1) = (Value.string t38)) (
 cat t24 t35 fun t36 =>
 cat t36 t38 fun t39 =>
 s2b t39 fun t40 =>
 rf03_Veil t40 fun t41 =>
 app 1 1 #[.int .u8 0] (⟨some (at0 t31), 1, 1⟩ : Sl) t41 fun t42 =>
 K t42 0))) (
 rf03_number (wr .u64 t30) 4 fun t35_1 =>
 held (ldBy t1 fun t38_6 =>
 fun _ => (Value.string t38_6) = (Value.string t38)) (
 cat t24 t35_1 fun t36_1 =>
 cat t36_1 t38 fun t39_1 =>
 both (
 newc #[.int .u8 80] fun t31_1 =>
 held (ldBy t1 fun t38_3 =>
 fun _ => (Value.string t38_3) = (Value.string t38)) (
 s2b t39_1 fun t40_1 =>
 rf03_Veil t40_1 fun t41_1 =>
 app 1 1 #[.int .u8 0] (⟨some (at0 t31_1), 1, 1⟩ : Sl) t41_1 fun t42_1 =>
 K t42_1 0)) (
 s2b t39_1 fun t40_2 =>
 both (
 newc #[.int .u8 80] fun t31_2 =>
 held (ldBy t1 fun t38_4 =>
 fun _ => (Value.string t38_4) = (Value.string t38)) (
 rf03_Veil t40_2 fun t41_2 =>
 app 1 1 #[.int .u8 0] (⟨some (at0 t31_2), 1, 1⟩ : Sl) t41_2 fun t42_2 =>
 K t42_2 0)) (
 rf03_Veil t40_2 fun t41_3 =>
 newc #[.int .u8 80] fun t31_3 =>
 held (ldBy t1 fun t38_5 =>
 fun _ => (Value.string t38_5) = (Value.string t38)) (
 app 1 1 #[.int .u8 0] (⟨some (at0 t31_3), 1, 1⟩ : Sl) t41_3 fun t42_3 =>
 K t42_3 0)))))
def rf03_Wrap (p0 : Int) (p1 : Sl) (K : Sl → Int → HP) : HP :=
 bif (decide ((p0 : Int) < 0)) then (
 rf03_Wrap_j1 p0 p1 true K) else
 rf03_Wrap_j1 p0 p1 (decide ((255 : Int) < p0)) K
def rf03_Wrap_run (xs : List Value) (K : Value → HP) : HP :=
 arity xs 2 <|
 asI .i64 (xs.getD 0 undef) fun p0 =>
 asL (xs.getD 1 undef) fun p1 =>
 rf03_Wrap p0 p1 (fun r0 r1 => K (.tuple #[.slice r0.a r0.len r0.cap, .int .i64 r1]))
def rf03_At_j2 (t0 : Sl) (t1 : Int) (t4 : Nat) (t6 : Int) (t7 : Sl) (t8 : Int) (K : G_api_Frame → Int → HP) (R1 : List Value → HP) : HP :=
 rf03_read t0 t6 fun t56 =>
 newc #[.int .u8 0, .int .i64 0, .int .i64 0] fun t11 =>
 sts (at0 t11) 0 [.int .u8 t56.C, .int .i64 t56.Next, .int .i64 t56.E] (
 ldI .i64 ((at0 t11).add 2) fun t58 =>
 bif (!decide ((t58 : Int) = 0)) then (
 ldI .i64 ((at0 t11).add 2) fun t62 =>
 sts (at0 t4) 0 [.int .i64 0, .int .i64 0, .int .i64 0, .slice none 0 0] (
 held (ldI .i64 ((at0 t11).add 2) fun t62_1 =>
 fun _ => (Value.int .i64 t62_1) = (Value.int .i64 t62)) (
 ld_G_api_Frame (at0 t4) fun r4 =>
 K r4 t62))) else
 ldI .u8 ((at0 t11).add 0) fun t65 =>
 newc #[.int .u8 t65] fun t66 =>
 app 1 1 #[.int .u8 0] t7 (⟨some (at0 t66), 1, 1⟩ : Sl) fun t67 =>
 ldI .i64 ((at0 t11).add 1) fun t69 =>
 R1 [.int .i64 t69, .slice t67.a t67.len t67.cap, .int .i64 t8])
def rf03_At_j1 (t0 : Sl) (t1 : Int) (t4 : Nat) (t21 : Bool) (K : G_api_Frame → Int → HP) : HP :=
 bif t21 then (
 sts (at0 t4) 0 [.int .i64 0, .int .i64 0, .int .i64 0, .slice none 0 0] (
 ld_G_api_Frame (at0 t4) fun r4 =>
 K r4 1)) else
 bif (decide ((t1 : Int) = (t0.len : Nat))) then (
 sts (at0 t4) 0 [.int .i64 0, .int .i64 0, .int .i64 0, .slice none 0 0] (
 ld_G_api_Frame (at0 t4) fun r4 =>
 K r4 2)) else
 ixL t0 1 t1 fun t30 =>
 ldI .u8 t30 fun t31 =>
 bif (!decide ((t31 : Int) = 80)) then (
 sts (at0 t4) 0 [.int .i64 0, .int .i64 0, .int .i64 0, .slice none 0 0] (
 ld_G_api_Frame (at0 t4) fun r4_1 =>
 K r4_1 3)) else
 loop (σ := List Value) (fun R1 vs1 =>
 asI .i64 (vs1.getD 0 undef) fun t6 =>
 asL (vs1.getD 1 undef) fun t7 =>
 asI .i64 (vs1.getD 2 undef) fun t8 =>
 bif (decide (((t7.len : Nat) : Int) < t8)) then (
 bif (decide (((t7.len : Nat) : Int) = 5)) then (
 rf01_Get t7 1 4 fun t45a t45b =>
 bif (decide ((65536 : Int) < t45a)) then (
 sts (at0 t4) 0 [.int .i64 0, .int .i64 0, .int .i64 0, .slice none 0 0] (
 ld_G_api_Frame (at0 t4) fun r4_2 =>
 K r4_2 4)) else
 rf03_At_j2 t0 t1 t4 t6 t7 (w64 (9 + (w64 t45a))) K R1) else
 rf03_At_j2 t0 t1 t4 t6 t7 t8 K R1) else
 ixL t7 1 0 fun t72 =>
 ldI .u8 t72 fun t73 =>
 slL t7 1 9 (t7.len : Nat) (t7.cap : Nat) fun t76 =>
 rf03_Wrap (w64 t73) t76 fun t77a t77b =>
 ldBy t77a fun t81 =>
 slL t0 1 t1 t6 (t0.cap : Nat) fun t85 =>
 ldBy t85 fun t86 =>
 bif (!decide (t81 = t86)) then (
 sts (at0 t4) 0 [.int .i64 0, .int .i64 0, .int .i64 0, .slice none 0 0] (
 ld_G_api_Frame (at0 t4) fun r4_3 =>
 K r4_3 5)) else
 ixL t7 1 0 fun t94 =>
 ldI .u8 t94 fun t95 =>
 slL t7 1 9 (t7.len : Nat) (t7.cap : Nat) fun t98 =>
 sts (at0 t4) 0 [.int .i64 t1, .int .i64 (w64 (t6 - t1)), .int .i64 (w64 t95), .slice t98.a t98.len t98.cap] (
 ld_G_api_Frame (at0 t4) fun r4_4 =>
 K r4_4 0)) [.int .i64 (w64 (t1 + 1)), .slice none 0 0, .int .i64 9]
def rf03_At (p0 : Sl) (p1 : Int) (K : G_api_Frame → Int → HP) : HP :=
 newc #[.int .i64 0, .int .i64 0, .int .i64 0, .slice none 0 0] fun t4 =>
 bif (decide ((p1 : Int) < 0)) then (
 rf03_At_j1 p0 p1 t4 true K) else
 rf03_At_j1 p0 p1 t4 (decide (((p0.len : Nat) : Int) < p1)) K
def rf03_At_run (xs : List Value) (K : Value → HP) : HP :=
 arity xs 2 <|
 asL (xs.getD 0 undef) fun p0 =>
 asI .i64 (xs.getD 1 undef) fun p1 =>
 rf03_At p0 p1 (fun r0 r1 => K (.tuple #[r0.v, .int .i64 r1]))
def rf03_Scan_j2 (t0 : Sl) (t2 : Nat) (t3 : Nat) (t4 : Int) (K : G_rf03_Found → HP) (R1 : List Value → HP) : HP :=
 R1 [.int .i64 (w64 (t4 + 1))]
def rf03_Scan_j1 (t0 : Sl) (t2 : Nat) (t3 : Nat) (t4 : Int) (t7 : Int) (t47 : Bool) (K : G_rf03_Found → HP) (R1 : List Value → HP) : HP :=
 bif t47 then (
 ldL ((at0 t3).add 1) fun t49 =>
 ixL t49 2 (w64 (t7 - 1)) fun t52 =>
 ldI .i64 (t52.add 0) fun t54 =>
 newc #[.int .i64 0, .int .i64 0] fun t8 =>
 sts (at0 t8) 0 [.int .i64 t54, .int .i64 (w64 (t4 + 1))] (
 ldL ((at0 t3).add 1) fun t60 =>
 slL t60 2 0 (w64 (t7 - 1)) (t60.cap : Nat) fun t63 =>
 ld_G_api_Gap (at0 t8) fun t65 =>
 both (
 newc #[] fun t58 =>
 held (ldL ((at0 t3).add 1) fun t60_3 =>
 fun _ => (Value.slice t60_3.a t60_3.len t60_3.cap) = (Value.slice t60.a t60.len t60.cap)) (
 held (ld_G_api_Gap (at0 t8) fun t65_3 =>
 fun _ => (Value.agg #[.int .i64 t65_3.From, .int .i64 t65_3.To]) = (Value.agg #[.int .i64 t65.From, .int .i64 t65.To])) (
 both (
 app 2 16 #[.int .i64 0, .int .i64 0] (⟨some (at0 t58), 0, 0⟩ : Sl) t63 fun t64 =>
 held (ld_G_api_Gap (at0 t8) fun t65_1 =>
 fun _ => (Value.agg #[.int .i64 t65_1.From, .int .i64 t65_1.To]) = (Value.agg #[.int .i64 t65.From, .int .i64 t65.To])) (
 newc #[.int .i64 t65.From, .int .i64 t65.To] fun t66 =>
 held (ldL ((at0 t3).add 1) fun t60_1 =>
 fun _ => (Value.slice t60_1.a t60_1.len t60_1.cap) = (Value.slice t60.a t60.len t60.cap)) (
 app 2 16 #[.int .i64 0, .int .i64 0] t64 (⟨some (at0 t66), 1, 1⟩ : Sl) fun t67 =>
 sts ((at0 t3).add 1) 0 [.slice t67.a t67.len t67.cap] (
 rf03_Scan_j2 t0 t2 t3 t4 K R1)))) (
 newc #[.int .i64 t65.From, .int .i64 t65.To] fun t66_1 =>
 held (ldL ((at0 t3).add 1) fun t60_2 =>
 fun _ => (Value.slice t60_2.a t60_2.len t60_2.cap) = (Value.slice t60.a t60.len t60.cap)) (
 app 2 16 #[.int .i64 0, .int .i64 0] (⟨some (at0 t58), 0, 0⟩ : Sl) t63 fun t64_1 =>
 held (ld_G_api_Gap (at0 t8) fun t65_2 =>
 fun _ => (Value.agg #[.int .i64 t65_2.From, .int .i64 t65_2.To]) = (Value.agg #[.int .i64 t65.From, .int .i64 t65.To])) (
 app 2 16 #[.int .i64 0, .int .i64 0] t64_1 (⟨some (at0 t66_1), 1, 1⟩ : Sl) fun t67_1 =>
 sts ((at0 t3).add 1) 0 [.slice t67_1.a t67_1.len t67_1.cap] (
 rf03_Scan_j2 t0 t2 t3 t4 K R1))))))) (
 newc #[.int .i64 t65.From, .int .i64 t65.To] fun t66_2 =>
 held (ldL ((at0 t3).add 1) fun t60_5 =>
 fun _ => (Value.slice t60_5.a t60_5.len t60_5.cap) = (Value.slice t60.a t60.len t60.cap)) (
 newc #[] fun t58_1 =>
 held (ldL ((at0 t3).add 1) fun t60_4 =>
 fun _ => (Value.slice t60_4.a t60_4.len t60_4.cap) = (Value.slice t60.a t60.len t60.cap)) (
 held (ld_G_api_Gap (at0 t8) fun t65_5 =>
 fun _ => (Value.agg #[.int .i64 t65_5.From, .int .i64 t65_5.To]) = (Value.agg #[.int .i64 t65.From, .int .i64 t65.To])) (
 app 2 16 #[.int .i64 0, .int .i64 0] (⟨some (at0 t58_1), 0, 0⟩ : Sl) t63 fun t64_2 =>
 held (ld_G_api_Gap (at0 t8) fun t65_4 =>
 fun _ => (Value.agg #[.int .i64 t65_4.From, .int .i64 t65_4.To]) = (Value.agg #[.int .i64 t65.From, .int .i64 t65.To])) (
 app 2 16 #[.int .i64 0, .int .i64 0] t64_2 (⟨some (at0 t66_2), 1, 1⟩ : Sl) fun t67_2 =>
 sts ((at0 t3).add 1) 0 [.slice t67_2.a t67_2.len t67_2.cap] (
 rf03_Scan_j2 t0 t2 t3 t4 K R1)))))))) else
 ldL ((at0 t3).add 1) fun t70 =>
 newc #[.int .i64 t4, .int .i64 (w64 (t4 + 1))] fun t75 =>
 app 2 16 #[.int .i64 0, .int .i64 0] t70 (⟨some (at0 t75), 1, 1⟩ : Sl) fun t76 =>
 sts ((at0 t3).add 1) 0 [.slice t76.a t76.len t76.cap] (
 rf03_Scan_j2 t0 t2 t3 t4 K R1)
def rf03_Scan (p0 : Sl) (K : G_rf03_Found → HP) : HP :=
 newc #[.slice none 0 0, .slice none 0 0] fun t2 =>
 newc #[.slice none 0 0, .slice none 0 0] fun t3 =>
 sts (at0 t3) 0 [.slice none 0 0, .slice none 0 0] (
 loop (σ := List Value) (fun R1 vs1 =>
 asI .i64 (vs1.getD 0 undef) fun t4 =>
 bif (decide ((t4 : Int) < (p0.len : Nat))) then (
 rf03_At p0 t4 fun t17a t17b =>
 newc #[.int .i64 0, .int .i64 0, .int .i64 0, .slice none 0 0] fun t5 =>
 sts (at0 t5) 0 [.int .i64 t17a.At, .int .i64 t17a.Len, .int .i64 t17a.Kind, .slice t17a.Payload.a t17a.Payload.len t17a.Payload.cap] (
 bif (decide ((t17b : Int) = 0)) then (
 ldL ((at0 t3).add 0) fun t23 =>
 ld_G_api_Frame (at0 t5) fun t24 =>
 newc #[.int .i64 t24.At, .int .i64 t24.Len, .int .i64 t24.Kind, .slice t24.Payload.a t24.Payload.len t24.Payload.cap] fun t25 =>
 app 4 48 #[.int .i64 0, .int .i64 0, .int .i64 0, .slice none 0 0] t23 (⟨some (at0 t25), 1, 1⟩ : Sl) fun t26 =>
 sts ((at0 t3).add 0) 0 [.slice t26.a t26.len t26.cap] (
 ldI .i64 ((at0 t5).add 1) fun t30 =>
 R1 [.int .i64 (w64 (t4 + t30))])) else
 ldL ((at0 t3).add 1) fun t33 =>
 bif (decide ((0 : Int) < (t33.len : Nat))) then (
 ldL ((at0 t3).add 1) fun t39 =>
 ixL t39 2 (w64 ((t33.len : Nat) - 1)) fun t42 =>
 ldI .i64 (t42.add 1) fun t44 =>
 rf03_Scan_j1 p0 t2 t3 t4 (t33.len : Nat) (decide ((t44 : Int) = t4)) K R1) else
 rf03_Scan_j1 p0 t2 t3 t4 (t33.len : Nat) false K R1)) else
 ld_G_rf03_Found (at0 t3) fun t80 =>
 sts (at0 t2) 0 [.slice t80.L.a t80.L.len t80.L.cap, .slice t80.Gaps.a t80.Gaps.len t80.Gaps.cap] (
 ld_G_rf03_Found (at0 t2) fun r2 =>
 K r2)) [.int .i64 0])
def rf03_Scan_run (xs : List Value) (K : Value → HP) : HP :=
 arity xs 1 <|
 asL (xs.getD 0 undef) fun p0 =>
 rf03_Scan p0 (fun r0 => K (r0.v))
def rf14_get (p0 : Sl) (p1 : Int) (p2 : Int) (K : Int → HP) : HP :=
 rf01_Get p0 p1 p2 fun t13a t13b =>
 bif (decide ((9223372036854775807 : Int) < t13a)) then (
 K 9223372036854775807) else
 K (w64 t13a)
def rf14_get_run (xs : List Value) (K : Value → HP) : HP :=
 arity xs 3 <|
 asL (xs.getD 0 undef) fun p0 =>
 asI .i64 (xs.getD 1 undef) fun p1 =>
 asI .i64 (xs.getD 2 undef) fun p2 =>
 rf14_get p0 p1 p2 (fun r0 => K (.int .i64 r0))
def rf14_in (p0 : Int) (p1 : Int) (p2 : Int) (K : Bool → HP) : HP :=
 bif (decide ((p1 : Int) ≤ p0)) then (
 K (decide ((p0 : Int) ≤ p2))) else
 K false
def rf14_in_run (xs : List Value) (K : Value → HP) : HP :=
 arity xs 3 <|
 asI .i64 (xs.getD 0 undef) fun p0 =>
 asI .i64 (xs.getD 1 undef) fun p1 =>
 asI .i64 (xs.getD 2 undef) fun p2 =>
 rf14_in p0 p1 p2 (fun r0 => K (.bool r0))
def rf14_within (p0 : G_api_Rec) (K : Bool → HP) : HP :=
 newc #[.int .i64 p0.Kind, .int .i64 p0.User, .int .i64 p0.Seq, .int .i64 p0.Next, .int .i64 p0.Base, .int .i64 p0.Uid, .int .i64 p0.Time, .int .i64 p0.Flags, .int .i64 p0.Body, .int .i64 p0.Size, .int .i64 p0.Origin, .slice p0.Data.a p0.Data.len p0.Data.cap] fun t1 =>
 ldI .i64 ((at0 t1).add 0) fun t4 =>
 bif (decide ((t4 : Int) = 1)) then (
 ldI .i64 ((at0 t1).add 1) fun t8 =>
 rf14_in t8 1 999 fun t9 =>
 bif t9 then (
 ldI .i64 ((at0 t1).add 2) fun t12 =>
 rf14_in t12 1 2147483648 fun t13 =>
 bif t13 then (
 ldI .i64 ((at0 t1).add 3) fun t17 =>
 rf14_in t17 1 2147483649 fun t18 =>
 bif t18 then (
 ldI .i64 ((at0 t1).add 4) fun t22 =>
 rf14_in t22 0 2147483648 fun t23 =>
 K t23) else
 K false) else
 K false) else
 K false) else
 bif (decide ((t4 : Int) = 2)) then (
 ldI .i64 ((at0 t1).add 5) fun t28 =>
 rf14_in t28 1 2147483648 fun t29 =>
 bif t29 then (
 ldI .i64 ((at0 t1).add 6) fun t32 =>
 rf14_in t32 0 4503599627370496 fun t33 =>
 bif t33 then (
 ldI .i64 ((at0 t1).add 7) fun t37 =>
 rf14_in t37 0 31 fun t38 =>
 bif t38 then (
 ldI .i64 ((at0 t1).add 8) fun t42 =>
 rf14_in t42 1 2147483648 fun t43 =>
 bif t43 then (
 ldI .i64 ((at0 t1).add 9) fun t47 =>
 rf14_in t47 0 32768 fun t48 =>
 bif t48 then (
 ldI .i64 ((at0 t1).add 10) fun t52 =>
 rf14_in t52 0 9007199254740992 fun t53 =>
 K t53) else
 K false) else
 K false) else
 K false) else
 K false) else
 K false) else
 bif (decide ((t4 : Int) = 3)) then (
 ldI .i64 ((at0 t1).add 5) fun t58 =>
 rf14_in t58 1 2147483648 fun t59 =>
 K t59) else
 bif (decide ((t4 : Int) = 4)) then (
 ldI .i64 ((at0 t1).add 5) fun t63 =>
 rf14_in t63 1 2147483648 fun t64 =>
 bif t64 then (
 ldI .i64 ((at0 t1).add 7) fun t67 =>
 rf14_in t67 0 31 fun t68 =>
 K t68) else
 K false) else
 bif (decide ((t4 : Int) = 5)) then (
 ldI .i64 ((at0 t1).add 3) fun t73 =>
 rf14_in t73 1 2147483649 fun t74 =>
 K t74) else
 ldI .i64 ((at0 t1).add 8) fun t76 =>
 rf14_in t76 1 2147483648 fun t77 =>
 K t77
def rf14_within_run (xs : List Value) (K : Value → HP) : HP :=
 arity xs 1 <|
 as_G_api_Rec (xs.getD 0 undef) fun p0 =>
 rf14_within p0 (fun r0 => K (.bool r0))
def rf14_Read_j3 (t4 : Nat) (t8 : Nat) (K : G_api_Rec → Int → HP) : HP :=
 ld_G_api_Rec (at0 t8) fun t104 =>
 rf14_within t104 fun t105 =>
 bif (!t105) then (
 sts (at0 t4) 0 [.int .i64 0, .int .i64 0, .int .i64 0, .int .i64 0, .int .i64 0, .int .i64 0, .int .i64 0, .int .i64 0, .int .i64 0, .int .i64 0, .int .i64 0, .slice none 0 0] (
 ld_G_api_Rec (at0 t4) fun r4 =>
 K r4 1)) else
 ld_G_api_Rec (at0 t8) fun t108 =>
 sts (at0 t4) 0 [.int .i64 t108.Kind, .int .i64 t108.User, .int .i64 t108.Seq, .int .i64 t108.Next, .int .i64 t108.Base, .int .i64 t108.Uid, .int .i64 t108.Time, .int .i64 t108.Flags, .int .i64 t108.Body, .int .i64 t108.Size, .int .i64 t108.Origin, .slice t108.Data.a t108.Data.len t108.Data.cap] (
 ld_G_api_Rec (at0 t4) fun r4_1 =>
 K r4_1 0)
def rf14_Read_j2 (t0 : Int) (t1 : Sl) (t4 : Nat) (t7 : Int) (t33 : Bool) (K : G_api_Rec → Int → HP) : HP :=
 bif t33 then (
 sts (at0 t4) 0 [.int .i64 0, .int .i64 0, .int .i64 0, .int .i64 0, .int .i64 0, .int .i64 0, .int .i64 0, .int .i64 0, .int .i64 0, .int .i64 0, .int .i64 0, .slice none 0 0] (
 ld_G_api_Rec (at0 t4) fun r4 =>
 K r4 3)) else
 bif (decide ((w64 (t7 + 32768) : Int) < (t1.len : Nat))) then (
 sts (at0 t4) 0 [.int .i64 0, .int .i64 0, .int .i64 0, .int .i64 0, .int .i64 0, .int .i64 0, .int .i64 0, .int .i64 0, .int .i64 0, .int .i64 0, .int .i64 0, .slice none 0 0] (
 ld_G_api_Rec (at0 t4) fun r4_1 =>
 K r4_1 4)) else
 newc #[.int .i64 0, .int .i64 0, .int .i64 0, .int .i64 0, .int .i64 0, .int .i64 0, .int .i64 0, .int .i64 0, .int .i64 0, .int .i64 0, .int .i64 0, .slice none 0 0] fun t8 =>
 sts (at0 t8) 0 [.int .i64 t0, .int .i64 0, .int .i64 0, .int .i64 0, .int .i64 0, .int .i64 0, .int .i64 0, .int .i64 0, .int .i64 0, .int .i64 0, .int .i64 0, .slice none 0 0] (
 bif (decide ((t0 : Int) = 1)) then (
 rf14_get t1 0 2 fun t47 =>
 sts ((at0 t8).add 1) 0 [.int .i64 t47] (
 rf14_get t1 2 4 fun t50 =>
 sts ((at0 t8).add 2) 0 [.int .i64 t50] (
 rf14_get t1 6 4 fun t53 =>
 sts ((at0 t8).add 3) 0 [.int .i64 t53] (
 rf14_get t1 10 4 fun t56 =>
 sts ((at0 t8).add 4) 0 [.int .i64 t56] (
 rf14_Read_j3 t4 t8 K))))) else
 bif (decide ((t0 : Int) = 2)) then (
 rf14_get t1 0 4 fun t61 =>
 sts ((at0 t8).add 5) 0 [.int .i64 t61] (
 rf14_get t1 4 8 fun t64 =>
 sts ((at0 t8).add 6) 0 [.int .i64 t64] (
 rf14_get t1 12 1 fun t67 =>
 sts ((at0 t8).add 7) 0 [.int .i64 t67] (
 rf14_get t1 13 4 fun t70 =>
 sts ((at0 t8).add 8) 0 [.int .i64 t70] (
 rf14_get t1 17 4 fun t73 =>
 sts ((at0 t8).add 9) 0 [.int .i64 t73] (
 rf14_get t1 21 8 fun t76 =>
 sts ((at0 t8).add 10) 0 [.int .i64 t76] (
 rf14_Read_j3 t4 t8 K))))))) else
 bif (decide ((t0 : Int) = 3)) then (
 rf14_get t1 0 4 fun t81 =>
 sts ((at0 t8).add 5) 0 [.int .i64 t81] (
 rf14_Read_j3 t4 t8 K)) else
 bif (decide ((t0 : Int) = 4)) then (
 rf14_get t1 0 4 fun t86 =>
 sts ((at0 t8).add 5) 0 [.int .i64 t86] (
 rf14_get t1 4 1 fun t89 =>
 sts ((at0 t8).add 7) 0 [.int .i64 t89] (
 rf14_Read_j3 t4 t8 K))) else
 bif (decide ((t0 : Int) = 5)) then (
 rf14_get t1 0 4 fun t94 =>
 sts ((at0 t8).add 3) 0 [.int .i64 t94] (
 rf14_Read_j3 t4 t8 K)) else
 bif (decide ((t0 : Int) = 6)) then (
 rf14_get t1 0 4 fun t99 =>
 sts ((at0 t8).add 8) 0 [.int .i64 t99] (
 slL t1 1 4 (t1.len : Nat) (t1.cap : Nat) fun t102 =>
 sts ((at0 t8).add 11) 0 [.slice t102.a t102.len t102.cap] (
 rf14_Read_j3 t4 t8 K))) else
 rf14_Read_j3 t4 t8 K)
def rf14_Read_j1 (t0 : Int) (t1 : Sl) (t4 : Nat) (t6 : Sl) (t15 : Bool) (K : G_api_Rec → Int → HP) : HP :=
 bif t15 then (
 sts (at0 t4) 0 [.int .i64 0, .int .i64 0, .int .i64 0, .int .i64 0, .int .i64 0, .int .i64 0, .int .i64 0, .int .i64 0, .int .i64 0, .int .i64 0, .int .i64 0, .slice none 0 0] (
 ld_G_api_Rec (at0 t4) fun r4 =>
 K r4 16)) else
 ixL t6 1 t0 fun t19 =>
 ldI .i64 t19 fun t20 =>
 bif (decide (((t1.len : Nat) : Int) < t20)) then (
 sts (at0 t4) 0 [.int .i64 0, .int .i64 0, .int .i64 0, .int .i64 0, .int .i64 0, .int .i64 0, .int .i64 0, .int .i64 0, .int .i64 0, .int .i64 0, .int .i64 0, .slice none 0 0] (
 ld_G_api_Rec (at0 t4) fun r4 =>
 K r4 2)) else
 bif (decide ((t20 : Int) < (t1.len : Nat))) then (
 rf14_Read_j2 t0 t1 t4 t20 (!decide ((t0 : Int) = 6)) K) else
 rf14_Read_j2 t0 t1 t4 t20 false K
def rf14_Read (p0 : Int) (p1 : Sl) (K : G_api_Rec → Int → HP) : HP :=
 newc #[.int .i64 0, .int .i64 0, .int .i64 0, .int .i64 0, .int .i64 0, .int .i64 0, .int .i64 0, .int .i64 0, .int .i64 0, .int .i64 0, .int .i64 0, .slice none 0 0] fun t4 =>
 newc #[.int .i64 0, .int .i64 14, .int .i64 29, .int .i64 4, .int .i64 5, .int .i64 4, .int .i64 4] fun t9 =>
 bif (decide ((p0 : Int) < 1)) then (
 rf14_Read_j1 p0 p1 t4 (⟨some (at0 t9), 7, 7⟩ : Sl) true K) else
 rf14_Read_j1 p0 p1 t4 (⟨some (at0 t9), 7, 7⟩ : Sl) (decide ((6 : Int) < p0)) K
def rf14_Read_run (xs : List Value) (K : Value → HP) : HP :=
 arity xs 2 <|
 asI .i64 (xs.getD 0 undef) fun p0 =>
 asL (xs.getD 1 undef) fun p1 =>
 rf14_Read p0 p1 (fun r0 r1 => K (.tuple #[r0.v, .int .i64 r1]))
def rf14_Scan_j2 (t2 : Nat) (t3 : Nat) (t4 : Sl) (t5 : Int) (K : G_rf14_Lot → HP) (R1 : List Value → HP) : HP :=
 R1 [.int .i64 (w64 (t5 + 1))]
def rf14_Scan_j1 (t2 : Nat) (t3 : Nat) (t4 : Sl) (t5 : Int) (t6 : Nat) (t7 : Int) (K : G_rf14_Lot → HP) (R1 : List Value → HP) : HP :=
 bif (decide ((t7 : Int) = 0)) then (
 ldL ((at0 t3).add 0) fun t37 =>
 ixL t4 4 t5 fun t40 =>
 ldI .i64 (t40.add 0) fun t42 =>
 ixL t4 4 t5 fun t45 =>
 ldI .i64 (t45.add 1) fun t47 =>
 ld_G_api_Rec (at0 t6) fun t48 =>
 newc #[.int .i64 t42, .int .i64 t47, .int .i64 t48.Kind, .int .i64 t48.User, .int .i64 t48.Seq, .int .i64 t48.Next, .int .i64 t48.Base, .int .i64 t48.Uid, .int .i64 t48.Time, .int .i64 t48.Flags, .int .i64 t48.Body, .int .i64 t48.Size, .int .i64 t48.Origin, .slice t48.Data.a t48.Data.len t48.Data.cap] fun t50 =>
 held (ldL ((at0 t3).add 0) fun t37_1 =>
 fun _ => (Value.slice t37_1.a t37_1.len t37_1.cap) = (Value.slice t37.a t37.len t37.cap)) (
 app 14 128 #[.int .i64 0, .int .i64 0, .int .i64 0, .int .i64 0, .int .i64 0, .int .i64 0, .int .i64 0, .int .i64 0, .int .i64 0, .int .i64 0, .int .i64 0, .int .i64 0, .int .i64 0, .slice none 0 0] t37 (⟨some (at0 t50), 1, 1⟩ : Sl) fun t51 =>
 sts ((at0 t3).add 0) 0 [.slice t51.a t51.len t51.cap] (
 ldI .i64 ((at0 t3).add 1) fun t54 =>
 ixL t4 4 t5 fun t57 =>
 ldI .i64 (t57.add 1) fun t59 =>
 sts ((at0 t3).add 1) 0 [.int .i64 (w64 (t54 - t59))] (
 rf14_Scan_j2 t2 t3 t4 t5 K R1)))) else
 rf14_Scan_j2 t2 t3 t4 t5 K R1
def rf14_Scan (p0 : Sl) (K : G_rf14_Lot → HP) : HP :=
 newc #[.slice none 0 0, .int .i64 0] fun t2 =>
 newc #[.slice none 0 0, .int .i64 0] fun t3 =>
 sts (at0 t3) 0 [.slice none 0 0, .int .i64 (p0.len : Nat)] (
 rf03_Scan p0 fun t12 =>
 loop (σ := List Value) (fun R1 vs1 =>
 asI .i64 (vs1.getD 0 undef) fun t5 =>
 bif (decide ((t5 : Int) < (t12.L.len : Nat))) then (
 ixL t12.L 4 t5 fun t23 =>
 ldI .i64 (t23.add 2) fun t25 =>
 ixL t12.L 4 t5 fun t28 =>
 ldL (t28.add 3) fun t30 =>
 both (
 rf14_Read t25 t30 fun t31a t31b =>
 newc #[.int .i64 0, .int .i64 0, .int .i64 0, .int .i64 0, .int .i64 0, .int .i64 0, .int .i64 0, .int .i64 0, .int .i64 0, .int .i64 0, .int .i64 0, .slice none 0 0] fun t6 =>
 held (ldI .i64 (t23.add 2) fun t25_1 =>
 fun _ => (Value.int .i64 t25_1) = (Value.int .i64 t25)) (
 held (ldL (t28.add 3) fun t30_1 =>
 fun _ => (Value.slice t30_1.a t30_1.len t30_1.cap) = (Value.slice t30.a t30.len t30.cap)) (
 sts (at0 t6) 0 [.int .i64 t31a.Kind, .int .i64 t31a.User, .int .i64 t31a.Seq, .int .i64 t31a.Next, .int .i64 t31a.Base, .int .i64 t31a.Uid, .int .i64 t31a.Time, .int .i64 t31a.Flags, .int .i64 t31a.Body, .int .i64 t31a.Size, .int .i64 t31a.Origin, .slice t31a.Data.a t31a.Data.len t31a.Data.cap] (
 rf14_Scan_j1 t2 t3 t12.L t5 t6 t31b K R1)))) (
 newc #[.int .i64 0, .int .i64 0, .int .i64 0, .int .i64 0, .int .i64 0, .int .i64 0, .int .i64 0, .int .i64 0, .int .i64 0, .int .i64 0, .int .i64 0, .slice none 0 0] fun t6_1 =>
 held (ldI .i64 (t23.add 2) fun t25_2 =>
 fun _ => (Value.int .i64 t25_2) = (Value.int .i64 t25)) (
 held (ldL (t28.add 3) fun t30_2 =>
 fun _ => (Value.slice t30_2.a t30_2.len t30_2.cap) = (Value.slice t30.a t30.len t30.cap)) (
 rf14_Read t25 t30 fun t31a_1 t31b_1 =>
 sts (at0 t6_1) 0 [.int .i64 t31a_1.Kind, .int .i64 t31a_1.User, .int .i64 t31a_1.Seq, .int .i64 t31a_1.Next, .int .i64 t31a_1.Base, .int .i64 t31a_1.Uid, .int .i64 t31a_1.Time, .int .i64 t31a_1.Flags, .int .i64 t31a_1.Body, .int .i64 t31a_1.Size, .int .i64 t31a_1.Origin, .slice t31a_1.Data.a t31a_1.Data.len t31a_1.Data.cap] (
 rf14_Scan_j1 t2 t3 t12.L t5 t6_1 t31b_1 K R1))))) else
 ld_G_rf14_Lot (at0 t3) fun t62 =>
 sts (at0 t2) 0 [.slice t62.L.a t62.L.len t62.L.cap, .int .i64 t62.Broken] (
 ld_G_rf14_Lot (at0 t2) fun r2 =>
 K r2)) [.int .i64 0])
def rf14_Scan_run (xs : List Value) (K : Value → HP) : HP :=
 arity xs 1 <|
 asL (xs.getD 0 undef) fun p0 =>
 rf14_Scan p0 (fun r0 => K (r0.v))
def rf18_more (p0 : Int) (p1 : Int) (K : Int → HP) : HP :=
 bif (decide ((p1 : Int) < p0)) then (
 K p0) else
 K p1
def rf18_more_run (xs : List Value) (K : Value → HP) : HP :=
 arity xs 2 <|
 asI .i64 (xs.getD 0 undef) fun p0 =>
 asI .i64 (xs.getD 1 undef) fun p1 =>
 rf18_more p0 p1 (fun r0 => K (.int .i64 r0))
def rf04_Disk_SyncDir (p0 : Option Addr) (K : Int → HP) : HP :=
 rf04_Disk_begin p0 fun t5 =>
 bif (!decide ((t5 : Int) = 0)) then (
 K t5) else
 nn p0 fun t11 =>
 ldL (t11.add 1) fun t13 =>
 nn p0 fun t14 =>
 sts (t14.add 2) 0 [.slice t13.a t13.len t13.cap] (
 nn p0 fun t17 =>
 sts (t17.add 3) 0 [.slice none 0 0] (
 K 0))
def rf04_Disk_SyncDir_run (xs : List Value) (K : Value → HP) : HP :=
 arity xs 1 <|
 asP (xs.getD 0 undef) fun p0 =>
 rf04_Disk_SyncDir p0 (fun r0 => K (.int .i64 r0))
def rf16_bad (p0 : Int) (K : Bool → HP) : HP :=
 bif (!decide ((p0 : Int) = 0)) then (
 K (!decide ((p0 : Int) = 11))) else
 K false
def rf16_bad_run (xs : List Value) (K : Value → HP) : HP :=
 arity xs 1 <|
 asI .i64 (xs.getD 0 undef) fun p0 =>
 rf16_bad p0 (fun r0 => K (.bool r0))
def rf16_SyncDir (p0 : Option Addr) (K : Int → HP) : HP :=
 rf04_Disk_SyncDir p0 fun t5 =>
 rf16_bad t5 fun t7 =>
 bif t7 then (
 rf04_Disk_SyncDir p0 fun t9 =>
 K t9) else
 K t5
def rf16_SyncDir_run (xs : List Value) (K : Value → HP) : HP :=
 arity xs 1 <|
 asP (xs.getD 0 undef) fun p0 =>
 rf16_SyncDir p0 (fun r0 => K (.int .i64 r0))
def rf16_Drop_j1 (t0 : Option Addr) (t1 : ByteArray) (t16 : Bool) (K : Int → HP) : HP :=
 bif t16 then (
 K 0) else
 rf04_Disk_Unlink t0 t1 fun t19 =>
 bif (!decide ((t19 : Int) = 0)) then (
 K t19) else
 rf16_SyncDir t0 fun t24 =>
 K t24
def rf16_Drop (p0 : Option Addr) (p1 : ByteArray) (K : Int → HP) : HP :=
 nn p0 fun t7 =>
 ldB (t7.add 5) fun t9 =>
 bif (!t9) then (
 rf04_Disk_Find p0 p1 fun t14 =>
 rf16_Drop_j1 p0 p1 (decide ((t14 : Int) < 0)) K) else
 rf16_Drop_j1 p0 p1 false K
def rf16_Drop_run (xs : List Value) (K : Value → HP) : HP :=
 arity xs 2 <|
 asP (xs.getD 0 undef) fun p0 =>
 asS (xs.getD 1 undef) fun p1 =>
 rf16_Drop p0 p1 (fun r0 => K (.int .i64 r0))
def rf18_count (p0 : Int) (p1 : G_api_Rec) (K : Int → HP) : HP :=
 newc #[.int .i64 p1.Kind, .int .i64 p1.User, .int .i64 p1.Seq, .int .i64 p1.Next, .int .i64 p1.Base, .int .i64 p1.Uid, .int .i64 p1.Time, .int .i64 p1.Flags, .int .i64 p1.Body, .int .i64 p1.Size, .int .i64 p1.Origin, .slice p1.Data.a p1.Data.len p1.Data.cap] fun t3 =>
 ldI .i64 ((at0 t3).add 3) fun t7 =>
 ldI .i64 ((at0 t3).add 5) fun t10 =>
 rf18_more p0 t7 fun t8 =>
 held (ldI .i64 ((at0 t3).add 5) fun t10_1 =>
 fun _ => (Value.int .i64 t10_1) = (Value.int .i64 t10)) (
 rf18_more t8 (w64 (t10 + 1)) fun t12 =>
 K t12)
def rf18_count_run (xs : List Value) (K : Value → HP) : HP :=
 arity xs 2 <|
 asI .i64 (xs.getD 0 undef) fun p0 =>
 as_G_api_Rec (xs.getD 1 undef) fun p1 =>
 rf18_count p0 p1 (fun r0 => K (.int .i64 r0))
def rf18_Open_j3 (t0 : Option Addr) (t1 : Int) (t9 : Nat) (t10 : Int) (t11 : Int) (t12 : Int) (t14 : Nat) (t15 : Int) (K : Option Addr → Int → HP) (R1 : List Value → HP) (R2 : List Value → HP) : HP :=
 R2 [.int .i64 t10, .int .i64 (w64 (t15 + 1))]
def rf18_Open_j2 (t0 : Option Addr) (t1 : Int) (t9 : Nat) (t10 : Int) (t11 : Int) (t12 : Int) (t14 : Nat) (t15 : Int) (t131 : Bool) (K : Option Addr → Int → HP) (R1 : List Value → HP) (R2 : List Value → HP) : HP :=
 bif t131 then (
 ldL ((at0 t14).add 0) fun t134 =>
 ixL t134 14 t15 fun t136 =>
 ldI .i64 ((t136.add 2).add 4) fun t139 =>
 rf18_more t10 t139 fun t140 =>
 rf18_Open_j3 t0 t1 t9 t140 t11 t12 t14 t15 K R1 R2) else
 rf18_Open_j3 t0 t1 t9 t10 t11 t12 t14 t15 K R1 R2
def rf18_Open_j4 (t0 : Option Addr) (t1 : Int) (t9 : Nat) (t10 : Int) (t11 : Int) (K : Option Addr → Int → HP) (R1 : List Value → HP) : HP :=
 R1 [.int .i64 t10, .int .i64 (w64 (t11 + 1))]
def rf18_Open_j5 (t0 : Option Addr) (t1 : Int) (t9 : Nat) (t10 : Int) (t16 : Sl) (t17 : Int) (K : Option Addr → Int → HP) (R3 : List Value → HP) : HP :=
 R3 [.slice t16.a t16.len t16.cap, .int .i64 (w64 (t17 + 1))]
def rf18_Open_j1 (t0 : Option Addr) (t1 : Int) (t2 : Int) (t33 : Bool) (K : Option Addr → Int → HP) : HP :=
 bif t33 then (
 K none 1) else
 rf18_digits t1 3 fun t36 =>
 cat (⟨#[99]⟩ : ByteArray) t36 fun t37 =>
 cat t37 (⟨#[45]⟩ : ByteArray) fun t38 =>
 rf16_Tidy t0 t38 fun t39 =>
 bif (!decide ((t39 : Int) = 0)) then (
 K none t39) else
 newc #[.pointer t0, .int .i64 t1, .int .i64 t2, .int .i64 1, .slice none 0 0] fun t47 =>
 loop (σ := List Value) (fun R1 vs1 =>
 asI .i64 (vs1.getD 0 undef) fun t10 =>
 asI .i64 (vs1.getD 1 undef) fun t11 =>
 nn t0 fun t50 =>
 ldL (t50.add 1) fun t52 =>
 bif (decide ((t11 : Int) < (t52.len : Nat))) then (
 nn t0 fun t59 =>
 ldL (t59.add 1) fun t61 =>
 ixL t61 2 t11 fun t63 =>
 ldS (t63.add 0) fun t65 =>
 rf18_seqOf t1 t65 fun t66 =>
 bif (decide ((t66 : Int) = 0)) then (
 K none 12) else
 bif (decide ((t66 : Int) < 0)) then (
 rf18_Open_j4 t0 t1 t47 t10 t11 K R1) else
 nn t0 fun t72 =>
 ldL (t72.add 0) fun t74 =>
 nn t0 fun t76 =>
 ldL (t76.add 1) fun t78 =>
 ixL t78 2 t11 fun t80 =>
 ldI .i64 (t80.add 1) fun t82 =>
 ixL t74 3 t82 fun t83 =>
 ldS (t83.add 0) fun t85 =>
 s2b t85 fun t87 =>
 rf14_Scan t87 fun t88 =>
 newc #[.slice none 0 0, .int .i64 0] fun t14 =>
 sts (at0 t14) 0 [.slice t88.L.a t88.L.len t88.L.cap, .int .i64 t88.Broken] (
 nn (some (at0 t47)) fun t91 =>
 ldL (t91.add 4) fun t93 =>
 ldI .i64 ((at0 t14).add 1) fun t98 =>
 ldL ((at0 t14).add 0) fun t100 =>
 newc #[.int .i64 t66, .int .i64 (t85.size : Nat), .int .i64 t98, .slice t100.a t100.len t100.cap] fun t102 =>
 held (ldL (t91.add 4) fun t93_1 =>
 fun _ => (Value.slice t93_1.a t93_1.len t93_1.cap) = (Value.slice t93.a t93.len t93.cap)) (
 app 4 48 #[.int .i64 0, .int .i64 0, .int .i64 0, .slice none 0 0] t93 (⟨some (at0 t102), 1, 1⟩ : Sl) fun t103 =>
 nn (some (at0 t47)) fun t104 =>
 sts (t104.add 4) 0 [.slice t103.a t103.len t103.cap] (
 loop (σ := List Value) (fun R2 vs2 =>
 asI .i64 (vs2.getD 0 undef) fun t10_1 =>
 asI .i64 (vs2.getD 1 undef) fun t15 =>
 ldL ((at0 t14).add 0) fun t108 =>
 bif (decide ((t15 : Int) < (t108.len : Nat))) then (
 ldL ((at0 t14).add 0) fun t114 =>
 ixL t114 14 t15 fun t116 =>
 ldI .i64 ((t116.add 2).add 0) fun t119 =>
 bif (decide ((t119 : Int) = 1)) then (
 ldL ((at0 t14).add 0) fun t123 =>
 ixL t123 14 t15 fun t125 =>
 ldI .i64 ((t125.add 2).add 4) fun t128 =>
 rf18_Open_j2 t0 t1 t47 t10_1 t11 t66 t14 t15 (decide ((t128 : Int) ≤ t66)) K R1 R2) else
 rf18_Open_j2 t0 t1 t47 t10_1 t11 t66 t14 t15 false K R1 R2) else
 rf18_Open_j4 t0 t1 t47 t10_1 t11 K R1) [.int .i64 t10, .int .i64 0])))) else
 loop (σ := List Value) (fun R3 vs3 =>
 asL (vs3.getD 0 undef) fun t16 =>
 asI .i64 (vs3.getD 1 undef) fun t17 =>
 nn (some (at0 t47)) fun t143 =>
 ldL (t143.add 4) fun t145 =>
 bif (decide ((t17 : Int) < (t145.len : Nat))) then (
 nn (some (at0 t47)) fun t151 =>
 ldL (t151.add 4) fun t153 =>
 ixL t153 4 t17 fun t155 =>
 ldI .i64 (t155.add 0) fun t157 =>
 bif (decide ((t157 : Int) < t10)) then (
 nn (some (at0 t47)) fun t163 =>
 ldL (t163.add 4) fun t165 =>
 ixL t165 4 t17 fun t167 =>
 ldI .i64 (t167.add 0) fun t169 =>
 rf18_Name t1 t169 fun t170 =>
 rf16_Drop t0 t170 fun t171 =>
 bif (!decide ((t171 : Int) = 0)) then (
 K none t171) else
 rf18_Open_j5 t0 t1 t47 t10 t16 t17 K R3) else
 nn (some (at0 t47)) fun t177 =>
 ldL (t177.add 4) fun t179 =>
 ixL t179 4 t17 fun t181 =>
 ld_G_rf18_Container t181 fun t182 =>
 newc #[.int .i64 t182.Seq, .int .i64 t182.Size, .int .i64 t182.Broken, .slice t182.L.a t182.L.len t182.L.cap] fun t183 =>
 app 4 48 #[.int .i64 0, .int .i64 0, .int .i64 0, .slice none 0 0] t16 (⟨some (at0 t183), 1, 1⟩ : Sl) fun t184 =>
 loop (σ := List Value) (fun R4 vs4 =>
 asI .i64 (vs4.getD 0 undef) fun t19 =>
 nn (some (at0 t47)) fun t187 =>
 ldL (t187.add 4) fun t189 =>
 ixL t189 4 t17 fun t191 =>
 ldL (t191.add 3) fun t193 =>
 bif (decide ((t19 : Int) < (t193.len : Nat))) then (
 nn (some (at0 t47)) fun t200 =>
 ldI .i64 (t200.add 3) fun t202 =>
 nn (some (at0 t47)) fun t204 =>
 ldL (t204.add 4) fun t206 =>
 ixL t206 4 t17 fun t208 =>
 ldL (t208.add 3) fun t210 =>
 ixL t210 14 t19 fun t212 =>
 ld_G_api_Rec (t212.add 2) fun t214 =>
 rf18_count t202 t214 fun t215 =>
 nn (some (at0 t47)) fun t216 =>
 sts (t216.add 3) 0 [.int .i64 t215] (
 R4 [.int .i64 (w64 (t19 + 1))])) else
 rf18_Open_j5 t0 t1 t47 t10 t184 t17 K R3) [.int .i64 0]) else
 nn (some (at0 t47)) fun t220 =>
 sts (t220.add 4) 0 [.slice t16.a t16.len t16.cap] (
 K (some (at0 t47)) 0)) [.slice none 0 0, .int .i64 0]) [.int .i64 0, .int .i64 0]
def rf18_Open (p0 : Option Addr) (p1 : Int) (p2 : Int) (K : Option Addr → Int → HP) : HP :=
 nn p0 fun t21 =>
 ldB (t21.add 5) fun t23 =>
 bif t23 then (
 K none 11) else
 bif (decide ((p1 : Int) < 1)) then (
 rf18_Open_j1 p0 p1 p2 true K) else
 bif (decide ((999 : Int) < p1)) then (
 rf18_Open_j1 p0 p1 p2 true K) else
 rf18_Open_j1 p0 p1 p2 (decide ((p2 : Int) < 1)) K
def rf18_Open_run (xs : List Value) (K : Value → HP) : HP :=
 arity xs 3 <|
 asP (xs.getD 0 undef) fun p0 =>
 asI .i64 (xs.getD 1 undef) fun p1 =>
 asI .i64 (xs.getD 2 undef) fun p2 =>
 rf18_Open p0 p1 p2 (fun r0 r1 => K (.tuple #[.pointer r0, .int .i64 r1]))
def vdisk_Disk_Calls (p0 : Option Addr) (K : Int → HP) : HP :=
 nn p0 fun t4 =>
 ldI .i64 (t4.add 6) fun t6 =>
 K t6
def vdisk_Disk_Calls_run (xs : List Value) (K : Value → HP) : HP :=
 arity xs 1 <|
 asP (xs.getD 0 undef) fun p0 =>
 vdisk_Disk_Calls p0 (fun r0 => K (.int .i64 r0))
def vdisk_Disk_known_j2 (t3 : Sl) (t8 : Sl) (t44 : Sl) (t45 : Int) (t46 : Int) (K : Sl → HP) (R3 : List Value → HP) : HP :=
 R3 [.slice t8.a t8.len t8.cap, .int .i64 (w64 (t46 + 1))]
def vdisk_Disk_known_j1 (t3 : Sl) (t8 : Sl) (t10 : Option Addr) (t44 : Sl) (t45 : Int) (t46 : Int) (t60 : Bool) (K : Sl → HP) (R3 : List Value → HP) : HP :=
 bif t60 then (
 newc #[.pointer t10] fun t63 =>
 app 1 8 #[.pointer none] t8 (⟨some (at0 t63), 1, 1⟩ : Sl) fun t64 =>
 vdisk_Disk_known_j2 t3 t64 t44 t45 t46 K R3) else
 vdisk_Disk_known_j2 t3 t8 t44 t45 t46 K R3
def vdisk_Disk_known (p0 : Option Addr) (K : Sl → HP) : HP :=
 nn p0 fun t12 =>
 ldL (t12.add 1) fun t14 =>
 mkSl 1 #[.bool false] (t14.len : Nat) (t14.len : Nat) fun t16 =>
 nn p0 fun t18 =>
 ldM (t18.add 2) fun t20 =>
 nn p0 fun t22 =>
 ldM (t22.add 3) fun t24 =>
 newc #[.map t20, .map t24] fun t25 =>
 loop (σ := List Value) (fun R1 vs1 =>
 asI .i64 (vs1.getD 0 undef) fun t27 =>
 bif (decide ((t27 : Int) < (2 : Nat))) then (
 ixL (⟨some (at0 t25), 2, 2⟩ : Sl) 1 t27 fun t29 =>
 ldM t29 fun t30 =>
 mrng t30 fun t32 =>
 loop (σ := List Value) (fun R2 vs2 =>
 mnext t32 (
 R1 [.int .i64 (w64 (t27 + 1))]) fun t33k t33v =>
 ment t32 fun t35k t35v =>
 inS t35k fun t35k =>
 inI .i64 t35v fun t35v =>
 ixL t16 1 t35v fun t39 =>
 sts t39 0 [.bool true] (
 R2 [])) []) else
 nn p0 fun t42 =>
 ldL (t42.add 1) fun t44 =>
 loop (σ := List Value) (fun R3 vs3 =>
 asL (vs3.getD 0 undef) fun t8 =>
 asI .i64 (vs3.getD 1 undef) fun t46 =>
 bif (decide ((t46 : Int) < (t44.len : Nat))) then (
 ixL t44 1 t46 fun t49 =>
 ldP t49 fun t50 =>
 ixL t16 1 t46 fun t53 =>
 ldB t53 fun t54 =>
 bif t54 then (
 vdisk_Disk_known_j1 t16 t8 t50 t44 (t44.len : Nat) t46 true K R3) else
 nn t50 fun t57 =>
 ldB (t57.add 3) fun t59 =>
 vdisk_Disk_known_j1 t16 t8 t50 t44 (t44.len : Nat) t46 t59 K R3) else
 K t8) [.slice none 0 0, .int .i64 0]) [.int .i64 0]
def vdisk_Disk_known_run (xs : List Value) (K : Value → HP) : HP :=
 arity xs 1 <|
 asP (xs.getD 0 undef) fun p0 =>
 vdisk_Disk_known p0 (fun r0 => K (.slice r0.a r0.len r0.cap))
def vdisk_Disk_Waits (p0 : Option Addr) (K : Int → Int → HP) : HP :=
 nn p0 fun t7 =>
 ldB (t7.add 5) fun t9 =>
 bif t9 then (
 K 0 0) else
 vdisk_Disk_known p0 fun t11 =>
 loop (σ := List Value) (fun R1 vs1 =>
 asI .i64 (vs1.getD 0 undef) fun t3 =>
 asI .i64 (vs1.getD 1 undef) fun t13 =>
 bif (decide ((t13 : Int) < (t11.len : Nat))) then (
 ixL t11 1 t13 fun t15 =>
 ldP t15 fun t16 =>
 nn t16 fun t19 =>
 ldL (t19.add 2) fun t21 =>
 R1 [.int .i64 (w64 (t3 + (t21.len : Nat))), .int .i64 (w64 (t13 + 1))]) else
 nn p0 fun t26 =>
 ldL (t26.add 4) fun t28 =>
 K (t28.len : Nat) t3) [.int .i64 0, .int .i64 0]
def vdisk_Disk_Waits_run (xs : List Value) (K : Value → HP) : HP :=
 arity xs 1 <|
 asP (xs.getD 0 undef) fun p0 =>
 vdisk_Disk_Waits p0 (fun r0 r1 => K (.tuple #[.int .i64 r0, .int .i64 r1]))
def rf04_Disk_Known (p0 : Option Addr) (p1 : Int) (K : Bool → HP) : HP :=
 loop (σ := List Value) (fun R1 vs1 =>
 asI .i64 (vs1.getD 0 undef) fun t5 =>
 nn p0 fun t10 =>
 ldL (t10.add 1) fun t12 =>
 bif (decide ((t5 : Int) < (t12.len : Nat))) then (
 nn p0 fun t18 =>
 ldL (t18.add 1) fun t20 =>
 ixL t20 2 t5 fun t22 =>
 ldI .i64 (t22.add 1) fun t24 =>
 bif (decide ((t24 : Int) = p1)) then (
 K true) else
 R1 [.int .i64 (w64 (t5 + 1))]) else
 loop (σ := List Value) (fun R2 vs2 =>
 asI .i64 (vs2.getD 0 undef) fun t6 =>
 nn p0 fun t29 =>
 ldL (t29.add 2) fun t31 =>
 bif (decide ((t6 : Int) < (t31.len : Nat))) then (
 nn p0 fun t37 =>
 ldL (t37.add 2) fun t39 =>
 ixL t39 2 t6 fun t41 =>
 ldI .i64 (t41.add 1) fun t43 =>
 bif (decide ((t43 : Int) = p1)) then (
 K true) else
 R2 [.int .i64 (w64 (t6 + 1))]) else
 loop (σ := List Value) (fun R3 vs3 =>
 asI .i64 (vs3.getD 0 undef) fun t7 =>
 nn p0 fun t48 =>
 ldL (t48.add 3) fun t50 =>
 bif (decide ((t7 : Int) < (t50.len : Nat))) then (
 nn p0 fun t56 =>
 ldL (t56.add 3) fun t58 =>
 ixL t58 3 t7 fun t60 =>
 ldI .i64 (t60.add 2) fun t62 =>
 bif (decide ((t62 : Int) = p1)) then (
 K true) else
 R3 [.int .i64 (w64 (t7 + 1))]) else
 K false) [.int .i64 0]) [.int .i64 0]) [.int .i64 0]
def rf04_Disk_Known_run (xs : List Value) (K : Value → HP) : HP :=
 arity xs 2 <|
 asP (xs.getD 0 undef) fun p0 =>
 asI .i64 (xs.getD 1 undef) fun p1 =>
 rf04_Disk_Known p0 p1 (fun r0 => K (.bool r0))
def rf04_Disk_Writes_j1 (t0 : Option Addr) (t3 : Int) (t4 : Int) (K : Int → HP) (R1 : List Value → HP) : HP :=
 R1 [.int .i64 t3, .int .i64 (w64 (t4 + 1))]
def rf04_Disk_Writes (p0 : Option Addr) (K : Int → HP) : HP :=
 loop (σ := List Value) (fun R1 vs1 =>
 asI .i64 (vs1.getD 0 undef) fun t3 =>
 asI .i64 (vs1.getD 1 undef) fun t4 =>
 nn p0 fun t7 =>
 ldL (t7.add 0) fun t9 =>
 bif (decide ((t4 : Int) < (t9.len : Nat))) then (
 rf04_Disk_Known p0 t4 fun t16 =>
 bif t16 then (
 nn p0 fun t19 =>
 ldL (t19.add 0) fun t21 =>
 ixL t21 3 t4 fun t23 =>
 ldL (t23.add 2) fun t25 =>
 rf04_Disk_Writes_j1 p0 (w64 (t3 + (t25.len : Nat))) t4 K R1) else
 rf04_Disk_Writes_j1 p0 t3 t4 K R1) else
 K t3) [.int .i64 0, .int .i64 0]
def rf04_Disk_Writes_run (xs : List Value) (K : Value → HP) : HP :=
 arity xs 1 <|
 asP (xs.getD 0 undef) fun p0 =>
 rf04_Disk_Writes p0 (fun r0 => K (.int .i64 r0))
def lw16_same_j3 (C : Cx) (t0 : Option Addr) (t1 : Option Addr) (t5 : Sl) (t8 : Int) (t111 : Bool) (K : Bool → HP) (R1 : List Value → HP) : HP :=
 bif t111 then (
 K false) else
 R1 [.int .i64 (w64 (t8 + 1))]
def lw16_same_j2 (C : Cx) (t0 : Option Addr) (t1 : Option Addr) (t5 : Sl) (t63 : Bool) (K : Bool → HP) : HP :=
 bif t63 then (
 K false) else
 loop (σ := List Value) (fun R1 vs1 =>
 asI .i64 (vs1.getD 0 undef) fun t8 =>
 bif (decide ((t8 : Int) < (t5.len : Nat))) then (
 ixL t5 1 t8 fun t74 =>
 ldS t74 fun t75 =>
 vdisk_Disk_Read t0 t75 fun t76a t76b =>
 ixL t5 1 t8 fun t81 =>
 ldS t81 fun t82 =>
 nn t1 fun t84 =>
 ldL (t84.add 1) fun t86 =>
 ixL t86 2 t8 fun t88 =>
 ldS (t88.add 0) fun t90 =>
 bif (!decide (t82 = t90)) then (
 lw16_same_j3 C t0 t1 t5 t8 true K R1) else
 ldBy t76a fun t94 =>
 nn t1 fun t96 =>
 ldL (t96.add 0) fun t98 =>
 nn t1 fun t100 =>
 ldL (t100.add 1) fun t102 =>
 ixL t102 2 t8 fun t104 =>
 ldI .i64 (t104.add 1) fun t106 =>
 ixL t98 3 t106 fun t107 =>
 ldS (t107.add 0) fun t109 =>
 lw16_same_j3 C t0 t1 t5 t8 (!decide (t94 = t109)) K R1) else
 K true) [.int .i64 0]
def lw16_same_j1 (C : Cx) (t0 : Option Addr) (t1 : Option Addr) (t26 : Bool) (K : Bool → HP) : HP :=
 bif t26 then (
 K false) else
 vdisk_Disk_Names C t0 fun t28 =>
 nn t1 fun t30 =>
 ldB (t30.add 5) fun t32 =>
 bif t32 then (
 K (decide (((t28.len : Nat) : Int) = 0))) else
 vdisk_Disk_Waits t0 fun t38a t38b =>
 nn t1 fun t44 =>
 ldL (t44.add 1) fun t46 =>
 bif (!decide (((t28.len : Nat) : Int) = (t46.len : Nat))) then (
 lw16_same_j2 C t0 t1 t28 true K) else
 nn t1 fun t52 =>
 ldL (t52.add 3) fun t54 =>
 bif (!decide ((t38a : Int) = (t54.len : Nat))) then (
 lw16_same_j2 C t0 t1 t28 true K) else
 rf04_Disk_Writes t1 fun t61 =>
 lw16_same_j2 C t0 t1 t28 (!decide ((t38b : Int) = t61)) K
def lw16_same (C : Cx) (p0 : Option Addr) (p1 : Option Addr) (K : Bool → HP) : HP :=
 nn p1 fun t14 =>
 ldB (t14.add 5) fun t16 =>
 vdisk_Disk_Down p0 fun t12 =>
 held (ldB (t14.add 5) fun t16_1 =>
 fun _ => (Value.bool t16_1) = (Value.bool t16)) (
 bif (!(t12 == t16)) then (
 held (fun _ => True) (
 lw16_same_j1 C p0 p1 true K)) else
 nn p1 fun t22 =>
 ldI .i64 (t22.add 6) fun t24 =>
 vdisk_Disk_Calls p0 fun t20 =>
 held (ldI .i64 (t22.add 6) fun t24_1 =>
 fun _ => (Value.int .i64 t24_1) = (Value.int .i64 t24)) (
 lw16_same_j1 C p0 p1 (!decide ((t20 : Int) = t24)) K))
def lw16_same_run (C : Cx) (xs : List Value) (K : Value → HP) : HP :=
 arity xs 2 <|
 asP (xs.getD 0 undef) fun p0 =>
 asP (xs.getD 1 undef) fun p1 =>
 lw16_same C p0 p1 (fun r0 => K (.bool r0))
def lw16_Apart (C : Cx) (p0 : Option Addr) (p1 : Option Addr) (K : Int → HP) : HP :=
 lw16_same C p0 p1 fun t7 =>
 bif t7 then (
 K 0) else
 K 1
def lw16_Apart_run (C : Cx) (xs : List Value) (K : Value → HP) : HP :=
 arity xs 2 <|
 asP (xs.getD 0 undef) fun p0 =>
 asP (xs.getD 1 undef) fun p1 =>
 lw16_Apart C p0 p1 (fun r0 => K (.int .i64 r0))
def rf18_Kept (p0 : G_api_Rec) (K : Bool → HP) : HP :=
 newc #[.int .i64 p0.Kind, .int .i64 p0.User, .int .i64 p0.Seq, .int .i64 p0.Next, .int .i64 p0.Base, .int .i64 p0.Uid, .int .i64 p0.Time, .int .i64 p0.Flags, .int .i64 p0.Body, .int .i64 p0.Size, .int .i64 p0.Origin, .slice p0.Data.a p0.Data.len p0.Data.cap] fun t1 =>
 ldI .i64 ((at0 t1).add 0) fun t4 =>
 bif (decide ((t4 : Int) = 2)) then (
 K true) else
 ldI .i64 ((at0 t1).add 0) fun t8 =>
 bif (decide ((t8 : Int) = 3)) then (
 K true) else
 ldI .i64 ((at0 t1).add 0) fun t13 =>
 K (decide ((t13 : Int) = 4))
def rf18_Kept_run (xs : List Value) (K : Value → HP) : HP :=
 arity xs 1 <|
 as_G_api_Rec (xs.getD 0 undef) fun p0 =>
 rf18_Kept p0 (fun r0 => K (.bool r0))
def rf18_Places_j1 (t0 : Option Addr) (t3 : Sl) (t4 : Int) (t5 : Int) (K : Sl → HP) (R1 : List Value → HP) (R2 : List Value → HP) : HP :=
 R2 [.slice t3.a t3.len t3.cap, .int .i64 (w64 (t5 + 1))]
def rf18_Places (p0 : Option Addr) (K : Sl → HP) : HP :=
 loop (σ := List Value) (fun R1 vs1 =>
 asL (vs1.getD 0 undef) fun t3 =>
 asI .i64 (vs1.getD 1 undef) fun t4 =>
 nn p0 fun t9 =>
 ldL (t9.add 4) fun t11 =>
 bif (decide ((t4 : Int) < (t11.len : Nat))) then (
 loop (σ := List Value) (fun R2 vs2 =>
 asL (vs2.getD 0 undef) fun t3_1 =>
 asI .i64 (vs2.getD 1 undef) fun t5 =>
 nn p0 fun t18 =>
 ldL (t18.add 4) fun t20 =>
 ixL t20 4 t4 fun t22 =>
 ldL (t22.add 3) fun t24 =>
 bif (decide ((t5 : Int) < (t24.len : Nat))) then (
 nn p0 fun t30 =>
 ldL (t30.add 4) fun t32 =>
 ixL t32 4 t4 fun t34 =>
 ldL (t34.add 3) fun t36 =>
 ixL t36 14 t5 fun t38 =>
 ld_G_api_Found t38 fun t39 =>
 newc #[.int .i64 0, .int .i64 0, .int .i64 0, .int .i64 0, .int .i64 0, .int .i64 0, .int .i64 0, .int .i64 0, .int .i64 0, .int .i64 0, .int .i64 0, .int .i64 0, .int .i64 0, .slice none 0 0] fun t6 =>
 sts (at0 t6) 0 [.int .i64 t39.At, .int .i64 t39.Len, .int .i64 t39.Rec_Kind, .int .i64 t39.Rec_User, .int .i64 t39.Rec_Seq, .int .i64 t39.Rec_Next, .int .i64 t39.Rec_Base, .int .i64 t39.Rec_Uid, .int .i64 t39.Rec_Time, .int .i64 t39.Rec_Flags, .int .i64 t39.Rec_Body, .int .i64 t39.Rec_Size, .int .i64 t39.Rec_Origin, .slice t39.Rec_Data.a t39.Rec_Data.len t39.Rec_Data.cap] (
 ld_G_api_Rec ((at0 t6).add 2) fun t41 =>
 rf18_Kept t41 fun t42 =>
 bif t42 then (
 nn p0 fun t45 =>
 ldL (t45.add 4) fun t47 =>
 ixL t47 4 t4 fun t49 =>
 ldI .i64 (t49.add 0) fun t51 =>
 ldI .i64 ((at0 t6).add 0) fun t53 =>
 ld_G_api_Rec ((at0 t6).add 2) fun t55 =>
 newc #[.int .i64 t51, .int .i64 t53, .int .i64 t55.Kind, .int .i64 t55.User, .int .i64 t55.Seq, .int .i64 t55.Next, .int .i64 t55.Base, .int .i64 t55.Uid, .int .i64 t55.Time, .int .i64 t55.Flags, .int .i64 t55.Body, .int .i64 t55.Size, .int .i64 t55.Origin, .slice t55.Data.a t55.Data.len t55.Data.cap] fun t57 =>
 app 14 128 #[.int .i64 0, .int .i64 0, .int .i64 0, .int .i64 0, .int .i64 0, .int .i64 0, .int .i64 0, .int .i64 0, .int .i64 0, .int .i64 0, .int .i64 0, .int .i64 0, .int .i64 0, .slice none 0 0] t3_1 (⟨some (at0 t57), 1, 1⟩ : Sl) fun t58 =>
 rf18_Places_j1 p0 t58 t4 t5 K R1 R2) else
 rf18_Places_j1 p0 t3_1 t4 t5 K R1 R2)) else
 R1 [.slice t3_1.a t3_1.len t3_1.cap, .int .i64 (w64 (t4 + 1))]) [.slice t3.a t3.len t3.cap, .int .i64 0]) else
 K t3) [.slice none 0 0, .int .i64 0]
def rf18_Places_run (xs : List Value) (K : Value → HP) : HP :=
 arity xs 1 <|
 asP (xs.getD 0 undef) fun p0 =>
 rf18_Places p0 (fun r0 => K (.slice r0.a r0.len r0.cap))
end Go.Ph.S
end
section
set_option linter.all false
set_option maxRecDepth 100000
namespace Go.Ph.S
def rf14_Same_j1 (t2 : Nat) (t3 : Nat) (t44 : Bool) (K : Bool → HP) : HP :=
 bif t44 then (
 K false) else
 ldI .i64 ((at0 t2).add 6) fun t46 =>
 ldI .i64 ((at0 t3).add 6) fun t48 =>
 bif (decide ((t46 : Int) = t48)) then (
 ldI .i64 ((at0 t2).add 7) fun t52 =>
 ldI .i64 ((at0 t3).add 7) fun t54 =>
 bif (decide ((t52 : Int) = t54)) then (
 ldI .i64 ((at0 t2).add 8) fun t59 =>
 ldI .i64 ((at0 t3).add 8) fun t61 =>
 bif (decide ((t59 : Int) = t61)) then (
 ldI .i64 ((at0 t2).add 9) fun t66 =>
 ldI .i64 ((at0 t3).add 9) fun t68 =>
 bif (decide ((t66 : Int) = t68)) then (
 ldI .i64 ((at0 t2).add 10) fun t73 =>
 ldI .i64 ((at0 t3).add 10) fun t75 =>
 bif (decide ((t73 : Int) = t75)) then (
 ldL ((at0 t2).add 11) fun t80 =>
 ldBy t80 fun t81 =>
 ldL ((at0 t3).add 11) fun t83 =>
 ldBy t83 fun t84 =>
 K (decide (t81 = t84))) else
 K false) else
 K false) else
 K false) else
 K false) else
 K false
def rf14_Same (p0 : G_api_Rec) (p1 : G_api_Rec) (K : Bool → HP) : HP :=
 newc #[.int .i64 p0.Kind, .int .i64 p0.User, .int .i64 p0.Seq, .int .i64 p0.Next, .int .i64 p0.Base, .int .i64 p0.Uid, .int .i64 p0.Time, .int .i64 p0.Flags, .int .i64 p0.Body, .int .i64 p0.Size, .int .i64 p0.Origin, .slice p0.Data.a p0.Data.len p0.Data.cap] fun t2 =>
 newc #[.int .i64 p1.Kind, .int .i64 p1.User, .int .i64 p1.Seq, .int .i64 p1.Next, .int .i64 p1.Base, .int .i64 p1.Uid, .int .i64 p1.Time, .int .i64 p1.Flags, .int .i64 p1.Body, .int .i64 p1.Size, .int .i64 p1.Origin, .slice p1.Data.a p1.Data.len p1.Data.cap] fun t3 =>
 ldI .i64 ((at0 t2).add 0) fun t6 =>
 ldI .i64 ((at0 t3).add 0) fun t8 =>
 bif (!decide ((t6 : Int) = t8)) then (
 rf14_Same_j1 t2 t3 true K) else
 ldI .i64 ((at0 t2).add 1) fun t12 =>
 ldI .i64 ((at0 t3).add 1) fun t14 =>
 bif (!decide ((t12 : Int) = t14)) then (
 rf14_Same_j1 t2 t3 true K) else
 ldI .i64 ((at0 t2).add 2) fun t19 =>
 ldI .i64 ((at0 t3).add 2) fun t21 =>
 bif (!decide ((t19 : Int) = t21)) then (
 rf14_Same_j1 t2 t3 true K) else
 ldI .i64 ((at0 t2).add 3) fun t26 =>
 ldI .i64 ((at0 t3).add 3) fun t28 =>
 bif (!decide ((t26 : Int) = t28)) then (
 rf14_Same_j1 t2 t3 true K) else
 ldI .i64 ((at0 t2).add 4) fun t33 =>
 ldI .i64 ((at0 t3).add 4) fun t35 =>
 bif (!decide ((t33 : Int) = t35)) then (
 rf14_Same_j1 t2 t3 true K) else
 ldI .i64 ((at0 t2).add 5) fun t40 =>
 ldI .i64 ((at0 t3).add 5) fun t42 =>
 rf14_Same_j1 t2 t3 (!decide ((t40 : Int) = t42)) K
def rf14_Same_run (xs : List Value) (K : Value → HP) : HP :=
 arity xs 2 <|
 as_G_api_Rec (xs.getD 0 undef) fun p0 =>
 as_G_api_Rec (xs.getD 1 undef) fun p1 =>
 rf14_Same p0 p1 (fun r0 => K (.bool r0))
def rf18_SamePlaces_j1 (t0 : Sl) (t1 : Sl) (t5 : Int) (t54 : Bool) (K : Bool → HP) (R1 : List Value → HP) : HP :=
 bif t54 then (
 K false) else
 R1 [.int .i64 (w64 (t5 + 1))]
def rf18_SamePlaces (p0 : Sl) (p1 : Sl) (K : Bool → HP) : HP :=
 bif (!decide (((p0.len : Nat) : Int) = (p1.len : Nat))) then (
 K false) else
 loop (σ := List Value) (fun R1 vs1 =>
 asI .i64 (vs1.getD 0 undef) fun t5 =>
 bif (decide ((t5 : Int) < (p0.len : Nat))) then (
 ixL p0 14 t5 fun t19 =>
 ldI .i64 (t19.add 0) fun t21 =>
 ixL p1 14 t5 fun t24 =>
 ldI .i64 (t24.add 0) fun t26 =>
 bif (!decide ((t21 : Int) = t26)) then (
 rf18_SamePlaces_j1 p0 p1 t5 true K R1) else
 ixL p0 14 t5 fun t31 =>
 ldI .i64 (t31.add 1) fun t33 =>
 ixL p1 14 t5 fun t36 =>
 ldI .i64 (t36.add 1) fun t38 =>
 bif (!decide ((t33 : Int) = t38)) then (
 rf18_SamePlaces_j1 p0 p1 t5 true K R1) else
 ixL p0 14 t5 fun t44 =>
 ld_G_api_Rec (t44.add 2) fun t46 =>
 ixL p1 14 t5 fun t49 =>
 ld_G_api_Rec (t49.add 2) fun t51 =>
 rf14_Same t46 t51 fun t52 =>
 rf18_SamePlaces_j1 p0 p1 t5 (!t52) K R1) else
 K true) [.int .i64 0]
def rf18_SamePlaces_run (xs : List Value) (K : Value → HP) : HP :=
 arity xs 2 <|
 asL (xs.getD 0 undef) fun p0 =>
 asL (xs.getD 1 undef) fun p1 =>
 rf18_SamePlaces p0 p1 (fun r0 => K (.bool r0))
def rf18_Last (p0 : Option Addr) (K : Int → HP) : HP :=
 nn p0 fun t4 =>
 ldL (t4.add 4) fun t6 =>
 bif (decide (((t6.len : Nat) : Int) = 0)) then (
 K 0) else
 nn p0 fun t10 =>
 ldL (t10.add 4) fun t12 =>
 nn p0 fun t14 =>
 ldL (t14.add 4) fun t16 =>
 ixL t12 4 (w64 ((t16.len : Nat) - 1)) fun t19 =>
 ldI .i64 (t19.add 0) fun t21 =>
 K t21
def rf18_Last_run (xs : List Value) (K : Value → HP) : HP :=
 arity xs 1 <|
 asP (xs.getD 0 undef) fun p0 =>
 rf18_Last p0 (fun r0 => K (.int .i64 r0))
def rf18_Broken (p0 : Option Addr) (K : Int → HP) : HP :=
 loop (σ := List Value) (fun R1 vs1 =>
 asI .i64 (vs1.getD 0 undef) fun t3 =>
 asI .i64 (vs1.getD 1 undef) fun t4 =>
 nn p0 fun t7 =>
 ldL (t7.add 4) fun t9 =>
 bif (decide ((t4 : Int) < (t9.len : Nat))) then (
 nn p0 fun t16 =>
 ldL (t16.add 4) fun t18 =>
 ixL t18 4 t4 fun t20 =>
 ldI .i64 (t20.add 2) fun t22 =>
 R1 [.int .i64 (w64 (t3 + t22)), .int .i64 (w64 (t4 + 1))]) else
 K t3) [.int .i64 0, .int .i64 0]
def rf18_Broken_run (xs : List Value) (K : Value → HP) : HP :=
 arity xs 1 <|
 asP (xs.getD 0 undef) fun p0 =>
 rf18_Broken p0 (fun r0 => K (.int .i64 r0))
def dbox_Box_Containers (p0 : Option Addr) (K : Sl → HP) : HP :=
 nn p0 fun t7 =>
 ldL (t7.add 4) fun t9 =>
 loop (σ := List Value) (fun R1 vs1 =>
 asL (vs1.getD 0 undef) fun t3 =>
 asI .i64 (vs1.getD 1 undef) fun t11 =>
 bif (decide ((t11 : Int) < (t9.len : Nat))) then (
 ixL t9 4 t11 fun t13 =>
 ld_G_dbox_container t13 fun t14 =>
 newc #[.int .i64 0, .int .i64 0, .int .i64 0, .slice none 0 0] fun t5 =>
 sts (at0 t5) 0 [.int .i64 t14.seq, .int .i64 t14.size, .int .i64 t14.broken, .slice t14.l.a t14.l.len t14.l.cap] (
 ldI .i64 ((at0 t5).add 0) fun t17 =>
 newc #[.int .i64 t17] fun t18 =>
 app 1 8 #[.int .i64 0] t3 (⟨some (at0 t18), 1, 1⟩ : Sl) fun t19 =>
 R1 [.slice t19.a t19.len t19.cap, .int .i64 (w64 (t11 + 1))])) else
 K t3) [.slice none 0 0, .int .i64 0]
def dbox_Box_Containers_run (xs : List Value) (K : Value → HP) : HP :=
 arity xs 1 <|
 asP (xs.getD 0 undef) fun p0 =>
 dbox_Box_Containers p0 (fun r0 => K (.slice r0.a r0.len r0.cap))
def lw18_same_j1 (t0 : Option Addr) (t1 : Option Addr) (t35 : Bool) (K : Bool → HP) : HP :=
 bif t35 then (
 K false) else
 dbox_Box_Containers t0 fun t37 =>
 nn t1 fun t41 =>
 ldL (t41.add 4) fun t43 =>
 bif (!decide (((t37.len : Nat) : Int) = (t43.len : Nat))) then (
 K false) else
 loop (σ := List Value) (fun R1 vs1 =>
 asI .i64 (vs1.getD 0 undef) fun t6 =>
 bif (decide ((t6 : Int) < (t37.len : Nat))) then (
 ixL t37 1 t6 fun t54 =>
 ldI .i64 t54 fun t55 =>
 nn t1 fun t57 =>
 ldL (t57.add 4) fun t59 =>
 ixL t59 4 t6 fun t61 =>
 ldI .i64 (t61.add 0) fun t63 =>
 bif (!decide ((t55 : Int) = t63)) then (
 K false) else
 R1 [.int .i64 (w64 (t6 + 1))]) else
 K true) [.int .i64 0]
def lw18_same (p0 : Option Addr) (p1 : Option Addr) (K : Bool → HP) : HP :=
 dbox_Box_Places p0 fun t8 =>
 rf18_Places p1 fun t10 =>
 rf18_SamePlaces t8 t10 fun t11 =>
 bif (!t11) then (
 held (fun _ => True) (
 lw18_same_j1 p0 p1 true K)) else
 nn p1 fun t17 =>
 ldI .i64 (t17.add 3) fun t19 =>
 dbox_Box_Next p0 fun t15 =>
 held (ldI .i64 (t17.add 3) fun t19_1 =>
 fun _ => (Value.int .i64 t19_1) = (Value.int .i64 t19)) (
 bif (!decide ((t15 : Int) = t19)) then (
 lw18_same_j1 p0 p1 true K) else
 dbox_Box_Last p0 fun t24 =>
 rf18_Last p1 fun t26 =>
 bif (!decide ((t24 : Int) = t26)) then (
 lw18_same_j1 p0 p1 true K) else
 dbox_Box_Broken p0 fun t31 =>
 rf18_Broken p1 fun t33 =>
 lw18_same_j1 p0 p1 (!decide ((t31 : Int) = t33)) K)
def lw18_same_run (xs : List Value) (K : Value → HP) : HP :=
 arity xs 2 <|
 asP (xs.getD 0 undef) fun p0 =>
 asP (xs.getD 1 undef) fun p1 =>
 lw18_same p0 p1 (fun r0 => K (.bool r0))
def lw18_DboxOpens_j3 (C : Cx) (t9 : Option Addr) (t11 : Option Addr) (t89 : Bool) (K : Bool → HP) : HP :=
 bif t89 then (
 K false) else
 bif t9.isNone then (
 K true) else
 lw18_same t9 t11 fun t95 =>
 K t95
def lw18_DboxOpens_j2 (C : Cx) (t1 : Int) (t2 : Int) (t7 : Option Addr) (t8 : Option Addr) (t53 : Bool) (K : Bool → HP) : HP :=
 bif t53 then (
 bif t7.isNone then (
 K t8.isNone) else
 K false) else
 dbox_Open C t7 t1 t2 fun t64a t64b =>
 rf18_Open t8 t1 t2 fun t71a t71b =>
 bif (!decide ((t64b : Int) = t71b)) then (
 lw18_DboxOpens_j3 C t64a t71a true K) else
 bif (!(t64a.isNone == t71a.isNone)) then (
 lw18_DboxOpens_j3 C t64a t71a true K) else
 lw16_Apart C t7 t8 fun t87 =>
 lw18_DboxOpens_j3 C t64a t71a (!decide ((t87 : Int) = 0)) K
def lw18_DboxOpens_j1 (C : Cx) (t0 : Sl) (t1 : Int) (t2 : Int) (t31 : Bool) (K : Bool → HP) : HP :=
 bif t31 then (
 bif (decide ((20 : Int) < (t0.len : Nat))) then (
 K true) else
 dbox_Name t1 t2 fun t38 =>
 rf18_Name t1 t2 fun t41 =>
 K (decide (t38 = t41))) else
 vdisk_New t0 100000 fun t45 =>
 rf04_New t0 100000 fun t47 =>
 bif t45.isNone then (
 lw18_DboxOpens_j2 C t1 t2 t45 t47 true K) else
 lw18_DboxOpens_j2 C t1 t2 t45 t47 t47.isNone K
def lw18_DboxOpens (C : Cx) (p0 : Sl) (p1 : Int) (p2 : Int) (K : Bool → HP) : HP :=
 lw18_awake C fun t13 =>
 bif (!t13) then (
 K false) else
 bif (decide ((20 : Int) < (p0.len : Nat))) then (
 lw18_DboxOpens_j1 C p0 p1 p2 true K) else
 rf04_Bulk p0 2000 fun t20 =>
 bif (decide ((2000 : Int) < t20)) then (
 lw18_DboxOpens_j1 C p0 p1 p2 true K) else
 dbox_Name p1 p2 fun t26 =>
 rf18_Name p1 p2 fun t29 =>
 lw18_DboxOpens_j1 C p0 p1 p2 (!decide (t26 = t29)) K
def vdisk_set_j1 (t0 : Int) (t1 : Int) (t4 : Nat) (t14 : Bool) (K : G_vdisk_trap → HP) : HP :=
 bif t14 then (
 sts (at0 t4) 0 [.int .i64 (-1), .int .i64 0] (
 ld_G_vdisk_trap (at0 t4) fun r4 =>
 K r4)) else
 sts (at0 t4) 0 [.int .i64 t0, .int .i64 t1] (
 ld_G_vdisk_trap (at0 t4) fun r4 =>
 K r4)
def vdisk_set (p0 : Int) (p1 : Int) (K : G_vdisk_trap → HP) : HP :=
 newc #[.int .i64 0, .int .i64 0] fun t4 =>
 bif (decide ((p0 : Int) < 0)) then (
 vdisk_set_j1 p0 p1 t4 true K) else
 bif (decide ((4611686018427387904 : Int) ≤ p0)) then (
 vdisk_set_j1 p0 p1 t4 true K) else
 vdisk_set_j1 p0 p1 t4 (decide ((p1 : Int) = 0)) K
def vdisk_set_run (xs : List Value) (K : Value → HP) : HP :=
 arity xs 2 <|
 asI .i64 (xs.getD 0 undef) fun p0 =>
 asI .i64 (xs.getD 1 undef) fun p1 =>
 vdisk_set p0 p1 (fun r0 => K (r0.v))
def vdisk_Disk_Crash (p0 : Option Addr) (p1 : Int) (K : HP) : HP :=
 vdisk_set p1 11 fun t6 =>
 nn p0 fun t7 =>
 sts (t7.add 9) 0 [.int .i64 t6.left, .int .i64 t6.code] (
 K)
def vdisk_Disk_Crash_run (xs : List Value) (K : Value → HP) : HP :=
 arity xs 2 <|
 asP (xs.getD 0 undef) fun p0 =>
 asI .i64 (xs.getD 1 undef) fun p1 =>
 vdisk_Disk_Crash p0 p1 (K (.tuple #[]))
def rf14_Light (p0 : G_api_Rec) (K : Bool → HP) : HP :=
 newc #[.int .i64 p0.Kind, .int .i64 p0.User, .int .i64 p0.Seq, .int .i64 p0.Next, .int .i64 p0.Base, .int .i64 p0.Uid, .int .i64 p0.Time, .int .i64 p0.Flags, .int .i64 p0.Body, .int .i64 p0.Size, .int .i64 p0.Origin, .slice p0.Data.a p0.Data.len p0.Data.cap] fun t1 =>
 ldL ((at0 t1).add 11) fun t4 =>
 K (decide (((t4.len : Nat) : Int) ≤ 1000))
def rf14_Light_run (xs : List Value) (K : Value → HP) : HP :=
 arity xs 1 <|
 as_G_api_Rec (xs.getD 0 undef) fun p0 =>
 rf14_Light p0 (fun r0 => K (.bool r0))
def vdisk_keepers_next_j1 (t3 : Nat) (t4 : Nat) (t5 : Int) (K : G_vdisk_patch → HP) : HP :=
 ldI .i64 ((at0 t3).add 0) fun t28 =>
 ldS ((at0 t3).add 1) fun t30 =>
 slS t30 0 t5 fun t32 =>
 sts (at0 t4) 0 [.int .i64 t28, .string t32] (
 ld_G_vdisk_patch (at0 t4) fun r4 =>
 K r4)
def vdisk_keepers_next (p0 : Option Addr) (p1 : G_vdisk_patch) (K : G_vdisk_patch → HP) : HP :=
 newc #[.int .i64 p1.place, .string p1.bytes] fun t3 =>
 newc #[.int .i64 0, .string (⟨#[]⟩ : ByteArray)] fun t4 =>
 nn p0 fun t7 =>
 ldL t7 fun t8 =>
 bif (decide ((0 : Int) < (t8.len : Nat))) then (
 nn p0 fun t12 =>
 ldL t12 fun t13 =>
 ixL t13 1 0 fun t14 =>
 ldI .i64 t14 fun t15 =>
 ldS ((at0 t3).add 1) fun t18 =>
 nn p0 fun t23 =>
 ldL t23 fun t24 =>
 slL t24 1 1 (t24.len : Nat) (t24.cap : Nat) fun t25 =>
 nn p0 fun t26 =>
 sts t26 0 [.slice t25.a t25.len t25.cap] (
 vdisk_keepers_next_j1 t3 t4 (if ((t18.size : Nat) : Int) < (if (0 : Int) > t15 then 0 else t15) then (t18.size : Nat) else (if (0 : Int) > t15 then 0 else t15)) K)) else
 vdisk_keepers_next_j1 t3 t4 0 K
def vdisk_keepers_next_run (xs : List Value) (K : Value → HP) : HP :=
 arity xs 2 <|
 asP (xs.getD 0 undef) fun p0 =>
 as_G_vdisk_patch (xs.getD 1 undef) fun p1 =>
 vdisk_keepers_next p0 p1 (fun r0 => K (r0.v))
def vdisk_Disk_Boot_j1 (t0 : Option Addr) (t1 : Int) (t7 : Nat) (t9 : Option Addr) (t22 : Sl) (t23 : Int) (t24 : Int) (t38 : Sl) (t39 : Int) (t40 : Int) (K : Int → HP) (R1 : List Value → HP) (R2 : List Value → HP) : HP :=
 R2 [.int .i64 (w64 (t40 + 1))]
def vdisk_Disk_Boot_j2 (t0 : Option Addr) (t1 : Int) (t73 : Sl) (t74 : Int) (t75 : Int) (K : Int → HP) (R3 : List Value → HP) : HP :=
 R3 [.int .i64 (w64 (t75 + 1))]
def vdisk_Disk_Boot (p0 : Option Addr) (p1 : Int) (p2 : Sl) (K : Int → HP) : HP :=
 nn p0 fun t16 =>
 ldB (t16.add 5) fun t18 =>
 bif (!t18) then (
 K 13) else
 newc #[.slice none 0 0] fun t7 =>
 sts (at0 t7) 0 [.slice p2.a p2.len p2.cap] (
 vdisk_Disk_known p0 fun t22 =>
 loop (σ := List Value) (fun R1 vs1 =>
 asI .i64 (vs1.getD 0 undef) fun t24 =>
 bif (decide ((t24 : Int) < (t22.len : Nat))) then (
 ixL t22 1 t24 fun t26 =>
 ldP t26 fun t27 =>
 nn t27 fun t30 =>
 ldS (t30.add 1) fun t32 =>
 nn t27 fun t33 =>
 sts (t33.add 0) 0 [.string t32] (
 nn t27 fun t36 =>
 ldL (t36.add 2) fun t38 =>
 loop (σ := List Value) (fun R2 vs2 =>
 asI .i64 (vs2.getD 0 undef) fun t40 =>
 bif (decide ((t40 : Int) < (t38.len : Nat))) then (
 ixL t38 2 t40 fun t42 =>
 ld_G_vdisk_patch t42 fun t43 =>
 newc #[.int .i64 0, .string (⟨#[]⟩ : ByteArray)] fun t11 =>
 sts (at0 t11) 0 [.int .i64 t43.place, .string t43.bytes] (
 ld_G_vdisk_patch (at0 t11) fun t44 =>
 vdisk_keepers_next (some (at0 t7)) t44 fun t45 =>
 newc #[.int .i64 0, .string (⟨#[]⟩ : ByteArray)] fun t12 =>
 sts (at0 t12) 0 [.int .i64 t45.place, .string t45.bytes] (
 ldS ((at0 t12).add 1) fun t47 =>
 bif (!decide (t47 = (⟨#[]⟩ : ByteArray))) then (
 ld_G_vdisk_patch (at0 t12) fun t50 =>
 nn t27 fun t52 =>
 ldS (t52.add 0) fun t54 =>
 vdisk_patch_over t50 t54 fun t55 =>
 nn t27 fun t56 =>
 sts (t56.add 0) 0 [.string t55] (
 vdisk_Disk_Boot_j1 p0 p1 t7 t27 t22 (t22.len : Nat) t24 t38 (t38.len : Nat) t40 K R1 R2)) else
 vdisk_Disk_Boot_j1 p0 p1 t7 t27 t22 (t22.len : Nat) t24 t38 (t38.len : Nat) t40 K R1 R2))) else
 vdisk_node_settle t27 (
 R1 [.int .i64 (w64 (t24 + 1))])) [.int .i64 0])) else
 nn p0 fun t64 =>
 ldM (t64.add 3) fun t66 =>
 maps_Clone_vdisk_names_string_int t66 fun t67 =>
 nn p0 fun t68 =>
 sts (t68.add 2) 0 [.map t67] (
 nn p0 fun t71 =>
 ldL (t71.add 4) fun t73 =>
 loop (σ := List Value) (fun R3 vs3 =>
 asI .i64 (vs3.getD 0 undef) fun t75 =>
 bif (decide ((t75 : Int) < (t73.len : Nat))) then (
 ixL t73 3 t75 fun t78 =>
 ld_G_vdisk_move t78 fun t79 =>
 newc #[.int .i64 0, .string (⟨#[]⟩ : ByteArray), .bool false] fun t14 =>
 sts (at0 t14) 0 [.int .i64 t79.node, .string t79.name, .bool t79.made] (
 bif (decide ((t75 : Int) < p1)) then (
 nn p0 fun t84 =>
 ldM (t84.add 2) fun t86 =>
 ld_G_vdisk_move (at0 t14) fun t87 =>
 vdisk_names_give t86 t87 (
 vdisk_Disk_Boot_j2 p0 p1 t73 (t73.len : Nat) t75 K R3)) else
 vdisk_Disk_Boot_j2 p0 p1 t73 (t73.len : Nat) t75 K R3)) else
 vdisk_Disk_fix p0 (
 nn p0 fun t97 =>
 sts (t97.add 5) 0 [.bool false] (
 nn p0 fun t99 =>
 sts (t99.add 7) 0 [.int .i64 (-1), .int .i64 0] (
 nn p0 fun t101 =>
 sts (t101.add 9) 0 [.int .i64 (-1), .int .i64 0] (
 K 0))))) [.int .i64 0])) [.int .i64 0])
def vdisk_Disk_Boot_run (xs : List Value) (K : Value → HP) : HP :=
 arity xs 3 <|
 asP (xs.getD 0 undef) fun p0 =>
 asI .i64 (xs.getD 1 undef) fun p1 =>
 asL (xs.getD 2 undef) fun p2 =>
 vdisk_Disk_Boot p0 p1 p2 (fun r0 => K (.int .i64 r0))
def lw18_DboxSure_j4 (C : Cx) (t0 : Int) (t1 : Sl) (t3 : Int) (t4 : Sl) (t11 : Option Addr) (t12 : Option Addr) (t14 : Sl) (t15 : Nat) (t16 : Int) (K : Bool → HP) (R1 : List Value → HP) : HP :=
 R1 [.slice t14.a t14.len t14.cap, .int .i64 (w64 (t16 + 1))]
def lw18_DboxSure_j3 (C : Cx) (t0 : Int) (t1 : Sl) (t3 : Int) (t4 : Sl) (t11 : Option Addr) (t12 : Option Addr) (t14 : Sl) (t15 : Nat) (t16 : Int) (t92 : Bool) (K : Bool → HP) (R1 : List Value → HP) : HP :=
 bif t92 then (
 ixL t1 12 t16 fun t95 =>
 ld_G_api_Rec t95 fun t96 =>
 sts (at0 t15) 0 [.int .i64 t96.Kind, .int .i64 t96.User, .int .i64 t96.Seq, .int .i64 t96.Next, .int .i64 t96.Base, .int .i64 t96.Uid, .int .i64 t96.Time, .int .i64 t96.Flags, .int .i64 t96.Body, .int .i64 t96.Size, .int .i64 t96.Origin, .slice t96.Data.a t96.Data.len t96.Data.cap] (
 lw18_DboxSure_j4 C t0 t1 t3 t4 t11 t12 t14 t15 t16 K R1)) else
 lw18_DboxSure_j4 C t0 t1 t3 t4 t11 t12 t14 t15 t16 K R1
def lw18_DboxSure_j7 (C : Cx) (t14 : Sl) (t21 : Sl) (t161 : Bool) (K : Bool → HP) : HP :=
 bif t161 then (
 K false) else
 loop (σ := List Value) (fun R2 vs2 =>
 asI .i64 (vs2.getD 0 undef) fun t22 =>
 bif (decide ((t22 : Int) < (t14.len : Nat))) then (
 ixL t21 14 t22 fun t170 =>
 ld_G_api_Rec (t170.add 2) fun t172 =>
 ixL t14 12 t22 fun t175 =>
 ld_G_api_Rec t175 fun t176 =>
 rf14_Same t172 t176 fun t177 =>
 bif (!t177) then (
 K false) else
 R2 [.int .i64 (w64 (t22 + 1))]) else
 K true) [.int .i64 0]
def lw18_DboxSure_j6 (C : Cx) (t14 : Sl) (t15 : Nat) (t20 : Option Addr) (t128 : Bool) (K : Bool → HP) : HP :=
 bif t128 then (
 K false) else
 dbox_Box_Places t20 fun t130 =>
 bif (decide (((t130.len : Nat) : Int) < (t14.len : Nat))) then (
 lw18_DboxSure_j7 C t14 t130 true K) else
 bif (decide ((w64 ((t14.len : Nat) + 1) : Int) < (t130.len : Nat))) then (
 lw18_DboxSure_j7 C t14 t130 true K) else
 bif (decide (((t14.len : Nat) : Int) < (t130.len : Nat))) then (
 ixL t130 14 (t14.len : Nat) fun t154 =>
 ld_G_api_Rec (t154.add 2) fun t156 =>
 ld_G_api_Rec (at0 t15) fun t157 =>
 rf14_Same t156 t157 fun t158 =>
 lw18_DboxSure_j7 C t14 t130 (!t158) K) else
 lw18_DboxSure_j7 C t14 t130 false K
def lw18_DboxSure_j5 (C : Cx) (t0 : Int) (t3 : Int) (t4 : Sl) (t11 : Option Addr) (t12 : Option Addr) (t14 : Sl) (t15 : Nat) (K : Bool → HP) : HP :=
 dbox_Box_Next t12 fun t105 =>
 vdisk_Disk_Boot t11 t3 t4 fun t109 =>
 bif (!decide ((t109 : Int) = 0)) then (
 K false) else
 dbox_Open C t11 1 t0 fun t114a t114b =>
 bif t114a.isNone then (
 lw18_DboxSure_j6 C t14 t15 t114a true K) else
 bif (!decide ((t114b : Int) = 0)) then (
 lw18_DboxSure_j6 C t14 t15 t114a true K) else
 dbox_Box_Next t114a fun t125 =>
 lw18_DboxSure_j6 C t14 t15 t114a (decide ((t125 : Int) < t105)) K
def lw18_DboxSure_j2 (C : Cx) (t0 : Int) (t1 : Sl) (t2 : Int) (t3 : Int) (t4 : Sl) (t11 : Option Addr) (t12 : Option Addr) (t51 : Bool) (K : Bool → HP) : HP :=
 bif t51 then (
 K false) else
 vdisk_Disk_Crash t11 t2 (
 newc #[.int .i64 0, .int .i64 0, .int .i64 0, .int .i64 0, .int .i64 0, .int .i64 0, .int .i64 0, .int .i64 0, .int .i64 0, .int .i64 0, .int .i64 0, .slice none 0 0] fun t15 =>
 sts (at0 t15) 0 [.int .i64 0, .int .i64 0, .int .i64 0, .int .i64 0, .int .i64 0, .int .i64 0, .int .i64 0, .int .i64 0, .int .i64 0, .int .i64 0, .int .i64 0, .slice none 0 0] (
 loop (σ := List Value) (fun R1 vs1 =>
 asL (vs1.getD 0 undef) fun t14 =>
 asI .i64 (vs1.getD 1 undef) fun t16 =>
 bif (decide ((t16 : Int) < (t1.len : Nat))) then (
 ixL t1 12 t16 fun t64 =>
 ld_G_api_Rec t64 fun t65 =>
 rf14_Light t65 fun t66 =>
 bif (!t66) then (
 K true) else
 ixL t1 12 t16 fun t72 =>
 ld_G_api_Rec t72 fun t73 =>
 dbox_Box_Put C t12 t73 fun t74a t74b =>
 newc #[.int .i64 0, .int .i64 0, .int .i64 0, .int .i64 0, .int .i64 0, .int .i64 0, .int .i64 0, .int .i64 0, .int .i64 0, .int .i64 0, .int .i64 0, .int .i64 0, .int .i64 0, .slice none 0 0] fun t17 =>
 sts (at0 t17) 0 [.int .i64 t74a.Seq, .int .i64 t74a.At, .int .i64 t74a.Rec_Kind, .int .i64 t74a.Rec_User, .int .i64 t74a.Rec_Seq, .int .i64 t74a.Rec_Next, .int .i64 t74a.Rec_Base, .int .i64 t74a.Rec_Uid, .int .i64 t74a.Rec_Time, .int .i64 t74a.Rec_Flags, .int .i64 t74a.Rec_Body, .int .i64 t74a.Rec_Size, .int .i64 t74a.Rec_Origin, .slice t74a.Rec_Data.a t74a.Rec_Data.len t74a.Rec_Data.cap] (
 bif (decide ((t74b : Int) = 0)) then (
 ixL t1 12 t16 fun t82 =>
 ld_G_api_Rec t82 fun t83 =>
 newc #[.int .i64 t83.Kind, .int .i64 t83.User, .int .i64 t83.Seq, .int .i64 t83.Next, .int .i64 t83.Base, .int .i64 t83.Uid, .int .i64 t83.Time, .int .i64 t83.Flags, .int .i64 t83.Body, .int .i64 t83.Size, .int .i64 t83.Origin, .slice t83.Data.a t83.Data.len t83.Data.cap] fun t84 =>
 app 12 112 #[.int .i64 0, .int .i64 0, .int .i64 0, .int .i64 0, .int .i64 0, .int .i64 0, .int .i64 0, .int .i64 0, .int .i64 0, .int .i64 0, .int .i64 0, .slice none 0 0] t14 (⟨some (at0 t84), 1, 1⟩ : Sl) fun t85 =>
 lw18_DboxSure_j4 C t0 t1 t3 t4 t11 t12 t85 t15 t16 K R1) else
 bif (decide ((t74b : Int) = 11)) then (
 ldI .i64 ((at0 t15).add 0) fun t90 =>
 lw18_DboxSure_j3 C t0 t1 t3 t4 t11 t12 t14 t15 t16 (decide ((t90 : Int) = 0)) K R1) else
 lw18_DboxSure_j3 C t0 t1 t3 t4 t11 t12 t14 t15 t16 false K R1)) else
 vdisk_Disk_Down t11 fun t98 =>
 bif (!t98) then (
 vdisk_Disk_Crash t11 0 (
 vdisk_Disk_SyncDir t11 fun t103 =>
 lw18_DboxSure_j5 C t0 t3 t4 t11 t12 t14 t15 K)) else
 lw18_DboxSure_j5 C t0 t3 t4 t11 t12 t14 t15 K) [.slice none 0 0, .int .i64 0]))
def lw18_DboxSure_j1 (C : Cx) (t0 : Int) (t1 : Sl) (t2 : Int) (t3 : Int) (t4 : Sl) (t36 : Bool) (K : Bool → HP) : HP :=
 bif t36 then (
 K true) else
 vdisk_New (⟨none, 0, 0⟩ : Sl) 1048576 fun t37 =>
 bif t37.isNone then (
 K false) else
 dbox_Open C t37 1 t0 fun t43a t43b =>
 bif t43a.isNone then (
 lw18_DboxSure_j2 C t0 t1 t2 t3 t4 t37 t43a true K) else
 lw18_DboxSure_j2 C t0 t1 t2 t3 t4 t37 t43a (!decide ((t43b : Int) = 0)) K
def lw18_DboxSure (C : Cx) (p0 : Int) (p1 : Sl) (p2 : Int) (p3 : Int) (p4 : Sl) (K : Bool → HP) : HP :=
 lw18_awake C fun t23 =>
 bif (!t23) then (
 K false) else
 bif (decide ((30 : Int) < (p1.len : Nat))) then (
 lw18_DboxSure_j1 C p0 p1 p2 p3 p4 true K) else
 bif (decide ((60 : Int) < (p4.len : Nat))) then (
 lw18_DboxSure_j1 C p0 p1 p2 p3 p4 true K) else
 lw18_DboxSure_j1 C p0 p1 p2 p3 p4 (decide ((p0 : Int) < 1)) K
def lw18_DboxSure_run (C : Cx) (xs : List Value) (K : Value → HP) : HP :=
 arity xs 5 <|
 asI .i64 (xs.getD 0 undef) fun p0 =>
 asL (xs.getD 1 undef) fun p1 =>
 asI .i64 (xs.getD 2 undef) fun p2 =>
 asI .i64 (xs.getD 3 undef) fun p3 =>
 asL (xs.getD 4 undef) fun p4 =>
 lw18_DboxSure C p0 p1 p2 p3 p4 (fun r0 => K (.bool r0))
def lw18_left_j2 (t0 : Sl) (t1 : Int) (t5 : Sl) (t6 : Int) (K : Sl → HP) (R1 : List Value → HP) : HP :=
 R1 [.slice t5.a t5.len t5.cap, .int .i64 (w64 (t6 + 1))]
def lw18_left_j1 (t0 : Sl) (t1 : Int) (t5 : Sl) (t6 : Int) (t20 : Bool) (K : Sl → HP) (R1 : List Value → HP) : HP :=
 bif t20 then (
 ixL t0 14 t6 fun t24 =>
 ld_G_api_Rec (t24.add 2) fun t26 =>
 newc #[.int .i64 t26.Kind, .int .i64 t26.User, .int .i64 t26.Seq, .int .i64 t26.Next, .int .i64 t26.Base, .int .i64 t26.Uid, .int .i64 t26.Time, .int .i64 t26.Flags, .int .i64 t26.Body, .int .i64 t26.Size, .int .i64 t26.Origin, .slice t26.Data.a t26.Data.len t26.Data.cap] fun t27 =>
 app 12 112 #[.int .i64 0, .int .i64 0, .int .i64 0, .int .i64 0, .int .i64 0, .int .i64 0, .int .i64 0, .int .i64 0, .int .i64 0, .int .i64 0, .int .i64 0, .slice none 0 0] t5 (⟨some (at0 t27), 1, 1⟩ : Sl) fun t28 =>
 lw18_left_j2 t0 t1 t28 t6 K R1) else
 lw18_left_j2 t0 t1 t5 t6 K R1
def lw18_left (p0 : Sl) (p1 : Int) (K : Sl → HP) : HP :=
 loop (σ := List Value) (fun R1 vs1 =>
 asL (vs1.getD 0 undef) fun t5 =>
 asI .i64 (vs1.getD 1 undef) fun t6 =>
 bif (decide ((t6 : Int) < (p0.len : Nat))) then (
 bif (decide ((p1 : Int) < 2)) then (
 lw18_left_j1 p0 p1 t5 t6 true K R1) else
 nz p1 (
 lw18_left_j1 p0 p1 t5 t6 (!decide ((Int.tmod t6 p1 : Int) = 0)) K R1)) else
 K t5) [.slice none 0 0, .int .i64 0]
def lw18_left_run (xs : List Value) (K : Value → HP) : HP :=
 arity xs 2 <|
 asL (xs.getD 0 undef) fun p0 =>
 asI .i64 (xs.getD 1 undef) fun p1 =>
 lw18_left p0 p1 (fun r0 => K (.slice r0.a r0.len r0.cap))
def dbox_Box_Compact_1 (p0 : G_api_Rec) (K : Bool → HP) : HP :=
 newc #[.int .i64 p0.Kind, .int .i64 p0.User, .int .i64 p0.Seq, .int .i64 p0.Next, .int .i64 p0.Base, .int .i64 p0.Uid, .int .i64 p0.Time, .int .i64 p0.Flags, .int .i64 p0.Body, .int .i64 p0.Size, .int .i64 p0.Origin, .slice p0.Data.a p0.Data.len p0.Data.cap] fun t1 =>
 ld_G_api_Rec (at0 t1) fun t3 =>
 dbox_kept t3 fun t4 =>
 bif (!t4) then (
 K true) else
 ld_G_api_Rec (at0 t1) fun t7 =>
 record_Check t7 fun t8 =>
 K (!decide ((t8 : Int) = 0))
def dbox_Box_Compact_1_run (xs : List Value) (K : Value → HP) : HP :=
 arity xs 1 <|
 as_G_api_Rec (xs.getD 0 undef) fun p0 =>
 dbox_Box_Compact_1 p0 (fun r0 => K (.bool r0))
def slices_IndexFunc_api_Rec_api_Rec (C : Cx) (p0 : Sl) (p1 : FV) (K : Int → HP) : HP :=
 loop (σ := List Value) (fun R1 vs1 =>
 asI .i64 (vs1.getD 0 undef) fun t8 =>
 bif (decide ((t8 : Int) < (p0.len : Nat))) then (
 ixL p0 12 t8 fun t14 =>
 ld_G_api_Rec t14 fun t15 =>
 C.ap p1 [.agg #[.int .i64 t15.Kind, .int .i64 t15.User, .int .i64 t15.Seq, .int .i64 t15.Next, .int .i64 t15.Base, .int .i64 t15.Uid, .int .i64 t15.Time, .int .i64 t15.Flags, .int .i64 t15.Body, .int .i64 t15.Size, .int .i64 t15.Origin, .slice t15.Data.a t15.Data.len t15.Data.cap]] fun t16 =>
 asB t16 fun t16_1 =>
 bif t16_1 then (
 K t8) else
 R1 [.int .i64 (w64 (t8 + 1))]) else
 K (-1)) [.int .i64 0]
def slices_IndexFunc_api_Rec_api_Rec_run (C : Cx) (xs : List Value) (K : Value → HP) : HP :=
 arity xs 2 <|
 asL (xs.getD 0 undef) fun p0 =>
 asF (xs.getD 1 undef) fun p1 =>
 slices_IndexFunc_api_Rec_api_Rec C p0 p1 (fun r0 => K (.int .i64 r0))
def slices_ContainsFunc_api_Rec_api_Rec (C : Cx) (p0 : Sl) (p1 : FV) (K : Bool → HP) : HP :=
 slices_IndexFunc_api_Rec_api_Rec C p0 p1 fun t7 =>
 K (decide ((0 : Int) ≤ t7))
def slices_ContainsFunc_api_Rec_api_Rec_run (C : Cx) (xs : List Value) (K : Value → HP) : HP :=
 arity xs 2 <|
 asL (xs.getD 0 undef) fun p0 =>
 asF (xs.getD 1 undef) fun p1 =>
 slices_ContainsFunc_api_Rec_api_Rec C p0 p1 (fun r0 => K (.bool r0))
def safe_Swap_1 (p0 : Addr) (p1 : Addr) (K : Int → HP) : HP :=
 ldP p0 fun t3 =>
 ldS p1 fun t4 =>
 vdisk_Disk_Create t3 t4 fun t5 =>
 K t5
def safe_Swap_1_run (xs : List Value) (K : Value → HP) : HP :=
 arity xs 2 <|
 asA (xs.getD 0 undef) fun p0 =>
 asA (xs.getD 1 undef) fun p1 =>
 safe_Swap_1 p0 p1 (fun r0 => K (.int .i64 r0))
def safe_Swap_2 (C : Cx) (p0 : Addr) (p1 : Addr) (p2 : Addr) (K : Int → HP) : HP :=
 ldP p0 fun t4 =>
 ldS p1 fun t5 =>
 ldL p2 fun t6 =>
 safe_Append C t4 t5 t6 fun t7 =>
 K t7
def safe_Swap_2_run (C : Cx) (xs : List Value) (K : Value → HP) : HP :=
 arity xs 3 <|
 asA (xs.getD 0 undef) fun p0 =>
 asA (xs.getD 1 undef) fun p1 =>
 asA (xs.getD 2 undef) fun p2 =>
 safe_Swap_2 C p0 p1 p2 (fun r0 => K (.int .i64 r0))
def vdisk_Disk_Rename (p0 : Option Addr) (p1 : ByteArray) (p2 : ByteArray) (K : Int → HP) : HP :=
 vdisk_Disk_change p0 fun t11 =>
 bif (!decide ((t11 : Int) = 0)) then (
 K t11) else
 vdisk_named p2 fun t16 =>
 bif (!t16) then (
 K 3) else
 vdisk_Disk_find p0 p1 fun t21a t21b =>
 bif (decide ((t21b : Int) = 0)) then (
 vdisk_Disk_turn p0 (⟨t21a, p2, false⟩ : G_vdisk_move) (
 K t21b)) else
 K t21b
def vdisk_Disk_Rename_run (xs : List Value) (K : Value → HP) : HP :=
 arity xs 3 <|
 asP (xs.getD 0 undef) fun p0 =>
 asS (xs.getD 1 undef) fun p1 =>
 asS (xs.getD 2 undef) fun p2 =>
 vdisk_Disk_Rename p0 p1 p2 (fun r0 => K (.int .i64 r0))
def safe_Swap_3 (p0 : Addr) (p1 : Addr) (p2 : Addr) (K : Int → HP) : HP :=
 ldP p0 fun t4 =>
 ldS p1 fun t5 =>
 ldS p2 fun t6 =>
 vdisk_Disk_Rename t4 t5 t6 fun t7 =>
 K t7
def safe_Swap_3_run (xs : List Value) (K : Value → HP) : HP :=
 arity xs 3 <|
 asA (xs.getD 0 undef) fun p0 =>
 asA (xs.getD 1 undef) fun p1 =>
 asA (xs.getD 2 undef) fun p2 =>
 safe_Swap_3 p0 p1 p2 (fun r0 => K (.int .i64 r0))
def safe_Swap_4 (C : Cx) (p0 : Addr) (K : Int → HP) : HP :=
 ldP p0 fun t2 =>
 clo C (fun xs K => vdisk_Disk_SyncDir_run ([.pointer t2] ++ xs ++ []) K) fun t3 =>
 safe_again C t3 fun t4 =>
 K t4
def safe_Swap_4_run (C : Cx) (xs : List Value) (K : Value → HP) : HP :=
 arity xs 1 <|
 asA (xs.getD 0 undef) fun p0 =>
 safe_Swap_4 C p0 (fun r0 => K (.int .i64 r0))
def safe_Swap_j2 (C : Cx) (t3 : Nat) (t7 : Nat) (t9 : Int) (t40 : Bool) (K : Int → HP) : HP :=
 bif t40 then (
 ldP (at0 t3) fun t41 =>
 ldS (at0 t7) fun t42 =>
 safe_unlink C t41 t42 (
 K t9)) else
 K t9
def safe_Swap_j1 (C : Cx) (t3 : Nat) (t4 : Nat) (t5 : Nat) (t7 : Nat) (K : Int → HP) : HP :=
 clo C (fun xs K => safe_Swap_1_run ([] ++ xs ++ [.pointer (some (at0 t3)), .pointer (some (at0 t7))]) K) fun t24 =>
 clo C (fun xs K => safe_Swap_2_run C ([] ++ xs ++ [.pointer (some (at0 t3)), .pointer (some (at0 t7)), .pointer (some (at0 t5))]) K) fun t25 =>
 clo C (fun xs K => safe_Swap_3_run ([] ++ xs ++ [.pointer (some (at0 t3)), .pointer (some (at0 t7)), .pointer (some (at0 t4))]) K) fun t26 =>
 clo C (fun xs K => safe_Swap_4_run C ([] ++ xs ++ [.pointer (some (at0 t3))]) K) fun t27 =>
 newc #[t24.v, t25.v, t26.v, t27.v] fun t28 =>
 safe_steps C (⟨some (at0 t28), 4, 4⟩ : Sl) fun t29 =>
 bif (!decide ((t29 : Int) = 0)) then (
 bif (!decide ((t29 : Int) = 11)) then (
 ldP (at0 t3) fun t37 =>
 ldS (at0 t7) fun t38 =>
 safe_Has t37 t38 fun t39 =>
 safe_Swap_j2 C t3 t7 t29 t39 K) else
 safe_Swap_j2 C t3 t7 t29 false K) else
 safe_Swap_j2 C t3 t7 t29 false K
def safe_Swap (C : Cx) (p0 : Option Addr) (p1 : ByteArray) (p2 : Sl) (K : Int → HP) : HP :=
 newc #[.pointer p0] fun t3 =>
 newc #[.string p1] fun t4 =>
 newc #[.slice p2.a p2.len p2.cap] fun t5 =>
 ldS (at0 t4) fun t10 =>
 bif (decide ((30 : Int) < (t10.size : Nat))) then (
 K 3) else
 ldS (at0 t4) fun t13 =>
 cat t13 (⟨#[46, 110]⟩ : ByteArray) fun t14 =>
 newc #[.string (⟨#[]⟩ : ByteArray)] fun t7 =>
 sts (at0 t7) 0 [.string t14] (
 ldP (at0 t3) fun t15 =>
 ldS (at0 t7) fun t16 =>
 safe_Has t15 t16 fun t17 =>
 bif t17 then (
 ldP (at0 t3) fun t18 =>
 ldS (at0 t7) fun t19 =>
 vdisk_Disk_Unlink t18 t19 fun t20 =>
 bif (!decide ((t20 : Int) = 0)) then (
 K t20) else
 safe_Swap_j1 C t3 t4 t5 t7 K) else
 safe_Swap_j1 C t3 t4 t5 t7 K)
def safe_Swap_run (C : Cx) (xs : List Value) (K : Value → HP) : HP :=
 arity xs 3 <|
 asP (xs.getD 0 undef) fun p0 =>
 asS (xs.getD 1 undef) fun p1 =>
 asL (xs.getD 2 undef) fun p2 =>
 safe_Swap C p0 p1 p2 (fun r0 => K (.int .i64 r0))
def dbox_Box_Compact_j1 (C : Cx) (t0 : Option Addr) (t1 : Sl) (t5 : Int) (t26 : Bool) (K : Int → HP) : HP :=
 bif t26 then (
 K 1) else
 newc #[.int .i64 0, .int .i64 0, .int .i64 0, .slice none 0 0] fun t6 =>
 sts (at0 t6) 0 [.int .i64 t5, .int .i64 0, .int .i64 0, .slice none 0 0] (
 dbox_Box_head t0 t5 t5 fun t32 =>
 newc #[.int .i64 t32.Kind, .int .i64 t32.User, .int .i64 t32.Seq, .int .i64 t32.Next, .int .i64 t32.Base, .int .i64 t32.Uid, .int .i64 t32.Time, .int .i64 t32.Flags, .int .i64 t32.Body, .int .i64 t32.Size, .int .i64 t32.Origin, .slice t32.Data.a t32.Data.len t32.Data.cap] fun t33 =>
 app 12 112 #[.int .i64 0, .int .i64 0, .int .i64 0, .int .i64 0, .int .i64 0, .int .i64 0, .int .i64 0, .int .i64 0, .int .i64 0, .int .i64 0, .int .i64 0, .slice none 0 0] (⟨some (at0 t33), 1, 1⟩ : Sl) t1 fun t35 =>
 loop (σ := List Value) (fun R1 vs1 =>
 asL (vs1.getD 0 undef) fun t7 =>
 asI .i64 (vs1.getD 1 undef) fun t37 =>
 bif (decide ((t37 : Int) < (t35.len : Nat))) then (
 ixL t35 12 t37 fun t39 =>
 ld_G_api_Rec t39 fun t40 =>
 newc #[.int .i64 0, .int .i64 0, .int .i64 0, .int .i64 0, .int .i64 0, .int .i64 0, .int .i64 0, .int .i64 0, .int .i64 0, .int .i64 0, .int .i64 0, .slice none 0 0] fun t9 =>
 sts (at0 t9) 0 [.int .i64 t40.Kind, .int .i64 t40.User, .int .i64 t40.Seq, .int .i64 t40.Next, .int .i64 t40.Base, .int .i64 t40.Uid, .int .i64 t40.Time, .int .i64 t40.Flags, .int .i64 t40.Body, .int .i64 t40.Size, .int .i64 t40.Origin, .slice t40.Data.a t40.Data.len t40.Data.cap] (
 ld_G_api_Rec (at0 t9) fun t42 =>
 record_Frame t42 fun t43a t43b =>
 bif (!decide ((t43b : Int) = 0)) then (
 K t43b) else
 ldL ((at0 t6).add 3) fun t50 =>
 ld_G_api_Rec (at0 t9) fun t55 =>
 newc #[.int .i64 (t7.len : Nat), .int .i64 (t43a.len : Nat), .int .i64 t55.Kind, .int .i64 t55.User, .int .i64 t55.Seq, .int .i64 t55.Next, .int .i64 t55.Base, .int .i64 t55.Uid, .int .i64 t55.Time, .int .i64 t55.Flags, .int .i64 t55.Body, .int .i64 t55.Size, .int .i64 t55.Origin, .slice t55.Data.a t55.Data.len t55.Data.cap] fun t57 =>
 app 14 128 #[.int .i64 0, .int .i64 0, .int .i64 0, .int .i64 0, .int .i64 0, .int .i64 0, .int .i64 0, .int .i64 0, .int .i64 0, .int .i64 0, .int .i64 0, .int .i64 0, .int .i64 0, .slice none 0 0] t50 (⟨some (at0 t57), 1, 1⟩ : Sl) fun t58 =>
 sts ((at0 t6).add 3) 0 [.slice t58.a t58.len t58.cap] (
 app 1 1 #[.int .u8 0] t7 t43a fun t62 =>
 bif (decide ((4194304 : Int) < (t62.len : Nat))) then (
 K 4) else
 R1 [.slice t62.a t62.len t62.cap, .int .i64 (w64 (t37 + 1))]))) else
 nn t0 fun t68 =>
 ldP (t68.add 0) fun t70 =>
 nn t0 fun t72 =>
 ldI .i64 (t72.add 1) fun t74 =>
 dbox_Name t74 t5 fun t76 =>
 held (ldP (t68.add 0) fun t70_1 =>
 fun _ => (Value.pointer t70_1) = (Value.pointer t70)) (
 safe_Swap C t70 t76 t7 fun t78 =>
 bif (!decide ((t78 : Int) = 0)) then (
 K t78) else
 sts ((at0 t6).add 1) 0 [.int .i64 (t7.len : Nat)] (
 nn t0 fun t86 =>
 ldL (t86.add 4) fun t88 =>
 ld_G_dbox_container (at0 t6) fun t90 =>
 newc #[.int .i64 t90.seq, .int .i64 t90.size, .int .i64 t90.broken, .slice t90.l.a t90.l.len t90.l.cap] fun t91 =>
 nn t0 fun t92 =>
 sts (t92.add 4) 0 [.slice (some (at0 t91)) 1 1] (
 loop (σ := List Value) (fun R2 vs2 =>
 asI .i64 (vs2.getD 0 undef) fun t96 =>
 bif (decide ((t96 : Int) < (t1.len : Nat))) then (
 ixL t1 12 t96 fun t98 =>
 ld_G_api_Rec t98 fun t99 =>
 newc #[.int .i64 0, .int .i64 0, .int .i64 0, .int .i64 0, .int .i64 0, .int .i64 0, .int .i64 0, .int .i64 0, .int .i64 0, .int .i64 0, .int .i64 0, .slice none 0 0] fun t15 =>
 sts (at0 t15) 0 [.int .i64 t99.Kind, .int .i64 t99.User, .int .i64 t99.Seq, .int .i64 t99.Next, .int .i64 t99.Base, .int .i64 t99.Uid, .int .i64 t99.Time, .int .i64 t99.Flags, .int .i64 t99.Body, .int .i64 t99.Size, .int .i64 t99.Origin, .slice t99.Data.a t99.Data.len t99.Data.cap] (
 nn t0 fun t102 =>
 ldI .i64 (t102.add 3) fun t104 =>
 ld_G_api_Rec (at0 t15) fun t105 =>
 dbox_after t105 fun t106 =>
 held (ldI .i64 (t102.add 3) fun t104_1 =>
 fun _ => (Value.int .i64 t104_1) = (Value.int .i64 t104)) (
 nn t0 fun t108 =>
 sts (t108.add 3) 0 [.int .i64 (if (t106 : Int) > t104 then t106 else t104)] (
 R2 [.int .i64 (w64 (t96 + 1))])))) else
 loop (σ := List Value) (fun R3 vs3 =>
 asI .i64 (vs3.getD 0 undef) fun t113 =>
 bif (decide ((t113 : Int) < (t88.len : Nat))) then (
 ixL t88 4 t113 fun t115 =>
 ld_G_dbox_container t115 fun t116 =>
 newc #[.int .i64 0, .int .i64 0, .int .i64 0, .slice none 0 0] fun t17 =>
 sts (at0 t17) 0 [.int .i64 t116.seq, .int .i64 t116.size, .int .i64 t116.broken, .slice t116.l.a t116.l.len t116.l.cap] (
 nn t0 fun t118 =>
 ldP (t118.add 0) fun t120 =>
 nn t0 fun t122 =>
 ldI .i64 (t122.add 1) fun t124 =>
 ldI .i64 ((at0 t17).add 0) fun t126 =>
 dbox_Name t124 t126 fun t127 =>
 held (ldP (t118.add 0) fun t120_1 =>
 fun _ => (Value.pointer t120_1) = (Value.pointer t120)) (
 safe_Drop C t120 t127 fun t128 =>
 bif (!decide ((t128 : Int) = 0)) then (
 K 0) else
 R3 [.int .i64 (w64 (t113 + 1))]))) else
 K 0) [.int .i64 0]) [.int .i64 0])))) [.slice none 0 0, .int .i64 0])
def dbox_Box_Compact (C : Cx) (p0 : Option Addr) (p1 : Sl) (K : Int → HP) : HP :=
 dbox_Box_Last p0 fun t19 =>
 bif (decide ((99999999 : Int) < (w64 (t19 + 1)))) then (
 dbox_Box_Compact_j1 C p0 p1 (w64 (t19 + 1)) true K) else
 clo C (fun xs K => dbox_Box_Compact_1_run xs K) fun t25f =>
 slices_ContainsFunc_api_Rec_api_Rec C p1 t25f fun t25 =>
 dbox_Box_Compact_j1 C p0 p1 (w64 (t19 + 1)) t25 K
def dbox_Box_Compact_run (C : Cx) (xs : List Value) (K : Value → HP) : HP :=
 arity xs 2 <|
 asP (xs.getD 0 undef) fun p0 =>
 asL (xs.getD 1 undef) fun p1 =>
 dbox_Box_Compact C p0 p1 (fun r0 => K (.int .i64 r0))
def lw18_DboxCompacts_j5 (C : Cx) (t17 : Sl) (t18 : Sl) (t20 : Int) (t23 : Sl) (t24 : Bool) (t25 : Bool) (t26 : Int) (K : Bool → HP) (R2 : List Value → HP) : HP :=
 R2 [.bool t24, .bool t25, .int .i64 (w64 (t26 + 1))]
def lw18_DboxCompacts_j4 (C : Cx) (t17 : Sl) (t18 : Sl) (t20 : Int) (t23 : Sl) (t24 : Bool) (t25 : Bool) (t26 : Int) (K : Bool → HP) (R2 : List Value → HP) : HP :=
 bif t25 then (
 ixL t23 12 t26 fun t153 =>
 ld_G_api_Rec t153 fun t154 =>
 ixL t17 14 t26 fun t157 =>
 ld_G_api_Rec (t157.add 2) fun t159 =>
 rf14_Same t154 t159 fun t160 =>
 lw18_DboxCompacts_j5 C t17 t18 t20 t23 t24 t160 t26 K R2) else
 lw18_DboxCompacts_j5 C t17 t18 t20 t23 t24 false t26 K R2
def lw18_DboxCompacts_j3 (C : Cx) (t17 : Sl) (t18 : Sl) (t20 : Int) (t21 : Option Addr) (t117 : Bool) (K : Bool → HP) : HP :=
 bif t117 then (
 K false) else
 dbox_Box_Places t21 fun t119 =>
 lw18_left t119 0 fun t120 =>
 loop (σ := List Value) (fun R2 vs2 =>
 asB (vs2.getD 0 undef) fun t24 =>
 asB (vs2.getD 1 undef) fun t25 =>
 asI .i64 (vs2.getD 2 undef) fun t26 =>
 bif (decide ((t26 : Int) < (t120.len : Nat))) then (
 bif t24 then (
 ixL t120 12 t26 fun t141 =>
 ld_G_api_Rec t141 fun t142 =>
 ixL t18 12 t26 fun t145 =>
 ld_G_api_Rec t145 fun t146 =>
 rf14_Same t142 t146 fun t147 =>
 lw18_DboxCompacts_j4 C t17 t18 t20 t120 t147 t25 t26 K R2) else
 lw18_DboxCompacts_j4 C t17 t18 t20 t120 false t25 t26 K R2) else
 bif t24 then (
 K true) else
 bif t25 then (
 K (!decide ((t20 : Int) = 0))) else
 K false) [.bool (decide (((t120.len : Nat) : Int) = (t18.len : Nat))), .bool (decide (((t120.len : Nat) : Int) = (t17.len : Nat))), .int .i64 0]
def lw18_DboxCompacts_j2 (C : Cx) (t0 : Int) (t4 : Int) (t5 : Sl) (t13 : Option Addr) (t17 : Sl) (t18 : Sl) (t19 : Int) (t20 : Int) (K : Bool → HP) : HP :=
 vdisk_Disk_Boot t13 t4 t5 fun t93 =>
 bif (!decide ((t93 : Int) = 0)) then (
 K false) else
 dbox_Open C t13 1 t0 fun t98a t98b =>
 bif t98a.isNone then (
 lw18_DboxCompacts_j3 C t17 t18 t20 t98a true K) else
 bif (!decide ((t98b : Int) = 0)) then (
 lw18_DboxCompacts_j3 C t17 t18 t20 t98a true K) else
 dbox_Box_Next t98a fun t109 =>
 bif (decide ((t109 : Int) < t19)) then (
 lw18_DboxCompacts_j3 C t17 t18 t20 t98a true K) else
 dbox_Box_Broken t98a fun t115 =>
 lw18_DboxCompacts_j3 C t17 t18 t20 t98a (!decide ((t115 : Int) = 0)) K
def lw18_DboxCompacts_j1 (C : Cx) (t0 : Int) (t1 : Sl) (t2 : Int) (t3 : Int) (t4 : Int) (t5 : Sl) (t40 : Bool) (K : Bool → HP) : HP :=
 bif t40 then (
 K true) else
 vdisk_New (⟨none, 0, 0⟩ : Sl) 1048576 fun t41 =>
 bif t41.isNone then (
 K false) else
 dbox_Open C t41 1 t0 fun t47a t47b =>
 bif t47a.isNone then (
 K false) else
 loop (σ := List Value) (fun R1 vs1 =>
 asI .i64 (vs1.getD 0 undef) fun t16 =>
 bif (decide ((t16 : Int) < (t1.len : Nat))) then (
 ixL t1 12 t16 fun t60 =>
 ld_G_api_Rec t60 fun t61 =>
 rf14_Light t61 fun t62 =>
 bif (!t62) then (
 K true) else
 ixL t1 12 t16 fun t67 =>
 ld_G_api_Rec t67 fun t68 =>
 dbox_Box_Put C t47a t68 fun t69a t69b =>
 R1 [.int .i64 (w64 (t16 + 1))]) else
 dbox_Box_Places t47a fun t71 =>
 lw18_left t71 t2 fun t74 =>
 dbox_Box_Next t47a fun t76 =>
 vdisk_Disk_Crash t41 t3 (
 dbox_Box_Compact C t47a t74 fun t82 =>
 vdisk_Disk_Down t41 fun t84 =>
 bif (!t84) then (
 vdisk_Disk_Crash t41 0 (
 vdisk_Disk_SyncDir t41 fun t89 =>
 lw18_DboxCompacts_j2 C t0 t4 t5 t41 t71 t74 t76 t82 K)) else
 lw18_DboxCompacts_j2 C t0 t4 t5 t41 t71 t74 t76 t82 K)) [.int .i64 0]
def lw18_DboxCompacts (C : Cx) (p0 : Int) (p1 : Sl) (p2 : Int) (p3 : Int) (p4 : Int) (p5 : Sl) (K : Bool → HP) : HP :=
 lw18_awake C fun t27 =>
 bif (!t27) then (
 K false) else
 bif (decide ((30 : Int) < (p1.len : Nat))) then (
 lw18_DboxCompacts_j1 C p0 p1 p2 p3 p4 p5 true K) else
 bif (decide ((60 : Int) < (p5.len : Nat))) then (
 lw18_DboxCompacts_j1 C p0 p1 p2 p3 p4 p5 true K) else
 lw18_DboxCompacts_j1 C p0 p1 p2 p3 p4 p5 (decide ((p0 : Int) < 1)) K
end Go.Ph.S
end
section
set_option linter.all false
namespace Go.Ph.S
theorem as_G_api_Place_inv {v : Value} {K : G_api_Place → HP} {H : Heap} (h : as_G_api_Place v K H) : ∃ r : G_api_Place, v = r.v ∧ K r H := by
  obtain ⟨cs, rfl, hl, h⟩ := asAgg_inv h
  obtain ⟨x0, e0, h⟩ := asI_inv h
  obtain ⟨x1, e1, h⟩ := asI_inv h
  obtain ⟨x2, e2, h⟩ := asI_inv h
  obtain ⟨x3, e3, h⟩ := asI_inv h
  obtain ⟨x4, e4, h⟩ := asI_inv h
  obtain ⟨x5, e5, h⟩ := asI_inv h
  obtain ⟨x6, e6, h⟩ := asI_inv h
  obtain ⟨x7, e7, h⟩ := asI_inv h
  obtain ⟨x8, e8, h⟩ := asI_inv h
  obtain ⟨x9, e9, h⟩ := asI_inv h
  obtain ⟨x10, e10, h⟩ := asI_inv h
  obtain ⟨x11, e11, h⟩ := asI_inv h
  obtain ⟨x12, e12, h⟩ := asI_inv h
  obtain ⟨x13, e13, h⟩ := asL_inv h
  have ea := list_eq_getD cs
  rw [hl] at ea
  refine ⟨⟨x0, x1, x2, x3, x4, x5, x6, x7, x8, x9, x10, x11, x12, x13⟩, ?_, h⟩
  have eb : cs = [cs.getD 0 undef, cs.getD 1 undef, cs.getD 2 undef, cs.getD 3 undef, cs.getD 4 undef, cs.getD 5 undef, cs.getD 6 undef, cs.getD 7 undef, cs.getD 8 undef, cs.getD 9 undef, cs.getD 10 undef, cs.getD 11 undef, cs.getD 12 undef, cs.getD 13 undef] := ea
  rw [e0, e1, e2, e3, e4, e5, e6, e7, e8, e9, e10, e11, e12, e13] at eb
  rw [eb]
theorem as_G_api_Rec_inv {v : Value} {K : G_api_Rec → HP} {H : Heap} (h : as_G_api_Rec v K H) : ∃ r : G_api_Rec, v = r.v ∧ K r H := by
  obtain ⟨cs, rfl, hl, h⟩ := asAgg_inv h
  obtain ⟨x0, e0, h⟩ := asI_inv h
  obtain ⟨x1, e1, h⟩ := asI_inv h
  obtain ⟨x2, e2, h⟩ := asI_inv h
  obtain ⟨x3, e3, h⟩ := asI_inv h
  obtain ⟨x4, e4, h⟩ := asI_inv h
  obtain ⟨x5, e5, h⟩ := asI_inv h
  obtain ⟨x6, e6, h⟩ := asI_inv h
  obtain ⟨x7, e7, h⟩ := asI_inv h
  obtain ⟨x8, e8, h⟩ := asI_inv h
  obtain ⟨x9, e9, h⟩ := asI_inv h
  obtain ⟨x10, e10, h⟩ := asI_inv h
  obtain ⟨x11, e11, h⟩ := asL_inv h
  have ea := list_eq_getD cs
  rw [hl] at ea
  refine ⟨⟨x0, x1, x2, x3, x4, x5, x6, x7, x8, x9, x10, x11⟩, ?_, h⟩
  have eb : cs = [cs.getD 0 undef, cs.getD 1 undef, cs.getD 2 undef, cs.getD 3 undef, cs.getD 4 undef, cs.getD 5 undef, cs.getD 6 undef, cs.getD 7 undef, cs.getD 8 undef, cs.getD 9 undef, cs.getD 10 undef, cs.getD 11 undef] := ea
  rw [e0, e1, e2, e3, e4, e5, e6, e7, e8, e9, e10, e11] at eb
  rw [eb]
theorem as_G_rf04_Entry_inv {v : Value} {K : G_rf04_Entry → HP} {H : Heap} (h : as_G_rf04_Entry v K H) : ∃ r : G_rf04_Entry, v = r.v ∧ K r H := by
  obtain ⟨cs, rfl, hl, h⟩ := asAgg_inv h
  obtain ⟨x0, e0, h⟩ := asS_inv h
  obtain ⟨x1, e1, h⟩ := asI_inv h
  have ea := list_eq_getD cs
  rw [hl] at ea
  refine ⟨⟨x0, x1⟩, ?_, h⟩
  have eb : cs = [cs.getD 0 undef, cs.getD 1 undef] := ea
  rw [e0, e1] at eb
  rw [eb]
theorem as_G_rf04_Turn_inv {v : Value} {K : G_rf04_Turn → HP} {H : Heap} (h : as_G_rf04_Turn v K H) : ∃ r : G_rf04_Turn, v = r.v ∧ K r H := by
  obtain ⟨cs, rfl, hl, h⟩ := asAgg_inv h
  obtain ⟨x0, e0, h⟩ := asS_inv h
  obtain ⟨x1, e1, h⟩ := asS_inv h
  obtain ⟨x2, e2, h⟩ := asI_inv h
  have ea := list_eq_getD cs
  rw [hl] at ea
  refine ⟨⟨x0, x1, x2⟩, ?_, h⟩
  have eb : cs = [cs.getD 0 undef, cs.getD 1 undef, cs.getD 2 undef] := ea
  rw [e0, e1, e2] at eb
  rw [eb]
theorem as_G_vdisk_move_inv {v : Value} {K : G_vdisk_move → HP} {H : Heap} (h : as_G_vdisk_move v K H) : ∃ r : G_vdisk_move, v = r.v ∧ K r H := by
  obtain ⟨cs, rfl, hl, h⟩ := asAgg_inv h
  obtain ⟨x0, e0, h⟩ := asI_inv h
  obtain ⟨x1, e1, h⟩ := asS_inv h
  obtain ⟨x2, e2, h⟩ := asB_inv h
  have ea := list_eq_getD cs
  rw [hl] at ea
  refine ⟨⟨x0, x1, x2⟩, ?_, h⟩
  have eb : cs = [cs.getD 0 undef, cs.getD 1 undef, cs.getD 2 undef] := ea
  rw [e0, e1, e2] at eb
  rw [eb]
theorem as_G_vdisk_patch_inv {v : Value} {K : G_vdisk_patch → HP} {H : Heap} (h : as_G_vdisk_patch v K H) : ∃ r : G_vdisk_patch, v = r.v ∧ K r H := by
  obtain ⟨cs, rfl, hl, h⟩ := asAgg_inv h
  obtain ⟨x0, e0, h⟩ := asI_inv h
  obtain ⟨x1, e1, h⟩ := asS_inv h
  have ea := list_eq_getD cs
  rw [hl] at ea
  refine ⟨⟨x0, x1⟩, ?_, h⟩
  have eb : cs = [cs.getD 0 undef, cs.getD 1 undef] := ea
  rw [e0, e1] at eb
  rw [eb]
end Go.Ph.S
end
