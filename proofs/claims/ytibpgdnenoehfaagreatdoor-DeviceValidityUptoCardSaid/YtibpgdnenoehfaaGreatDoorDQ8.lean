/- Parts of a proof, printed short. No condition. -/
import Derived.Test.YtibpgdnenoehfaaGreatDoorDQ7
set_option maxRecDepth 100000
set_option linter.all false
namespace Go.AM
noncomputable section
open Go
open Go.Proofs.Tryz
section
set_option maxRecDepth 1000000
open Go.Proofs
def t0:Zb:=⟨[⟨⟨#[114]⟩,0,false,false,⟨#[]⟩⟩],[],[⟨⟨#[97]⟩,0,⟨#[122]⟩,⟨167772160,24⟩,false⟩,⟨⟨#[98]⟩,0,⟨#[122]⟩,⟨167772416,24⟩,false⟩],[],0⟩
noncomputable def hk1:Hk prog glob:=λf ps H=>bif Nat.beq f 208 then hkB (k:=.u16) (λl=>@Z5g l) ps H else bif Nat.beq f 134 then hkB (k:=.u16) (λl=>@Z2x l) ps H else
 match ps with
 |.agg _::_=>bif Nat.beq f 92 then some (.pu func92 (v:=.bool true) ((@Zll t0).run true kR))else bif Nat.beq f 115 then some (.pu func115 (v:=.bool true) ((@Zs6 t0).run true kR))else none
 |_=>none
def xH:Hx:=λn i=>bif Nat.beq n 119&&Nat.beq i 1 then some (.e 30 27 (.a [] [27]) (.e 30 23 (.a [] [27]) (.e 30 15 (.a [] [27]) (.e 30 11 (.a [] [27]) (.e 30 7 (.a [(26,27)] [27]) (.e 30 3 (.a [(26,27)] [27]) (.a [(25,26),(26,27)] [])))))))else bif Nat.beq n 66&&Nat.beq i 5 then some (.e 31 27 (.a [] []) (.a [] []))else none
noncomputable def xX (hk:Hk prog glob):XE prog glob:=xE prog glob hk xH 200
def xn:PV:=.sc (.slice none 0 0)
def xv (b:Bool):PV:=.sc (.bool b)
def xu8 (n:Int):PV:=.sc (.int .u8 n)
def xu16 (n:Int):PV:=.sc (.int .u16 n)
def xu32 (n:Int):PV:=.sc (.int .u32 n)
def xi64 (n:Int):PV:=.sc (.int .i64 n)
def xb (t:Nat) (l:List Int) (b:Bool):Blk:=.buf 1 t (l.map λn=>[xu8 n]) b
def Y1:List Yy:=[[xu32 0,xu32 4294967295,xu32 0,xu32 4294967295,xu32 0,xu32 255,xu32 0,xu32 65535,xu32 0,xu32 65535,xv true]]
def Y24:List Yy:=[[.sc (.string (ByteArray.mk #[114])),xi64 0,xv false,xv false,.sc (.string (ByteArray.mk #[]))]]
def Y13:List PV:=[.sc (.string (ByteArray.mk #[97])),xi64 0,.sc (.string (ByteArray.mk #[122])),xu32 167772160,xi64 24,xv false]
def Y14:List PV:=[.sc (.string (ByteArray.mk #[98])),xi64 0,.sc (.string (ByteArray.mk #[122])),xu32 167772416,xi64 24,xv false]
def Y12:List Yy:=[[xi64 0,.sl 11 Y1,.sl 11 Y1,xn,xn,xn],[xi64 1,.sl 11 Y1,.sl 11 Y1,xn,xn,xn]]
def Y2:List PV:=[.sl 5 Y24,xn,.sl 6 [Y13,Y14],xn,xi64 0,xn,xn,.sl 1 [[.sl 6 Y12]],.own 13 1,.own 17 1]
def Y3:Blk:=.cells [.sl 5 Y24,xn,.sl 6 [Y13,Y14],xn,xi64 0]
def Y4:Blk:=.cells [xu32 167772161,xu32 167772417,xu8 6,xu16 9,xu16 80]
def Y37:Blk:=.cells [xn,xn]
def Y25:List PV:=[xu32 167772160,xi64 24,xv true,xi64 0]
def Y47:Blk:=.buf 4 93 [Y25] false
def Y27:Blk:=.cells [xu32 167772416,xi64 24,xv true,xi64 1]
def Y11:List Yy:=[Y25,[xu32 167772416,xi64 24,xv true,xi64 1]]
def Y40:Blk:=.buf 4 93 Y11 true
def Y33:Blk:=.buf 1 88 [[.sl 4 Y11]] false
def Y34:Blk:=.buf 1 3 [[xi64 (-1)]] true
def Y29:Blk:=.buf 1 22 [[.sl 1 [[xi64 (-1)]]]] false
def Y45:Blk:=.cells Y2
def Y19:Blk:=.map [(0,.agg #[.int .u32 167772161,.int .u32 167772417,.int .u8 6,.int .u16 9,.int .u16 80],.sc (.agg #[.int .u32 167772161,.int .u32 167772417,.int .u8 6,.int .u16 9,.int .u16 80,.int .u32 167772161,.int .u32 167772417,.int .u8 6,.int .u16 9,.int .u16 80,.int .u32 167772161,.int .u32 167772417,.int .u8 6,.int .u16 9,.int .u16 80,.int .i64 0,.int .i64 1,.bool false,.string (ByteArray.mk #[]),.int .i64 1,.int .i64 33]))] 1
def Y48:Blk:=.cells [xi64 64,.mp 21]
def Y20:Blk:=.far [.own 25 1,xn,.own 26 2,xn,xi64 0,xn,xn,.own 37 1,.own 39 1,.own 41 1]
def Y50:Blk:=.buf 5 132 Y24 false
def Y46:Blk:=.buf 6 136 [Y13,Y14] false
def Y42:Blk:=.cells [.sl 6 Y12]
def Y53:Blk:=.far [.own 33 2]
def Y28:Blk:=.cells [xi64 0,.sl 11 Y1,.sl 11 Y1,xn,xn,xn]
def Y31:Blk:=.buf 11 164 Y1 true
def Y52:Blk:=.buf 6 87 Y12 true
def Y35:Blk:=.cells [xi64 1,.sl 11 Y1,.sl 11 Y1,xn,xn,xn]
def Y44:Blk:=.buf 1 71 [[.sl 6 Y12]] false
def Y26:Blk:=.cells [.own 25 1,xn,.own 26 2,xn,xi64 0,xn,xn,.own 37 1,.own 39 1,.own 41 1,xi64 0,.ptr 22 0]
def Y9:Blk:=.cells [xu32 167772161,xu32 167772417,xu8 6,xu16 9,xu16 80,xi64 64,xi64 2,xn]
def Y8:Blk:=xb 5 [69,0,0,40,0,0,0,0,64,6,101,207,10,0,0,1,10,0,1,1,0,9,0,80,0,0,0,0,0,0,0,0,80,2,0,0,154,136,0,0] false
def Y23:Blk:=.cells [xu32 167772417,xu32 167772161,xu8 6,xu16 80,xu16 9,xi64 9,xi64 16,xn]
def Y22:Blk:=.cells [xu32 167772417,xu32 167772161,xu8 6,xu16 80,xu16 9]
def Y16:Blk:=xb 5 [69,0,0,40,0,0,0,0,9,6,156,207,10,0,1,1,10,0,0,1,0,80,0,9,0,0,0,0,0,0,0,0,80,16,0,0,154,122,0,0] false
def Y15:List PV:=[xi64 0,xi64 (-1),xi64 1,xi64 (-1),.sc (.string (ByteArray.mk #[])),xv false,.own 85 40]
def Y32:Blk:=.far [.ptr 42 0,xi64 (-1),.sc (.string (ByteArray.mk #[])),xv false,.own 85 40,xi64 3,xu32 167772161,xu32 167772417,xu8 6,xu16 9,xu16 80,xi64 2,xv true]
def Y38:Blk:=.cells [.own 25 1,xn,.own 26 2,xn,xi64 0]
def Y21:Blk:=.cells [xu32 0,xu32 0,xu8 0,xu16 0,xu16 0,xu32 0,xu32 0,xu8 0,xu16 0,xu16 0,xu32 0,xu32 0,xu8 0,xu16 0,xu16 0,xi64 0,xi64 0,xv false,.sc (.string (ByteArray.mk #[])),xi64 0,xi64 0]
def Y18:List PV:=[xi64 0,.own 66 1,.own 67 1,xn,xn,xn]
def Y51:Blk:=.far Y18
def Y39:Blk:=.buf 11 164 Y1 false
def Y49:Blk:=.cells [xi64 2,xi64 (-1),xi64 (-1),xi64 0,.sc (.string (ByteArray.mk #[])),xv false,xn]
def Y17:Blk:=.cells [xi64 0,xi64 0,xi64 0,xi64 0,.sc (.string (ByteArray.mk #[])),xv false,xn]
def Y36:Blk:=.cells [xu32 167772161,xu32 167772417,xu8 6,xu16 9,xu16 80,xu32 167772161,xu32 167772417,xu8 6,xu16 9,xu16 80,xu32 167772161,xu32 167772417,xu8 6,xu16 9,xu16 80,xi64 0,xi64 1,xv false,.sc (.string (ByteArray.mk #[])),xi64 1,xi64 33]
def Y43:Blk:=.far [xi64 1,.own 104 1,.own 105 1,xn,xn,xn]
def Y5:List Blk:=[.far Y2,Y3,Y3,Y37,.far Y2,Y3,Y37,.cells Y13,.cells Y25,Y47,.cells Y14,Y27,Y40,Y33,Y3,Y37,Y34,Y29,Y45,Y45,Y45,Y19,Y48,Y45,Y20,Y50,Y46,Y20,Y42,Y53,Y28,Y31,Y31,Y52,Y35,Y31,Y31,Y44,Y40,Y33,Y34,Y29,Y26,Y4,Y4,Y9,Y9,Y4,Y8,Y23,Y22,Y16,.far Y15,Y8,Y32,Y38,Y9,Y4,Y21,Y4,Y51,Y51,Y42,Y28,Y51,Y51,Y39,Y39,.cells Y18,Y4,Y4,Y4,Y9,Y8,.far Y15,Y9,Y4,.far Y15,Y27,Y4,.far Y15,Y4,Y4,Y4,Y9,Y8,.cells Y15,.cells Y15,Y49,Y17,Y16,.far [.ptr 42 0,xi64 (-1),.sc (.string (ByteArray.mk #[])),xv true,.own 109 40,xi64 4,xu32 0,xu32 0,xu8 0,xu16 0,xu16 0,xi64 0,xv false],Y38,Y23,Y22,Y36,Y36,Y43,Y43,Y42,Y28,Y35,Y43,Y43,Y39,Y39,Y22,Y22,Y23,Y16]
def Y6:List Blk:=[.far Y2,Y3,Y3,Y37,.far Y2,Y3,Y37,.cells Y13,.cells Y25,Y47,.cells Y14,Y27,Y40,Y33,Y3,Y37,Y34,Y29,Y45,Y45,Y45,Y19,Y48,Y45,Y20,Y50,Y46,Y20,Y42,Y53,Y28,Y31,Y31,Y52,Y35,Y31,Y31,Y44,Y40,Y33,Y34,Y29,Y26,Y4,Y4,Y9,Y9,Y4,Y8,Y23,Y22,Y16,.far Y15,Y8,Y32,Y38,Y9,Y4,Y21,Y4,Y51,Y51,Y42,Y28,Y51,Y51,Y39,Y39,.cells Y18,Y4,Y4,Y4,Y9,Y8,.far Y15,Y9,Y4,.far Y15,Y27,Y4,.far Y15,Y4,Y4,Y4,Y9,Y8,.cells Y15,.cells Y15,Y17,Y8,.cells [.ptr 42 0,xi64 (-1),.sc (.string (ByteArray.mk #[])),xv false,.own 89 40,xi64 3,xu32 0,xu32 0,xu8 0,xu16 0,xu16 0,xi64 0,xv false]]
def Y7:List Blk:=[.far Y2,Y3,Y3,Y37,.far Y2,Y3,Y37,.cells Y13,.cells Y25,Y47,.cells Y14,Y27,Y40,Y33,Y3,Y37,Y34,Y29,Y45,Y45,Y45,.map [(0,.agg #[.int .u32 167772161,.int .u32 167772417,.int .u8 6,.int .u16 9,.int .u16 80],.sc (.agg #[.int .u32 167772161,.int .u32 167772417,.int .u8 6,.int .u16 9,.int .u16 80,.int .u32 167772161,.int .u32 167772417,.int .u8 6,.int .u16 9,.int .u16 80,.int .u32 0,.int .u32 0,.int .u8 0,.int .u16 0,.int .u16 0,.int .i64 0,.int .i64 (-1),.bool false,.string (ByteArray.mk #[]),.int .i64 1,.int .i64 33]))] 1,Y48,Y45,Y20,Y50,Y46,Y20,Y42,Y53,Y28,Y31,Y31,Y52,Y35,Y31,Y31,Y44,Y40,Y33,Y34,Y29,Y26,Y4,Y4,Y9,Y9,Y4,Y8,Y23,Y22,Y16,Y17,Y8,.far [.ptr 42 0,xi64 (-1),.sc (.string (ByteArray.mk #[])),xv false,.own 73 40,xi64 3,xu32 0,xu32 0,xu8 0,xu16 0,xu16 0,xi64 0,xv false],Y38,Y9,Y4,Y21,Y4,Y51,Y51,Y42,Y28,Y51,Y51,Y39,Y39,.cells Y18,Y4,Y4,Y4,Y9,Y8]
def Y30:List PV:=[xi64 0,xi64 (-1),xi64 0,xi64 (-1),.sc (.string (ByteArray.mk #[])),xv true,.own 121 40]
def Y10:List Blk:=[.far Y2,Y3,Y3,Y37,.far Y2,Y3,Y37,.cells Y13,.cells Y25,Y47,.cells Y14,Y27,Y40,Y33,Y3,Y37,Y34,Y29,Y45,Y45,Y45,.map [] 1,Y48,Y45,Y20,Y50,Y46,Y20,Y42,Y53,Y28,Y31,Y31,Y52,Y35,Y31,Y31,Y44,Y40,Y33,Y34,Y29,Y26,Y4,Y4,Y9,Y9,Y4,Y8,Y23,Y22,Y16,.far Y15,Y8,Y32,Y38,Y9,Y4,Y21,Y4,Y51,Y51,Y42,Y28,Y51,Y51,Y39,Y39,.cells Y18,Y4,Y4,Y4,Y9,Y8,.far Y15,Y9,Y4,.far Y15,Y27,Y4,.far Y15,Y4,Y4,Y4,Y9,Y8,.cells Y15,.cells Y15,Y49,.far Y30,Y16,.far [.ptr 42 0,xi64 (-1),.sc (.string (ByteArray.mk #[])),xv true,.own 121 40,xi64 4,xu32 167772161,xu32 167772417,xu8 6,xu16 9,xu16 80,xi64 16,xv false],Y38,Y23,Y22,Y36,Y36,Y43,Y43,Y42,Y28,Y35,Y43,Y43,Y39,Y39,Y22,Y22,Y23,Y16,.far Y30,Y23,Y22,.far Y30,.cells Y25,Y22,.far Y30,Y22,Y22,Y22,Y23,Y16,.cells Y30,.cells Y30,Y17,Y16,.cells [.ptr 42 0,xi64 (-1),.sc (.string (ByteArray.mk #[])),xv false,.own 125 40,xi64 4,xu32 0,xu32 0,xu8 0,xu16 0,xu16 0,xi64 0,xv false]]
def Y41:Blk:=.far [.ptr 42 0,xi64 (-1),.sc (.string (ByteArray.mk #[])),xv false,.own 73 40,xi64 3,xu32 167772161,xu32 167772417,xu8 6,xu16 9,xu16 80,xi64 2,xv true]
def xd:XF prog glob 7 f7 [.agg [.sl 5 Y24,.sl 3 [],.sl 6 [Y13,Y14],.sl 2 [],xi64 0,.sl 1 [],.sl 1 [],.sl 1 [[.sl 6 Y12]],.sl 1 [[.sl 4 Y11]],.sl 1 [[.sl 1 [[xi64 (-1)]]]]]] [] (.sc (.bool true)) []:=Wh0 (xX hk1) func7
def hk2:Hk prog glob:=λf ps H=>match hk1 f ps H with
 |some k=>some k
 |none=>bif Nat.beq f 7 then match ps with
  |.agg _::_=>some (.pu func7 xd.pure)
  |_=>none else none
end
section
set_option maxRecDepth 1000000
open Go.Proofs
def x1:XF prog glob 31 f31 [] [] (.agg Y2) [.far Y2,Y3,Y3,Y37,.far Y2,Y3,Y37,.cells Y13,.cells Y25,Y47,.cells Y14,Y27,Y40,Y33,Y3,Y37,Y34,Y29,Y45]:=Wh0 (xX hk2) func31
end
section
set_option maxRecDepth 1000000
open Go.Proofs
def x2:XF prog glob 82 f82 [.ptr 54 0,xi64 0] [.far Y2,Y3,Y3,Y37,.far Y2,Y3,Y37,.cells Y13,.cells Y25,Y47,.cells Y14,Y27,Y40,Y33,Y3,Y37,Y34,Y29,Y45,Y45,Y45,.map [] 0,Y48,Y45,Y20,Y50,Y46,Y20,Y42,Y53,Y28,Y31,Y31,Y52,Y35,Y31,Y31,Y44,Y40,Y33,Y34,Y29,Y26,Y4,Y4,Y9,Y9,Y4,Y8,Y23,Y22,Y16,Y17,Y8,.cells [.ptr 42 0,xi64 (-1),.sc (.string (ByteArray.mk #[])),xv false,.own 53 40,xi64 3,xu32 0,xu32 0,xu8 0,xu16 0,xu16 0,xi64 0,xv false]] (xi64 0) Y7:=Wh0 (xX hk2) func82
end
section
set_option maxRecDepth 1000000
open Go.Proofs
def x4:XF prog glob 290 f290 [.ptr 54 0,xi64 1] [.far Y2,Y3,Y3,Y37,.far Y2,Y3,Y37,.cells Y13,.cells Y25,Y47,.cells Y14,Y27,Y40,Y33,Y3,Y37,Y34,Y29,Y45,Y45,Y45,.map [(0,.agg #[.int .u32 167772161,.int .u32 167772417,.int .u8 6,.int .u16 9,.int .u16 80],.sc (.agg #[.int .u32 167772161,.int .u32 167772417,.int .u8 6,.int .u16 9,.int .u16 80,.int .u32 167772161,.int .u32 167772417,.int .u8 6,.int .u16 9,.int .u16 80,.int .u32 0,.int .u32 0,.int .u8 0,.int .u16 0,.int .u16 0,.int .i64 0,.int .i64 (-1),.bool false,.string (ByteArray.mk #[]),.int .i64 1,.int .i64 33]))] 1,Y48,Y45,Y20,Y50,Y46,Y20,Y42,Y53,Y28,Y31,Y31,Y52,Y35,Y31,Y31,Y44,Y40,Y33,Y34,Y29,Y26,Y4,Y4,Y9,Y9,Y4,Y8,Y23,Y22,Y16,Y17,Y8,Y41,Y38,Y9,Y4,Y21,Y4,Y51,Y51,Y42,Y28,Y51,Y51,Y39,Y39,.cells Y18,Y4,Y4,Y4,Y9,Y8,Y17,Y9,Y4,Y17,Y27,Y4,Y17,.cells [xu32 0,xu32 0,xu8 0,xu16 0,xu16 0]] (.tup [.sc (.agg #[.int .u32 167772161,.int .u32 167772417,.int .u8 6,.int .u16 9,.int .u16 80]),xi64 0]) [.far Y2,Y3,Y3,Y37,.far Y2,Y3,Y37,.cells Y13,.cells Y25,Y47,.cells Y14,Y27,Y40,Y33,Y3,Y37,Y34,Y29,Y45,Y45,Y45,Y19,Y48,Y45,Y20,Y50,Y46,Y20,Y42,Y53,Y28,Y31,Y31,Y52,Y35,Y31,Y31,Y44,Y40,Y33,Y34,Y29,Y26,Y4,Y4,Y9,Y9,Y4,Y8,Y23,Y22,Y16,Y17,Y8,Y41,Y38,Y9,Y4,Y21,Y4,Y51,Y51,Y42,Y28,Y51,Y51,Y39,Y39,.cells Y18,Y4,Y4,Y4,Y9,Y8,Y17,Y9,Y4,Y17,Y27,Y4,Y17,.cells [xu32 0,xu32 0,xu8 0,xu16 0,xu16 0]]:=Wh0 (xX hk2) func290
end
end
end Go.AM
