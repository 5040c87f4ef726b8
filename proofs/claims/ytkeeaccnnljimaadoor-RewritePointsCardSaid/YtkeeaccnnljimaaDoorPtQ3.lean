/- Parts of a proof, printed short. No condition. -/
import Derived.Laws.Externs
import Derived.Test.YtkeeaccnnljimaaDoorProg
import Derived.Test.YtkeeaccnnljimaaDoorPtQ2
namespace Go.AM
section
variable {P:Program} {G:Glob} {n0 nt:Nat} {o:Oper} {st:St} {H:List Blk}
variable {α:Type}
def handB (l:List α) (x:Option (Nat × List α)) (y:Option (List α)):Option (Nat × List α):=match l with
 | []=>y.bind fun z=>if z.length=0 then some (0,[]) else none
 | _ :: _=>x.bind fun r=>if r.2.length=l.length∧r.1≤r.2.length then some r else none
theorem handB_cons {l:List α} {x:Option (Nat × List α)} {y:Option (List α)} {r:Nat × List α} (h:handB l x y=some r) (hl:l ≠ []):x=some r∧r.2.length=l.length∧r.1≤r.2.length:=by
 cases l with
 | nil=>exact absurd rfl hl
 | cons a l=>
  simp only [handB,Option.bind_eq_some_iff] at h
  obtain ⟨q,h1,h2⟩:=h
  split at h2
  ·rename_i hc
   simp only [Option.some.injEq] at h2
   subst h2
   exact ⟨h1,hc⟩
  ·cases h2
theorem handB_nil {l:List α} {x:Option (Nat × List α)} {y:Option (List α)} {r:Nat × List α} (h:handB l x y=some r) (hl:l=[]):y=some []∧r=(0,[]):=by
 subst hl
 simp only [handB,Option.bind_eq_some_iff] at h
 obtain ⟨z,h1,h2⟩:=h
 split at h2
 ·rename_i hc
  rw [List.length_eq_zero_iff] at hc
  subst hc
  simp only [Option.some.injEq] at h2
  exact ⟨h1,h2.symm⟩
 ·cases h2
def Hnd.callBE {f:FuncId} {fn:Func} (row:α→List PV) {s:Nat} {l:List α} {x0:Option (Nat × List α)} {y0:Option (List α)} {r:Nat × List α} {rest:List PV} (hfn:P.funcs[f]? = some fn) (hrow:∀ z,(row z).length=s) (hr:handB l x0 y0=some r)
  (hc:x0=some r→∀ sp,ACall P G f (.vw 0 0 l.length :: rest) [.cells (cel row l sp)] (fun q K=>q=.vw 0 0 r.1∧K=[.cells (cel row r.2 sp)]))
  (he:y0=some []→ACall P G f (.sl s [] :: rest) [] (fun q K=>q=.sl s []∧K=[])):Hnd P G where
 run o st H:=match o.op with
  | .call cl=>match cl.callee with
   | .value x=>match opd G st x,opdL G st cl.args.toList with
    | some px,some (.own i n :: rest')=>match H[i]? with
     | some (.buf s' t xs false)=>
      if fn.body.isNone=false∧(fn.name == "runtime.NumGoroutine")=false∧PV.idss (fun _=>false) rest=true∧Nat.beq s s'=true then
       some ⟨.sl s' ((r.2.take r.1).map row),H.set i (.buf s' t (r.2.map row) true),[.p px,.n n,.ps rest',.rs xs],[.p (.sc (.func (.func f) #[] #[])),.n l.length,.ps rest,.rs (l.map row)]⟩
      else none
     | _=>none
    | _,_=>none
   | _=>none
  | _=>none
 sound:=by
  intro n0 o st H x h he'
  split at h
  ·rename_i cl ho
   split at h
   ·rename_i x hcl
    split at h
    ·rename_i px i n rest' hx hps
     split at h
     ·rename_i s' t xs hb
      split at h
      ·rename_i hcond
       obtain ⟨c1,c2,c3,c5⟩:=hcond
       simp only [Option.some.injEq] at h
       subst h
       simp only [List.cons.injEq,T.p.injEq,T.ps.injEq,T.n.injEq,T.rs.injEq,and_true] at he'
       obtain ⟨rfl,rfl,rfl,rfl⟩:=he'
       have c5:=Nat.eq_of_beq_eq_true c5
       subst c5
       by_cases hl:l=[]
       ·obtain ⟨hy,rfl⟩:=handB_nil hr hl
        subst hl
        have hk:=he hy
        intro c a w β h0 hrl
        have hrs:=hrl.share hb
        have hil:=(List.getElem?_eq_some_iff.1 hb).1
        have hw:Wks (H.set i (.buf s t [] true)) false ((.own i ([]:List (List PV)).length :: rest')++[]) (.sl s [] :: rest'):=by
         rw [List.append_nil]
         exact .cons _ _ _ _ (.own i s t [] true (List.getElem?_set_self hil) (.inr rfl)) (Wks.refl _ _ _)
        exact (OpT.callV (n0:=n0) (H:=H.set i (.buf s t [] true)) ho hcl (.inl ⟨hx,rfl⟩) hfn c1 c2 (opdL_spec _ _ hps) hw (by simpa [PV.idss,PV.ids] using c3) (by simp [PV.ids]) hk).weak c a w β (by simpa using h0) hrs
       ·obtain ⟨h1,h2,h3⟩:=handB_cons hr hl
        have hl1:(l.map row).length=l.length:=List.length_map ..
        have:=OpW.callBs (n0:=n0) (xs:=l.map row) (ys:=r.2.map row) (k:=r.1) ho hcl hx hfn c1 c2 (by rw [hl1]; exact opdL_spec _ _ hps) c3 hb (by simpa using hl) (by simpa using h2) (by
         intro y hy
         obtain ⟨z,_,rfl⟩:=List.mem_map.1 hy
         exact hrow z) (by simpa using h3) (fun sp=>by rw [hl1]; exact hc h1 sp)
        rw [← List.map_take] at this
        exact this
      ·cases h
     ·cases h
    ·cases h
   ·cases h
  ·cases h
end
end Go.AM
set_option maxRecDepth 100000
namespace Go.AM
open Go
structure Arr5 (α:Type) where
 x0:α
 x1:α
 x2:α
 x3:α
 x4:α
def Arr5.get {α:Type} (a:Arr5 α) (i:Int):α:=if i=0 then a.x0 else if i=1 then a.x1 else if i=2 then a.x2 else if i=3 then a.x3 else a.x4
def Arr5.set {α:Type} (a:Arr5 α) (i:Int) (v:α):Arr5 α:=if i=0 then { a with x0:=v } else if i=1 then { a with x1:=v } else if i=2 then { a with x2:=v } else if i=3 then { a with x3:=v } else { a with x4:=v }
def Zao (x:(Arr5 Int)):List PV:=[.sc (.int .u32 x.x0),.sc (.int .u32 x.x1),.sc (.int .u32 x.x2),.sc (.int .u32 x.x3),.sc (.int .u32 x.x4)]
def Zlr (x:(Arr5 Int)):List Value:=[.int .u32 x.x0,.int .u32 x.x1,.int .u32 x.x2,.int .u32 x.x3,.int .u32 x.x4]
def Zcw (x:(Arr5 Int)):PV:=.sc (.agg ⟨Zlr x⟩)
def Zgo:(Arr5 Int):=Arr5.mk (0:Int) (0:Int) (0:Int) (0:Int) (0:Int)
def Zls (x:(List Int)):List PV:=[.sl 1 (List.map Z5 x)]
def Zj7 (x:(List Int)):Prop:=x.length≤9223372036854775807∧∀ y∈x,Zkf y
structure api_Header where
 Src:Int
 Dst:Int
 Proto:Int
 SrcPort:Int
 DstPort:Int
def Zf (x:api_Header):List PV:=[.sc (.int .u32 x.Src),.sc (.int .u32 x.Dst),.sc (.int .u8 x.Proto),.sc (.int .u16 x.SrcPort),.sc (.int .u16 x.DstPort)]
def Zat (x:api_Header):Prop:=Zg0 x.Src∧Zg0 x.Dst∧ok_u8 x.Proto∧Zgj x.SrcPort∧Zgj x.DstPort∧True
def Zi4 (x:api_Header):List Value:=[.int .u32 x.Src,.int .u32 x.Dst,.int .u8 x.Proto,.int .u16 x.SrcPort,.int .u16 x.DstPort]
def Za8 (x:api_Header):PV:=.sc (.agg ⟨Zi4 x⟩)
def Zap:api_Header:=api_Header.mk (0:Int) (0:Int) (0:Int) (0:Int) (0:Int)
structure nsggen_Tape where
 f_l:(List Int)
 f_i:Int
def Ze (x:nsggen_Tape):List PV:=[.sl 1 (List.map Z5 x.f_l),.sc (.int .i64 x.f_i)]
structure api_Range where
 Lo:Int
 Hi:Int
def Zg (x:api_Range):List PV:=[.sc (.int .u32 x.Lo),.sc (.int .u32 x.Hi)]
def Zk8 (x:api_Range):List Value:=[.int .u32 x.Lo,.int .u32 x.Hi]
def Zh0 (x:api_Range):PV:=.sc (.agg ⟨Zk8 x⟩)
def Zdq (x y:api_Range):Bool:=((x.Lo == y.Lo) && ((x.Hi == y.Hi) && true))
def Zj:api_Range:=api_Range.mk (0:Int) (0:Int)
def Za (x:(Arr5 api_Range)):List PV:=[.sc (.int .u32 x.x0.Lo),.sc (.int .u32 x.x0.Hi),.sc (.int .u32 x.x1.Lo),.sc (.int .u32 x.x1.Hi),.sc (.int .u32 x.x2.Lo),.sc (.int .u32 x.x2.Hi),.sc (.int .u32 x.x3.Lo),.sc (.int .u32 x.x3.Hi),.sc (.int .u32 x.x4.Lo),.sc (.int .u32 x.x4.Hi)]
def Zkg (x:(Arr5 api_Range)):List Value:=[.int .u32 x.x0.Lo,.int .u32 x.x0.Hi,.int .u32 x.x1.Lo,.int .u32 x.x1.Hi,.int .u32 x.x2.Lo,.int .u32 x.x2.Hi,.int .u32 x.x3.Lo,.int .u32 x.x3.Hi,.int .u32 x.x4.Lo,.int .u32 x.x4.Hi]
def Zk (x:(Arr5 api_Range)):PV:=.sc (.agg ⟨Zkg x⟩)
def Zfv (x y:(Arr5 api_Range)):Bool:=((Zdq x.x0 y.x0) && ((Zdq x.x1 y.x1) && ((Zdq x.x2 y.x2) && ((Zdq x.x3 y.x3) && ((Zdq x.x4 y.x4) && true)))))
def Zl:(Arr5 api_Range):=Arr5.mk Zj Zj Zj Zj Zj
structure api_Move where
 From:(Arr5 api_Range)
 To:(Arr5 api_Range)
def Zd (x:api_Move):List PV:=[.sc (.int .u32 x.From.x0.Lo),.sc (.int .u32 x.From.x0.Hi),.sc (.int .u32 x.From.x1.Lo),.sc (.int .u32 x.From.x1.Hi),.sc (.int .u32 x.From.x2.Lo),.sc (.int .u32 x.From.x2.Hi),.sc (.int .u32 x.From.x3.Lo),.sc (.int .u32 x.From.x3.Hi),.sc (.int .u32 x.From.x4.Lo),.sc (.int .u32 x.From.x4.Hi),.sc (.int .u32 x.To.x0.Lo),.sc (.int .u32 x.To.x0.Hi),.sc (.int .u32 x.To.x1.Lo),.sc (.int .u32 x.To.x1.Hi),.sc (.int .u32 x.To.x2.Lo),.sc (.int .u32 x.To.x2.Hi),.sc (.int .u32 x.To.x3.Lo),.sc (.int .u32 x.To.x3.Hi),.sc (.int .u32 x.To.x4.Lo),.sc (.int .u32 x.To.x4.Hi)]
def Zlh (x:api_Move):List Value:=[.int .u32 x.From.x0.Lo,.int .u32 x.From.x0.Hi,.int .u32 x.From.x1.Lo,.int .u32 x.From.x1.Hi,.int .u32 x.From.x2.Lo,.int .u32 x.From.x2.Hi,.int .u32 x.From.x3.Lo,.int .u32 x.From.x3.Hi,.int .u32 x.From.x4.Lo,.int .u32 x.From.x4.Hi,.int .u32 x.To.x0.Lo,.int .u32 x.To.x0.Hi,.int .u32 x.To.x1.Lo,.int .u32 x.To.x1.Hi,.int .u32 x.To.x2.Lo,.int .u32 x.To.x2.Hi,.int .u32 x.To.x3.Lo,.int .u32 x.To.x3.Hi,.int .u32 x.To.x4.Lo,.int .u32 x.To.x4.Hi]
def Zfs (x:api_Move):PV:=.sc (.agg ⟨Zlh x⟩)
def Zdi:api_Move:=api_Move.mk Zl Zl
structure api_Prefix where
 Addr:Int
 Bits:Int
def Zck (x:api_Prefix):List PV:=[.sc (.int .u32 x.Addr),.sc (.int .i64 x.Bits)]
def Zk5 (x:api_Prefix):List Value:=[.int .u32 x.Addr,.int .i64 x.Bits]
def Zhr (x:api_Prefix):PV:=.sc (.agg ⟨Zk5 x⟩)
def Zk9:api_Prefix:=api_Prefix.mk (0:Int) (0:Int)
def Zi (x:(List (Arr5 api_Range))):List PV:=[.sl 10 (List.map Za x)]
structure rewrite_ledger where
 f_err:Int
def Zh (x:rewrite_ledger):List PV:=[.sc (.int .i64 x.f_err)]
def Zc2:rewrite_ledger:=rewrite_ledger.mk (0:Int)
structure packetset_group where
 f_values:api_Range
 f_rest:(List (Arr5 api_Range))
def Zc (x:packetset_group):List PV:=[.sc (.int .u32 x.f_values.Lo),.sc (.int .u32 x.f_values.Hi),.sl 10 (List.map Za x.f_rest)]
def Zem:packetset_group:=packetset_group.mk Zj ([]:(List (Arr5 api_Range)))
def Zaf:(Arr5 Int):=Arr5.mk 4294967295 4294967295 255 65535 65535
end Go.AM
set_option maxRecDepth 100000
namespace Go.AM
open Go
def Zf8:Option Bool:=
 some true
def Zg1 (a0:(List Int)):Option nsggen_Tape:=
 some (nsggen_Tape.mk a0 (0:Int))
def Zfl (a0:Int) (a1:Int):Option Int:=
 if (IntKind.wrap .u64 a1) ≠ 0 then
 some (IntKind.wrap .i64 (Int.tmod (IntKind.wrap .u64 a0) (IntKind.wrap .u64 a1)))
 else none
def Zm (a0:nsggen_Tape) (a1:Int):Option (Int × nsggen_Tape):=
 (some (decide (a1≤(1:Int)))).bind fun (b1:Bool)=>
 if (b1 || (decide (a0.f_i ≥ (List.length a0.f_l:Int))))=true then
  some ((0:Int),a0)
 else
  (idx a0.f_l (IntKind.wrap .i64 ((IntKind.wrap .i64 (a0.f_i + (1:Int))) - (1:Int)))).bind fun (x3:Int)=>
  (Zfl x3 a1).bind fun (r5:Int)=>
  some (r5,({ a0 with f_i:=(IntKind.wrap .i64 (a0.f_i + (1:Int))) }:nsggen_Tape))
def Ze4 (a0:Int):Option Int:=
 ((if (a0 == (0:Int))=true then
  some (a0 == (0:Int))
 else
  some (a0 == (1:Int))).bind fun (v15:Bool)=>
  if v15=true then
   some (.inr (4294967295:Int))
  else
   if (a0 == (2:Int))=true then
    some (.inr (255:Int))
   else
    (if (a0 == (3:Int))=true then
     some (a0 == (3:Int))
    else
     some (a0 == (4:Int))).bind fun (v19:Bool)=>
     if v19=true then
      some (.inr (65535:Int))
     else
      some (.inl ())).bind fun (o12:(Unit ⊕ Int))=>
 match o12 with
 | .inl ()=>
   some (0:Int)
 | .inr r25=>
   some r25
def Zfj:Nat→(Arr5 api_Range)→Int→Option (Arr5 api_Range)
 | 0,_,_=>none
 | n18+1,v8,v9=>
  if (decide (v9<(5:Int)))=true then
   (Ze4 v9).bind fun (r19:Int)=>
   if 0≤v9∧v9<5 then
   Zfj n18 (Arr5.set v8 v9 ({ (Arr5.get v8 v9) with Hi:=r19 }:api_Range)) (IntKind.wrap .i64 (v9 + (1:Int)))
   else none
  else
   some v8
def Zfm:Option (Arr5 api_Range):=
 (Zfj fuel Zl (0:Int)).bind fun (v16:(Arr5 api_Range))=>
  some v16
def Zbj (a0:nsggen_Tape) (a1:Int):Option (Int × nsggen_Tape):=
 (Zm a0 (17:Int)).bind fun (r1:(Int × nsggen_Tape))=>
 (idx [(0:Int),(1:Int),(2:Int),(5:Int),(7:Int),(8:Int),(9:Int),(15:Int),(16:Int),(80:Int),(255:Int),(256:Int),(1024:Int),(65535:Int),(IntKind.wrap .u32 (Int.tdiv a1 (2:Int))),(IntKind.wrap .u32 (a1 - (1:Int))),a1] r1.1).bind fun (x3:Int)=>
 some ((iMin x3 a1),r1.2)
def Zdr (a0:Int):Option api_Prefix:=
 (Zfl a0 (6:Int)).bind fun (r1:Int)=>
 (idx [(api_Prefix.mk (167772160:Int) (24:Int)),(api_Prefix.mk (167772416:Int) (24:Int)),(api_Prefix.mk (167772672:Int) (25:Int)),(api_Prefix.mk (167772800:Int) (26:Int)),(api_Prefix.mk (2886729728:Int) (16:Int)),(api_Prefix.mk (3232237321:Int) (32:Int))] r1).bind fun (x3:api_Prefix)=>
 some x3
def Zf9 (a0:Int):Option Int:=
 if 0≤(IntKind.wrap .u64 (IntKind.wrap .i64 ((32:Int) - a0))) then
 some (bShl .u64 (1:Int) (IntKind.wrap .u64 (IntKind.wrap .i64 ((32:Int) - a0))))
 else none
def Zg2 (a0:api_Prefix):Option Bool:=
 (some (decide (a0.Bits ≥ (0:Int)))).bind fun (b1:Bool)=>
 (some (b1 && (decide (a0.Bits≤(32:Int))))).bind fun (b3:Bool)=>
 (if b3=true then
  (Zf9 a0.Bits).bind fun (r5:Int)=>
  if r5 ≠ 0 then
  some ((Int.tmod (IntKind.wrap .u64 a0.Addr) r5) == (0:Int))
  else none
  else some false).bind fun (v8:Bool)=>
 some v8
def Zfn (a0:api_Prefix):Option (api_Range × Bool):=
 (Zg2 a0).bind fun (r1:Bool)=>
 if (!r1)=true then
  some ((api_Range.mk (0:Int) (0:Int)),false)
 else
  (Zf9 a0.Bits).bind fun (r3:Int)=>
  some ((api_Range.mk a0.Addr (IntKind.wrap .u32 (IntKind.wrap .u64 ((IntKind.wrap .u64 ((IntKind.wrap .u64 a0.Addr) + r3)) - (1:Int))))),true)
def Zea (a0:nsggen_Tape):Option (api_Move × nsggen_Tape):=
 (Zfm).bind fun (r1:(Arr5 api_Range))=>
 (Zm a0 (2:Int)).bind fun (r3:(Int × nsggen_Tape))=>
 (idx [(6:Int),(17:Int)] r3.1).bind fun (x5:Int)=>
 (Zm r3.2 (2:Int)).bind fun (r7:(Int × nsggen_Tape))=>
 (idx [(3405803781:Int),(3405803782:Int)] r7.1).bind fun (x9:Int)=>
 (Zbj r7.2 (65000:Int)).bind fun (r11:(Int × nsggen_Tape))=>
 (Zm r11.2 (3:Int)).bind fun (r13:(Int × nsggen_Tape))=>
 (Zm r13.2 (4:Int)).bind fun (r15:(Int × nsggen_Tape))=>
 (Zm r15.2 (5:Int)).bind fun (r17:(Int × nsggen_Tape))=>
 (Zdr r17.1).bind fun (r19:api_Prefix)=>
 (Zfn r19).bind fun (r21:(api_Range × Bool))=>
 (Zbj r17.2 (65000:Int)).bind fun (r23:(Int × nsggen_Tape))=>
 some ((api_Move.mk ({ ({ ({ r1 with x2:=(api_Range.mk x5 x5) }:(Arr5 api_Range)) with x1:=(api_Range.mk x9 (IntKind.wrap .u32 (x9 + (IntKind.wrap .u32 r13.1)))) }:(Arr5 api_Range)) with x4:=(api_Range.mk r11.1 (IntKind.wrap .u32 (r11.1 + (iMin (IntKind.wrap .u32 r15.1) (IntKind.wrap .u32 ((65535:Int) - r11.1)))))) }:(Arr5 api_Range)) ({ ({ ({ ({ ({ r1 with x2:=(api_Range.mk x5 x5) }:(Arr5 api_Range)) with x1:=(api_Range.mk x9 (IntKind.wrap .u32 (x9 + (IntKind.wrap .u32 r13.1)))) }:(Arr5 api_Range)) with x4:=(api_Range.mk r11.1 (IntKind.wrap .u32 (r11.1 + (iMin (IntKind.wrap .u32 r15.1) (IntKind.wrap .u32 ((65535:Int) - r11.1)))))) }:(Arr5 api_Range)) with x1:=(api_Range.mk r21.1.Lo (IntKind.wrap .u32 (r21.1.Lo + (IntKind.wrap .u32 r13.1)))) }:(Arr5 api_Range)) with x4:=(api_Range.mk (iMin r23.1 (IntKind.wrap .u32 ((65535:Int) - (iMin (IntKind.wrap .u32 r15.1) (IntKind.wrap .u32 ((65535:Int) - r11.1)))))) (IntKind.wrap .u32 ((iMin r23.1 (IntKind.wrap .u32 ((65535:Int) - (iMin (IntKind.wrap .u32 r15.1) (IntKind.wrap .u32 ((65535:Int) - r11.1)))))) + (iMin (IntKind.wrap .u32 r15.1) (IntKind.wrap .u32 ((65535:Int) - r11.1)))))) }:(Arr5 api_Range))),r23.2)
def Zcv (a0:nsggen_Tape) (a1:(Arr5 api_Range)):Option ((Arr5 api_Range) × nsggen_Tape):=
 (Zm a0 (5:Int)).bind fun (r1:(Int × nsggen_Tape))=>
 ((Zm r1.2 (3:Int)).bind fun (r29:(Int × nsggen_Tape))=>
 if (r29.1 == (0:Int))=true then
  if 0≤r1.1∧r1.1<5 then
  if 0≤r1.1∧r1.1<5 then
  if 0≤r1.1∧r1.1<5 then
  if 0≤r1.1∧r1.1<5 then
  some (r29.2,(Arr5.set (Arr5.set a1 r1.1 ({ (Arr5.get a1 r1.1) with Lo:=(Arr5.get a1 r1.1).Hi }:api_Range)) r1.1 ({ (Arr5.get (Arr5.set a1 r1.1 ({ (Arr5.get a1 r1.1) with Lo:=(Arr5.get a1 r1.1).Hi }:api_Range)) r1.1) with Hi:=(Arr5.get a1 r1.1).Lo }:api_Range)))
  else none
  else none
  else none
  else none
 else
  if (r29.1 == (1:Int))=true then
   if 0≤r1.1∧r1.1<5 then
   some (r29.2,(Arr5.set a1 r1.1 ({ (Arr5.get a1 r1.1) with Hi:=(4294967295:Int) }:api_Range)))
   else none
  else
   if 0≤r1.1∧r1.1<5 then
   some (r29.2,(Arr5.set a1 r1.1 (api_Range.mk (1:Int) (0:Int))))
   else none).bind fun (o27:(nsggen_Tape × (Arr5 api_Range)))=>
 match o27 with
 | (v25,v26)=>
  some (v26,v25)
def Zbt (a2:Bool):Nat→nsggen_Tape→(List api_Move)→Int→Option (nsggen_Tape × (List api_Move))
 | 0,_,_,_=>none
 | n225+1,v111,v112,v113=>
  if (decide (v113 > (0:Int)))=true then
   ((Zea v111).bind fun (r281:(api_Move × nsggen_Tape))=>
   ((some a2).bind fun (b298:Bool)=>
   (if b298=true then
    (Zm r281.2 (6:Int)).bind fun (r300:(Int × nsggen_Tape))=>
    some ((r300.1 == (5:Int)),r300.2)
    else some (false,r281.2)).bind fun (v302:Bool × nsggen_Tape)=>
   if v302.1=true then
    (Zcv v302.2 r281.1.To).bind fun (r306:((Arr5 api_Range) × nsggen_Tape))=>
    some (r306.2,({ r281.1 with To:=r306.1 }:api_Move))
   else
    some (v302.2,r281.1)).bind fun (o296:(nsggen_Tape × api_Move))=>
   match o296 with
   | (v294,v295)=>
    ((some a2).bind fun (b322:Bool)=>
    (if b322=true then
     (Zm v294 (6:Int)).bind fun (r324:(Int × nsggen_Tape))=>
     some ((r324.1 == (5:Int)),r324.2)
     else some (false,v294)).bind fun (v326:Bool × nsggen_Tape)=>
    if v326.1=true then
     some (v326.2,({ ({ v295 with From:=v295.To }:api_Move) with To:=v295.From }:api_Move))
    else
     some (v326.2,v295)).bind fun (o320:(nsggen_Tape × api_Move))=>
    match o320 with
    | (v318,v319)=>
     if List.length v112 + List.length [v319]≤lim then
     some (v318,(v112++[v319]))
     else none).bind fun (o279:(nsggen_Tape × (List api_Move)))=>
   match o279 with
   | (v277,v278)=>
    Zbt a2 n225 v277 v278 (IntKind.wrap .i64 (v113 - (1:Int)))
  else
   some (v111,v112)
def Zd2 (a0:nsggen_Tape) (a1:Int) (a2:Bool):Option ((List api_Move) × nsggen_Tape):=
 (Zm a0 (IntKind.wrap .i64 (a1 + (1:Int)))).bind fun (r1:(Int × nsggen_Tape))=>
 (Zbt a2 fuel r1.2 ([]:(List api_Move)) r1.1).bind fun (o223:(nsggen_Tape × (List api_Move)))=>
 match o223 with
 | (v221,v222)=>
  some (v222,v221)
def Z0 (a0:(Arr5 api_Range)):Nat→Int→Option (Unit ⊕ Bool)
 | 0,_=>none
 | n17+1,v1=>
  if (decide (v1<(5:Int)))=true then
   if 0≤v1∧v1<5 then
   if 0≤v1∧v1<5 then
   (some (decide ((Arr5.get a0 v1).Lo > (Arr5.get a0 v1).Hi))).bind fun (b20:Bool)=>
   (if b20=true then some true else
    if 0≤v1∧v1<5 then
    (Ze4 v1).bind fun (r23:Int)=>
    some (decide ((Arr5.get a0 v1).Hi > r23))
    else none
    ).bind fun (v25:Bool)=>
   if v25=true then
    some (.inr false)
   else
    Z0 a0 n17 (IntKind.wrap .i64 (v1 + (1:Int)))
   else none
   else none
  else
   some (.inl ())
def Ze5 (a0:(Arr5 api_Range)):Option Bool:=
 (Z0 a0 fuel (0:Int)).bind fun (o15:(Unit ⊕ Bool))=>
 match o15 with
 | .inl ()=>
   some true
 | .inr r31=>
   some r31
def Zc9 (a0:(List api_Move)):Nat→(List (Arr5 api_Range))→Int→Option (List (Arr5 api_Range))
 | 0,_,_=>none
 | n18+1,v8,v9=>
  if (decide (v9<(List.length a0:Int)))=true then
   (idx a0 v9).bind fun (x19:api_Move)=>
   (idx a0 v9).bind fun (x21:api_Move)=>
   if List.length v8 + List.length [x19.From,x21.To]≤lim then
   Zc9 a0 n18 (v8++[x19.From,x21.To]) (IntKind.wrap .i64 (v9 + (1:Int)))
   else none
  else
   some v8
def Zer (a0:(List api_Move)):Option (List (Arr5 api_Range)):=
 (Zc9 a0 fuel ([]:(List (Arr5 api_Range))) (0:Int)).bind fun (v16:(List (Arr5 api_Range)))=>
  some v16
def Zb5 (a0:nsggen_Tape):Option (Int × nsggen_Tape):=
 (Zm a0 (5:Int)).bind fun (r1:(Int × nsggen_Tape))=>
 if (r1.1 == (4:Int))=true then
  (Zm r1.2 (6:Int)).bind fun (r3:(Int × nsggen_Tape))=>
  (idx [(0:Int),(4294967295:Int),(3405803781:Int),(3325256705:Int),(168296448:Int),(2130706433:Int)] r3.1).bind fun (x5:Int)=>
  some (x5,r3.2)
 else
  (Zm r1.2 (6:Int)).bind fun (r7:(Int × nsggen_Tape))=>
  (Zdr r7.1).bind fun (r9:api_Prefix)=>
  (Zfn r9).bind fun (r11:(api_Range × Bool))=>
  (Zm r7.2 (5:Int)).bind fun (r13:(Int × nsggen_Tape))=>
  (idx [r11.1.Lo,r11.1.Hi,(IntKind.wrap .u32 (r11.1.Lo + (5:Int))),(IntKind.wrap .u32 (r11.1.Hi + (1:Int))),(IntKind.wrap .u32 (r11.1.Lo - (1:Int)))] r13.1).bind fun (x15:Int)=>
  some (x15,r13.2)
def Zds (a0:nsggen_Tape):Option (api_Header × nsggen_Tape):=
 (Zb5 a0).bind fun (r1:(Int × nsggen_Tape))=>
 (Zb5 r1.2).bind fun (r3:(Int × nsggen_Tape))=>
 (Zm r3.2 (6:Int)).bind fun (r5:(Int × nsggen_Tape))=>
 (idx [(6:Int),(17:Int),(1:Int),(0:Int),(7:Int),(255:Int)] r5.1).bind fun (x7:Int)=>
 (Zbj r5.2 (65535:Int)).bind fun (r9:(Int × nsggen_Tape))=>
 (Zbj r9.2 (65535:Int)).bind fun (r11:(Int × nsggen_Tape))=>
 some ((api_Header.mk r1.1 r3.1 x7 (IntKind.wrap .u16 r9.1) (IntKind.wrap .u16 r11.1)),r11.2)
def Zes (a0:(Arr5 Int)):Option api_Header:=
 some (api_Header.mk a0.x0 a0.x1 (IntKind.wrap .u8 a0.x2) (IntKind.wrap .u16 a0.x3) (IntKind.wrap .u16 a0.x4))
def Zbc (x13:(Arr5 api_Range)):Nat→nsggen_Tape→(Arr5 Int)→Int→Option (nsggen_Tape × (Arr5 Int))
 | 0,_,_,_=>none
 | n73+1,v41,v42,v43=>
  if (decide (v43<(5:Int)))=true then
   if 0≤v43∧v43<5 then
   if 0≤v43∧v43<5 then
   if 0≤v43∧v43<5 then
   if 0≤v43∧v43<5 then
   if 0≤v43∧v43<5 then
   if 0≤v43∧v43<5 then
   if 0≤v43∧v43<5 then
   (Zm v41 (5:Int)).bind fun (r81:(Int × nsggen_Tape))=>
   (idx [(Arr5.get x13 v43).Lo,(Arr5.get x13 v43).Hi,(IntKind.wrap .u32 ((Arr5.get x13 v43).Lo - (1:Int))),(IntKind.wrap .u32 ((Arr5.get x13 v43).Hi + (1:Int))),(IntKind.wrap .u32 ((Arr5.get x13 v43).Lo + (IntKind.wrap .u32 (Int.tdiv (IntKind.wrap .u32 ((Arr5.get x13 v43).Hi - (Arr5.get x13 v43).Lo)) (2:Int)))))] r81.1).bind fun (x83:Int)=>
   if 0≤v43∧v43<5 then
   if 0≤v43∧v43<5 then
   (Ze4 v43).bind fun (r91:Int)=>
   if 0≤v43∧v43<5 then
   Zbc x13 n73 r81.2 (Arr5.set (Arr5.set v42 v43 x83) v43 (iMin (Arr5.get (Arr5.set v42 v43 x83) v43) r91)) (IntKind.wrap .i64 (v43 + (1:Int)))
   else none
   else none
   else none
   else none
   else none
   else none
   else none
   else none
   else none
   else none
  else
   some (v41,v42)
def Zc3 (a0:nsggen_Tape) (a1:(List (Arr5 api_Range))):Option (api_Header × nsggen_Tape):=
 (some ((List.length a1:Int) == (0:Int))).bind fun (b1:Bool)=>
 (if b1=true then some (true,a0) else
  (Zm a0 (4:Int)).bind fun (r3:(Int × nsggen_Tape))=>
  some ((r3.1 == (3:Int)),r3.2)
  ).bind fun (v5:Bool × nsggen_Tape)=>
 if v5.1=true then
  (Zds v5.2).bind fun (r9:(api_Header × nsggen_Tape))=>
  some (r9.1,r9.2)
 else
  (Zm v5.2 (List.length a1:Int)).bind fun (r11:(Int × nsggen_Tape))=>
  (idx a1 r11.1).bind fun (x13:(Arr5 api_Range))=>
  (Zbc x13 fuel r11.2 Zgo (0:Int)).bind fun (o71:(nsggen_Tape × (Arr5 Int)))=>
  match o71 with
  | (v69,v70)=>
   (Zes v70).bind fun (r99:api_Header)=>
   some (r99,v69)
def Zfr (a0:api_Move):Option api_Move:=
 some (api_Move.mk a0.To a0.From)
def Zag (a0:(Arr5 api_Range)):Nat→Int→Option (Unit ⊕ Bool)
 | 0,_=>none
 | n14+1,v1=>
  if (decide (v1<(5:Int)))=true then
   if 0≤v1∧v1<5 then
   (some (decide ((Arr5.get a0 v1).Lo > (Arr5.get a0 v1).Hi))).bind fun (b16:Bool)=>
   (if b16=true then some true else
    if 0≤v1∧v1<5 then
    some (decide ((Arr5.get a0 v1).Hi > (Arr5.get Zaf v1)))
    else none
    ).bind fun (v19:Bool)=>
   if v19=true then
    some (.inr false)
   else
    Zag a0 n14 (IntKind.wrap .i64 (v1 + (1:Int)))
   else none
  else
   some (.inl ())
def Zd7 (a0:(Arr5 api_Range)):Option Bool:=
 (Zag a0 fuel (0:Int)).bind fun (o12:(Unit ⊕ Bool))=>
 match o12 with
 | .inl ()=>
   some true
 | .inr r25=>
   some r25
def Zcd (a0:api_Move):Nat→Int→Option (Unit ⊕ Bool)
 | 0,_=>none
 | n19+1,v11=>
  if (decide (v11<(5:Int)))=true then
   if 0≤v11∧v11<5 then
   if 0≤v11∧v11<5 then
   if 0≤v11∧v11<5 then
   if ((IntKind.wrap .u32 ((Arr5.get a0.From v11).Hi - (Arr5.get a0.From v11).Lo)) != (IntKind.wrap .u32 ((Arr5.get a0.To v11).Hi - (Arr5.get a0.To v11).Lo)))=true then
    some (.inr false)
   else
    Zcd a0 n19 (IntKind.wrap .i64 (v11 + (1:Int)))
   else none
   else none
   else none
  else
   some (.inl ())
def Zcg (a0:api_Move):Option Bool:=
 (Zd7 a0.From).bind fun (r1:Bool)=>
 (some (!r1)).bind fun (b3:Bool)=>
 (if b3=true then some true else
  (Zd7 a0.To).bind fun (r5:Bool)=>
  some (!r5)
  ).bind fun (v7:Bool)=>
 if v7=true then
  some false
 else
  (Zcd a0 fuel (0:Int)).bind fun (o17:(Unit ⊕ Bool))=>
  match o17 with
  | .inl ()=>
    some true
  | .inr r25=>
    some r25
def Zfo (a0:api_Header):Option (Arr5 Int):=
 some (Arr5.mk a0.Src a0.Dst (IntKind.wrap .u32 a0.Proto) (IntKind.wrap .u32 a0.SrcPort) (IntKind.wrap .u32 a0.DstPort))
def Zcx (a0:(Arr5 api_Range)) (r3:(Arr5 Int)):Nat→Int→Option (Unit ⊕ Bool)
 | 0,_=>none
 | n19+1,v5=>
  if (decide (v5<(5:Int)))=true then
   if 0≤v5∧v5<5 then
   if 0≤v5∧v5<5 then
   (some (decide ((Arr5.get r3 v5)<(Arr5.get a0 v5).Lo))).bind fun (b22:Bool)=>
   (if b22=true then some true else
    if 0≤v5∧v5<5 then
    some (decide ((Arr5.get r3 v5) > (Arr5.get a0 v5).Hi))
    else none
    ).bind fun (v25:Bool)=>
   if v25=true then
    some (.inr false)
   else
    Zcx a0 r3 n19 (IntKind.wrap .i64 (v5 + (1:Int)))
   else none
   else none
  else
   some (.inl ())
def Zfp (a0:(Arr5 api_Range)) (a1:api_Header):Option Bool:=
 (Zd7 a0).bind fun (r1:Bool)=>
 if (!r1)=true then
  some false
 else
  (Zfo a1).bind fun (r3:(Arr5 Int))=>
  (Zcx a0 r3 fuel (0:Int)).bind fun (o17:(Unit ⊕ Bool))=>
  match o17 with
  | .inl ()=>
    some true
  | .inr r31=>
    some r31
def Zen (a0:api_Move) (a1:api_Header):Option Bool:=
 (Zcg a0).bind fun (r1:Bool)=>
 (some r1).bind fun (b3:Bool)=>
 (if b3=true then
  (Zfp a0.From a1).bind fun (r5:Bool)=>
  some r5
  else some false).bind fun (v7:Bool)=>
 some v7
def Zu (a0:(List api_Move)) (a1:api_Header):Nat→Int→Option (Unit ⊕ Int)
 | 0,_=>none
 | n10+1,v1=>
  if (decide (v1<(List.length a0:Int)))=true then
   (idx a0 v1).bind fun (x11:api_Move)=>
   (Zen x11 a1).bind fun (r13:Bool)=>
   if r13=true then
    some (.inr v1)
   else
    Zu a0 a1 n10 (IntKind.wrap .i64 (v1 + (1:Int)))
  else
   some (.inl ())
def Za7 (a0:(List api_Move)) (a1:api_Header):Option Int:=
 (Zu a0 a1 fuel (0:Int)).bind fun (o8:(Unit ⊕ Int))=>
 match o8 with
 | .inl ()=>
   some (-1:Int)
 | .inr r17=>
   some r17
def Ze6 (a0:(List api_Move)) (a1:api_Header):Option Int:=
 (Za7 a0 a1).bind fun (r1:Int)=>
 some r1
def Zgk (a0:api_Header) (a1:Int):Option Int:=
 (some (decide (a1<(0:Int)))).bind fun (b1:Bool)=>
 if (b1 || (decide (a1 ≥ (5:Int))))=true then
  some (0:Int)
 else
  (Zfo a0).bind fun (r3:(Arr5 Int))=>
  if 0≤a1∧a1<5 then
  some (Arr5.get r3 a1)
  else none
def Zf0 (a0:(Arr5 Int)):Option api_Header:=
 some (api_Header.mk a0.x0 a0.x1 (IntKind.wrap .u8 a0.x2) (IntKind.wrap .u16 a0.x3) (IntKind.wrap .u16 a0.x4))
def Zg3 (a0:api_Header) (a1:Int) (a2:Int):Option api_Header:=
 (some (decide (a1<(0:Int)))).bind fun (b1:Bool)=>
 (some (b1 || (decide (a1 ≥ (5:Int))))).bind fun (b3:Bool)=>
 (if b3=true then some true else
  if 0≤a1∧a1<5 then
  some (decide (a2 > (Arr5.get Zaf a1)))
  else none
  ).bind fun (v6:Bool)=>
 if v6=true then
  some a0
 else
  (Zfo a0).bind fun (r11:(Arr5 Int))=>
  if 0≤a1∧a1<5 then
  (Zf0 (Arr5.set r11 a1 a2)).bind fun (r16:api_Header)=>
  some r16
  else none
def Zb6 (a0:(List api_Move)) (a1:api_Header) (r1:Int) (x3:api_Move):Nat→api_Header→Int→Option api_Header
 | 0,_,_=>none
 | n28+1,v15,v16=>
  if (decide (v16<(5:Int)))=true then
   if 0≤v16∧v16<5 then
   (idx a0 r1).bind fun (x30:api_Move)=>
   if 0≤v16∧v16<5 then
   (Zgk a1 v16).bind fun (r33:Int)=>
   (Zg3 v15 v16 (IntKind.wrap .u32 ((Arr5.get x30.To v16).Lo + (IntKind.wrap .u32 (r33 - (Arr5.get x3.From v16).Lo))))).bind fun (r35:api_Header)=>
   Zb6 a0 a1 r1 x3 n28 r35 (IntKind.wrap .i64 (v16 + (1:Int)))
   else none
   else none
  else
   some v15
def Ze7 (a0:(List api_Move)) (a1:api_Header):Option api_Header:=
 (Ze6 a0 a1).bind fun (r1:Int)=>
 if (decide (r1<(0:Int)))=true then
  some a1
 else
  (idx a0 r1).bind fun (x3:api_Move)=>
  (Zb6 a0 a1 r1 x3 fuel a1 (0:Int)).bind fun (v26:api_Header)=>
   some v26
def Zcq (a0:nsggen_Tape):Option (api_Range × nsggen_Tape):=
 (Zm a0 (4:Int)).bind fun (r1:(Int × nsggen_Tape))=>
 if (r1.1 == (0:Int))=true then
  (Zm r1.2 (6:Int)).bind fun (r3:(Int × nsggen_Tape))=>
  (Zdr r3.1).bind fun (r5:api_Prefix)=>
  (Zfn r5).bind fun (r7:(api_Range × Bool))=>
  some (r7.1,r3.2)
 else
  if (r1.1 == (1:Int))=true then
   (Zb5 r1.2).bind fun (r9:(Int × nsggen_Tape))=>
   (Zb5 r9.2).bind fun (r11:(Int × nsggen_Tape))=>
   some ((api_Range.mk (iMin r9.1 r11.1) (iMax r9.1 r11.1)),r11.2)
  else
   if (r1.1 == (2:Int))=true then
    (Zb5 r1.2).bind fun (r13:(Int × nsggen_Tape))=>
    some ((api_Range.mk r13.1 r13.1),r13.2)
   else
    some ((api_Range.mk (0:Int) (4294967295:Int)),r1.2)
def Zde (a0:nsggen_Tape) (a1:Int):Option (api_Range × nsggen_Tape):=
 (Zbj a0 a1).bind fun (r1:(Int × nsggen_Tape))=>
 (Zbj r1.2 a1).bind fun (r3:(Int × nsggen_Tape))=>
 some ((api_Range.mk (iMin r1.1 r3.1) (iMax r1.1 r3.1)),r3.2)
def Zb7:Nat→nsggen_Tape→(Arr5 api_Range)→Int→Option (nsggen_Tape × (Arr5 api_Range))
 | 0,_,_,_=>none
 | n95+1,v47,v48,v49=>
  if (decide (v49 > (0:Int)))=true then
   ((Zm v47 (5:Int)).bind fun (r118:(Int × nsggen_Tape))=>
   if (r118.1 == (0:Int))=true then
    (Zcq r118.2).bind fun (r120:(api_Range × nsggen_Tape))=>
    some (r120.2,({ v48 with x0:=r120.1 }:(Arr5 api_Range)))
   else
    if (r118.1 == (1:Int))=true then
     (Zcq r118.2).bind fun (r122:(api_Range × nsggen_Tape))=>
     some (r122.2,({ v48 with x1:=r122.1 }:(Arr5 api_Range)))
    else
     if (r118.1 == (2:Int))=true then
      (Zm r118.2 (6:Int)).bind fun (r124:(Int × nsggen_Tape))=>
      (idx [(6:Int),(17:Int),(1:Int),(0:Int),(7:Int),(255:Int)] r124.1).bind fun (x126:Int)=>
      some (r124.2,({ v48 with x2:=(api_Range.mk x126 x126) }:(Arr5 api_Range)))
     else
      if (r118.1 == (3:Int))=true then
       (Zde r118.2 (65535:Int)).bind fun (r128:(api_Range × nsggen_Tape))=>
       some (r128.2,({ v48 with x3:=r128.1 }:(Arr5 api_Range)))
      else
       (Zde r118.2 (65535:Int)).bind fun (r130:(api_Range × nsggen_Tape))=>
       some (r130.2,({ v48 with x4:=r130.1 }:(Arr5 api_Range)))).bind fun (o116:(nsggen_Tape × (Arr5 api_Range)))=>
   match o116 with
   | (v114,v115)=>
    Zb7 n95 v114 v115 (IntKind.wrap .i64 (v49 - (1:Int)))
  else
   some (v47,v48)
def Zeo (a0:nsggen_Tape):Option ((Arr5 api_Range) × nsggen_Tape):=
 (Zfm).bind fun (r1:(Arr5 api_Range))=>
 (Zm a0 (3:Int)).bind fun (r3:(Int × nsggen_Tape))=>
 (Zb7 fuel r3.2 r1 (IntKind.wrap .i64 ((1:Int) + r3.1))).bind fun (o93:(nsggen_Tape × (Arr5 api_Range)))=>
 match o93 with
 | (v91,v92)=>
  some (v92,v91)
def Zbu (a2:Bool):Nat→nsggen_Tape→(List (Arr5 api_Range))→Int→Option (nsggen_Tape × (List (Arr5 api_Range)))
 | 0,_,_,_=>none
 | n137+1,v67,v68,v69=>
  if (decide (v69 > (0:Int)))=true then
   ((Zeo v67).bind fun (r171:((Arr5 api_Range) × nsggen_Tape))=>
   ((some a2).bind fun (b188:Bool)=>
   (if b188=true then
    (Zm r171.2 (8:Int)).bind fun (r190:(Int × nsggen_Tape))=>
    some ((r190.1 == (7:Int)),r190.2)
    else some (false,r171.2)).bind fun (v192:Bool × nsggen_Tape)=>
   if v192.1=true then
    (Zcv v192.2 r171.1).bind fun (r196:((Arr5 api_Range) × nsggen_Tape))=>
    some (r196.2,r196.1)
   else
    some (v192.2,r171.1)).bind fun (o186:(nsggen_Tape × (Arr5 api_Range)))=>
   match o186 with
   | (v184,v185)=>
    if List.length v68 + List.length [v185]≤lim then
    some (v184,(v68++[v185]))
    else none).bind fun (o169:(nsggen_Tape × (List (Arr5 api_Range))))=>
   match o169 with
   | (v167,v168)=>
    Zbu a2 n137 v167 v168 (IntKind.wrap .i64 (v69 - (1:Int)))
  else
   some (v67,v68)
def Zd3 (a0:nsggen_Tape) (a1:Int) (a2:Bool):Option ((List (Arr5 api_Range)) × nsggen_Tape):=
 (Zm a0 (IntKind.wrap .i64 (a1 + (1:Int)))).bind fun (r1:(Int × nsggen_Tape))=>
 (Zbu a2 fuel r1.2 ([]:(List (Arr5 api_Range))) r1.1).bind fun (o135:(nsggen_Tape × (List (Arr5 api_Range))))=>
 match o135 with
 | (v133,v134)=>
  some (v134,v133)
def Zda (a0:(List api_Move)):Nat→(List (Arr5 api_Range))→Int→Option (List (Arr5 api_Range))
 | 0,_,_=>none
 | n56+1,v27,v28=>
  if (decide (v28<(List.length a0:Int)))=true then
   ((idx a0 v28).bind fun (x70:api_Move)=>
   ((Zcg x70).bind fun (r77:Bool)=>
   if (!r77)=true then
    some ({ x70 with From:=(Arr5.mk (api_Range.mk (1:Int) (0:Int)) Zj Zj Zj Zj) }:api_Move)
   else
    some x70).bind fun (v75:api_Move)=>
    if List.length v27 + List.length [v75.From]≤lim then
    some (v27++[v75.From])
    else none).bind fun (v68:(List (Arr5 api_Range)))=>
    Zda a0 n56 v68 (IntKind.wrap .i64 (v28 + (1:Int)))
  else
   some v27
def Zfq (a0:(List api_Move)):Option (List (Arr5 api_Range)):=
 (Zda a0 fuel ([]:(List (Arr5 api_Range))) (0:Int)).bind fun (v54:(List (Arr5 api_Range)))=>
  some v54
def Zch (a0:(Arr5 api_Range)):Option Bool:=
 (Zd7 a0).bind fun (r1:Bool)=>
 some (!r1)
def Zw (a0:Nat) (a1:(List (Arr5 api_Range))):Nat→Int→Option (Unit ⊕ Int)
 | 0,_=>none
 | n10+1,v1=>
  if (decide (v1<(a0:Int)))=true then
   (idxn a0 a1 v1).bind fun (x11:(Arr5 api_Range))=>
   (Zch x11).bind fun (r13:Bool)=>
   if r13=true then
    some (.inr v1)
   else
    Zw a0 a1 n10 (IntKind.wrap .i64 (v1 + (1:Int)))
  else
   some (.inl ())
def Zbe (a0:Nat) (a1:(List (Arr5 api_Range))):Option Int:=
 (Zw a0 a1 fuel (0:Int)).bind fun (o8:(Unit ⊕ Int))=>
 match o8 with
 | .inl ()=>
   some (-1:Int)
 | .inr r17=>
   some r17
def Zv (a0:Nat):Nat→(List (Arr5 api_Range))→Int→Int→Option ((List (Arr5 api_Range)) × Int)
 | 0,_,_,_=>none
 | n50+1,v24,v25,v26=>
  if (decide (v26<(a0:Int)))=true then
   ((idxn a0 v24 v26).bind fun (x62:(Arr5 api_Range))=>
   (Zch x62).bind fun (r64:Bool)=>
   if (!r64)=true then
    (idxn a0 v24 v25).bind fun (_:(Arr5 api_Range))=>
    some ((List.set v24 (Int.toNat v25) x62),(IntKind.wrap .i64 (v25 + (1:Int))))
   else
    some (v24,v25)).bind fun (o60:((List (Arr5 api_Range)) × Int))=>
   match o60 with
   | (v58,v59)=>
    Zv a0 n50 v58 v59 (IntKind.wrap .i64 (v26 + (1:Int)))
  else
   some (v24,v25)
def Zak (a0:Nat) (a1:(List (Arr5 api_Range))):Option (Nat × (List (Arr5 api_Range))):=
 (Zbe a0 a1).bind fun (r1:Int)=>
 if (r1 == (-1:Int))=true then
  some (a0,a1)
 else
  (Zv a0 fuel a1 r1 (IntKind.wrap .i64 (r1 + (1:Int)))).bind fun (o48:((List (Arr5 api_Range)) × Int))=>
  match o48 with
  | (v46,v47)=>
   if 0≤v47∧v47≤(a0:Int)∧(a0:Int)≤(a0:Int) then
   if Int.toNat v47 + (Int.toNat (a0:Int) - Int.toNat v47)≤List.length v46 then
   if 0≤(0:Int)∧(0:Int)≤v47∧v47≤(a0:Int) then
   some ((Int.toNat v47),(List.take (Int.toNat v47) v46++List.replicate (Int.toNat (a0:Int) - Int.toNat v47) Zl++List.drop (Int.toNat v47 + (Int.toNat (a0:Int) - Int.toNat v47)) v46))
   else none
   else none
   else none
def Zax (a0:(List (Arr5 api_Range))):Nat→Int→Option (Unit ⊕ Int)
 | 0,_=>none
 | n10+1,v1=>
  if (decide (v1<(List.length a0:Int)))=true then
   (idx a0 v1).bind fun (x11:(Arr5 api_Range))=>
   (Zch x11).bind fun (r13:Bool)=>
   if r13=true then
    some (.inr v1)
   else
    Zax a0 n10 (IntKind.wrap .i64 (v1 + (1:Int)))
  else
   some (.inl ())
def Zb2 (a0:(List (Arr5 api_Range))):Option Int:=
 (Zax a0 fuel (0:Int)).bind fun (o8:(Unit ⊕ Int))=>
 match o8 with
 | .inl ()=>
   some (-1:Int)
 | .inr r17=>
   some r17
def Zal:Nat→Int→Int→Option Int
 | 0,_,_=>none
 | n20+1,v3,v4=>
  if (decide (v4<(List.length ([]:(List (Arr5 api_Range))):Int)))=true then
   ((idx ([]:(List (Arr5 api_Range))) v4).bind fun (x28:(Arr5 api_Range))=>
   (Zch x28).bind fun (r30:Bool)=>
   if (!r30)=true then
    none
   else
    some ()).bind fun (o26:Unit)=>
   match o26 with
   | ()=>
    Zal n20 v3 (IntKind.wrap .i64 (v4 + (1:Int)))
  else
   some v3
def Zbp:Option (List (Arr5 api_Range)):=
 (Zb2 ([]:(List (Arr5 api_Range)))).bind fun (r1:Int)=>
 if (r1 == (-1:Int))=true then
  some ([]:(List (Arr5 api_Range)))
 else
  (Zal fuel r1 (IntKind.wrap .i64 (r1 + (1:Int)))).bind fun (_:Int)=>
   none
def Zdw (a0:(List (Arr5 api_Range))):Option (List (Arr5 api_Range)):=
 if List.length a0≤lim then
 (handB a0 (Zak (List.length a0) a0) (Zbp)).bind fun (r2:(Nat × (List (Arr5 api_Range))))=>
 some (List.take r2.1 r2.2)
 else none
def Zbk (a0:Int) (v29:Int):Nat→(List (Arr5 api_Range))→Int→Option (List (Arr5 api_Range))
 | 0,_,_=>none
 | n75+1,v65,v66=>
  if (decide (v66≤a0))=true then
   (idx v65 v29).bind fun (x76:(Arr5 api_Range))=>
   if 0≤v66∧v66<5 then
   Zbk a0 v29 n75 (List.set v65 (Int.toNat v29) (Arr5.set x76 v66 (api_Range.mk (0:Int) (0:Int)))) (IntKind.wrap .i64 (v66 + (1:Int)))
   else none
  else
   some v65
def Zcs (a0:Int) (a1:(List (Arr5 api_Range))):Nat→(List (Arr5 api_Range))→Int→Option (List (Arr5 api_Range))
 | 0,_,_=>none
 | n57+1,v28,v29=>
  if (decide (v29<(List.length a1:Int)))=true then
   (Zbk a0 v29 fuel v28 (0:Int)).bind fun (v73:(List (Arr5 api_Range)))=>
    Zcs a0 a1 n57 v73 (IntKind.wrap .i64 (v29 + (1:Int)))
  else
   some v28
def Zep (a0:Int) (a1:(List (Arr5 api_Range))):Option (List (Arr5 api_Range)):=
 if List.length a1≤lim then
 (Zcs a0 a1 fuel a1 (0:Int)).bind fun (v55:(List (Arr5 api_Range)))=>
  some v55
 else none
def Zaq (a0:(List (Arr5 api_Range))) (a1:(List (Arr5 api_Range))):Nat→Int→Option (Unit ⊕ Bool)
 | 0,_=>none
 | n10+1,v1=>
  if (decide (v1<(List.length a0:Int)))=true then
   (idx a0 v1).bind fun (x11:(Arr5 api_Range))=>
   (idx a1 v1).bind fun (x13:(Arr5 api_Range))=>
   if (!(Zfv x11 x13))=true then
    some (.inr false)
   else
    Zaq a0 a1 n10 (IntKind.wrap .i64 (v1 + (1:Int)))
  else
   some (.inl ())
def Zac (a0:(List (Arr5 api_Range))) (a1:(List (Arr5 api_Range))):Option Bool:=
 if ((List.length a0:Int) != (List.length a1:Int))=true then
  some false
 else
  (Zaq a0 a1 fuel (0:Int)).bind fun (o8:(Unit ⊕ Bool))=>
  match o8 with
  | .inl ()=>
    some true
  | .inr r17=>
    some r17
def Zce (a0:Int) (v80:(List (Arr5 api_Range))):Nat→Int→Option Int
 | 0,_=>none
 | n178+1,v162=>
  (some (decide (v162<(List.length v80:Int)))).bind fun (b179:Bool)=>
  (if b179=true then
   (idx v80 v162).bind fun (x181:(Arr5 api_Range))=>
   if 0≤a0∧a0<5 then
   (idx v80 (0:Int)).bind fun (x184:(Arr5 api_Range))=>
   if 0≤a0∧a0<5 then
   some (Zdq (Arr5.get x181 a0) (Arr5.get x184 a0))
   else none
   else none
   else some false).bind fun (v187:Bool)=>
  if v187=true then
   Zce a0 v80 n178 (IntKind.wrap .i64 (v162 + (1:Int)))
  else
   some v162
def Zbv (a0:Int) (z0:Int→(List (Arr5 api_Range))→Option Bool):Nat→packetset_group→(List (Arr5 api_Range))→Option (packetset_group ⊕ Bool)
 | 0,_,_=>none
 | n161+1,v79,v80=>
  if (decide ((List.length v80:Int) > (0:Int)))=true then
   (Zce a0 v80 fuel (1:Int)).bind fun (v176:Int)=>
    (idx v80 (0:Int)).bind fun (x192:(Arr5 api_Range))=>
    if 0≤a0∧a0<5 then
    if 0≤(0:Int)∧(0:Int)≤v176∧v176≤(List.length v80:Int) then
    (Zep a0 (List.drop (Int.toNat (0:Int)) (List.take (Int.toNat v176) v80))).bind fun (r196:(List (Arr5 api_Range)))=>
    if 0≤(0:Int)∧(0:Int)≤v176∧v176≤(List.length v80:Int) then
    (z0 (IntKind.wrap .i64 (a0 + (1:Int))) (List.drop (Int.toNat (0:Int)) (List.take (Int.toNat v176) v80))).bind fun (r199:Bool)=>
    if (!r199)=true then
     some (.inr false)
    else
     (if (decide ((List.length v79.f_rest:Int) > (0:Int)))=true then
      (some (decide ((Arr5.get x192 a0).Lo≤v79.f_values.Hi))).bind fun (b219:Bool)=>
      (if b219=true then some true else
       (some ((Arr5.get x192 a0).Lo == (IntKind.wrap .u32 (v79.f_values.Hi + (1:Int))))).bind fun (b221:Bool)=>
       (if b221=true then
        (Zac r196 v79.f_rest).bind fun (r223:Bool)=>
        some r223
        else some false).bind fun (v225:Bool)=>
       some v225
       ).bind fun (v227:Bool)=>
      if v227=true then
       some (.inr false)
      else
       some (.inl ())
     else
      some (.inl ())).bind fun (o217:(Unit ⊕ Bool))=>
     match o217 with
     | .inl ()=>
       if 0≤v176∧v176≤(List.length v80:Int)∧(List.length v80:Int)≤(List.length v80:Int) then
       Zbv a0 z0 n161 (packetset_group.mk (Arr5.get x192 a0) r196) (List.drop (Int.toNat v176) (List.take (Int.toNat (List.length v80:Int)) v80))
       else none
     | .inr r236=>
       some (.inr r236)
    else none
    else none
    else none
  else
   some (.inl v79)
def Zbd:Nat→Int→(List (Arr5 api_Range))→Option Bool
 | 0,_,_=>none
 | nr+1,a0,a1=>
  if (a0 == (5:Int))=true then
   some (decide ((List.length a1:Int)≤(1:Int)))
  else
   (Zbv a0 (Zbd nr) fuel Zem a1).bind fun (o159:(packetset_group ⊕ Bool))=>
   match o159 with
   | .inl _=>
     some true
   | .inr r239=>
     some r239
def Zdb (a0:(List (Arr5 api_Range))):Option Bool:=
 (some (decide ((List.length a0:Int)≤(4096:Int)))).bind fun (b1:Bool)=>
 (if b1=true then
  (Zdw a0).bind fun (r3:(List (Arr5 api_Range)))=>
  some ((List.length r3:Int) == (List.length a0:Int))
  else some false).bind fun (v5:Bool)=>
 (some v5).bind fun (b7:Bool)=>
 (if b7=true then
  (Zbd fuel (0:Int) a0).bind fun (r9:Bool)=>
  some r9
  else some false).bind fun (v11:Bool)=>
 some v11
def Zdm (a0:Bool) (a1:Bool):Option Bool:=
 (some a0).bind fun (b1:Bool)=>
 some (b1 || a1)
def Zie (a0:Int):Option Int:=
 (some (decide (a0<(0:Int)))).bind fun (b1:Bool)=>
 if (b1 || (decide (a0 ≥ (5:Int))))=true then
  some (0:Int)
 else
  if 0≤a0∧a0<5 then
  some (Arr5.get Zaf a0)
  else none
def Zfk (a0:Int):Option Int:=
 (if (decide (a0 ≥ (4294967296:Int)))=true then
  some ((bShr .u64 a0 (32:Int)),(32:Int))
 else
  some (a0,(0:Int))).bind fun (o4:(Int × Int))=>
 match o4 with
 | (v2,v3)=>
  (if (decide (v2 ≥ (65536:Int)))=true then
   some ((bShr .u64 v2 (16:Int)),(IntKind.wrap .i64 (v3 + (16:Int))))
  else
   some (v2,v3)).bind fun (o10:(Int × Int))=>
  match o10 with
  | (v8,v9)=>
   (if (decide (v8 ≥ (256:Int)))=true then
    some ((bShr .u64 v8 (8:Int)),(IntKind.wrap .i64 (v9 + (8:Int))))
   else
    some (v8,v9)).bind fun (o16:(Int × Int))=>
   match o16 with
   | (v14,v15)=>
    (sidx ⟨#[0,1,2,2,3,3,3,3,4,4,4,4,4,4,4,4,5,5,5,5,5,5,5,5,5,5,5,5,5,5,5,5,6,6,6,6,6,6,6,6,6,6,6,6,6,6,6,6,6,6,6,6,6,6,6,6,6,6,6,6,6,6,6,6,7,7,7,7,7,7,7,7,7,7,7,7,7,7,7,7,7,7,7,7,7,7,7,7,7,7,7,7,7,7,7,7,7,7,7,7,7,7,7,7,7,7,7,7,7,7,7,7,7,7,7,7,7,7,7,7,7,7,7,7,7,7,7,7,8,8,8,8,8,8,8,8,8,8,8,8,8,8,8,8,8,8,8,8,8,8,8,8,8,8,8,8,8,8,8,8,8,8,8,8,8,8,8,8,8,8,8,8,8,8,8,8,8,8,8,8,8,8,8,8,8,8,8,8,8,8,8,8,8,8,8,8,8,8,8,8,8,8,8,8,8,8,8,8,8,8,8,8,8,8,8,8,8,8,8,8,8,8,8,8,8,8,8,8,8,8,8,8,8,8,8,8,8,8,8,8,8,8,8,8,8,8,8,8,8,8,8,8,8,8,8,8]⟩ (IntKind.wrap .u8 v14)).bind fun (x19:Int)=>
    some (IntKind.wrap .i64 (v15 + (IntKind.wrap .i64 x19)))
def Zeh (a0:Int):Option Int:=
 (Zfk a0).bind fun (r1:Int)=>
 some r1
def Zeb (a0:Int):Option Bool:=
 some (a0 != a0)
def Z1 (a0:Int) (a1:Int):Option Bool:=
 (Zeb a0).bind fun (r1:Bool)=>
 (some r1).bind fun (b3:Bool)=>
 (if b3=true then
  (Zeb a1).bind fun (r5:Bool)=>
  some (!r5)
  else some false).bind fun (v7:Bool)=>
 (some v7).bind fun (b9:Bool)=>
 some (b9 || (decide (a0<a1)))
def Z8 (a0:Nat) (a2:Int):Nat→(List Int)→Int→Option (List Int)
 | 0,_,_=>none
 | n194+1,v169,v170=>
  (some (decide (v170 > a2))).bind fun (b195:Bool)=>
  (if b195=true then
   (idxn a0 v169 v170).bind fun (x197:Int)=>
   (idxn a0 v169 (IntKind.wrap .i64 (v170 - (1:Int)))).bind fun (x199:Int)=>
   (Z1 x197 x199).bind fun (r201:Bool)=>
   some r201
   else some false).bind fun (v203:Bool)=>
  if v203=true then
   (idxn a0 v169 (IntKind.wrap .i64 (v170 - (1:Int)))).bind fun (x207:Int)=>
   (idxn a0 v169 v170).bind fun (x209:Int)=>
   (idxn a0 v169 v170).bind fun (_:Int)=>
   (idxn a0 (List.set v169 (Int.toNat v170) x207) (IntKind.wrap .i64 (v170 - (1:Int)))).bind fun (_:Int)=>
   Z8 a0 a2 n194 (List.set (List.set v169 (Int.toNat v170) x207) (Int.toNat (IntKind.wrap .i64 (v170 - (1:Int)))) x209) (IntKind.wrap .i64 (v170 - (1:Int)))
  else
   some v169
def Z9 (a0:Nat) (a2:Int) (a3:Int):Nat→(List Int)→Int→Option (List Int)
 | 0,_,_=>none
 | n146+1,v72,v73=>
  if (decide (v73<a3))=true then
   (Z8 a0 a2 fuel v72 v73).bind fun (v192:(List Int))=>
    Z9 a0 a2 a3 n146 v192 (IntKind.wrap .i64 (v73 + (1:Int)))
  else
   some v72
def Zbn (a0:Nat) (a1:(List Int)) (a2:Int) (a3:Int):Option (List Int):=
 (Z9 a0 a2 a3 fuel a1 (IntKind.wrap .i64 (a2 + (1:Int)))).bind fun (v144:(List Int))=>
  some v144
def Z4 (a0:Nat) (a3:Int) (a4:Int):Nat→(List Int)→Int→Option ((List Int) ⊕ (List Int))
 | 0,_,_=>none
 | n95+1,v46,v47=>
  if (decide ((IntKind.wrap .i64 ((IntKind.wrap .i64 ((2:Int) * v47)) + (1:Int))) ≥ a3))=true then
   some (.inl v46)
  else
   ((some (decide ((IntKind.wrap .i64 ((IntKind.wrap .i64 ((IntKind.wrap .i64 ((2:Int) * v47)) + (1:Int))) + (1:Int)))<a3))).bind fun (b111:Bool)=>
   (if b111=true then
    (idxn a0 v46 (IntKind.wrap .i64 (a4 + (IntKind.wrap .i64 ((IntKind.wrap .i64 ((2:Int) * v47)) + (1:Int)))))).bind fun (x113:Int)=>
    (idxn a0 v46 (IntKind.wrap .i64 ((IntKind.wrap .i64 (a4 + (IntKind.wrap .i64 ((IntKind.wrap .i64 ((2:Int) * v47)) + (1:Int))))) + (1:Int)))).bind fun (x115:Int)=>
    (Z1 x113 x115).bind fun (r117:Bool)=>
    some r117
    else some false).bind fun (v119:Bool)=>
   if v119=true then
    some (IntKind.wrap .i64 ((IntKind.wrap .i64 ((IntKind.wrap .i64 ((2:Int) * v47)) + (1:Int))) + (1:Int)))
   else
    some (IntKind.wrap .i64 ((IntKind.wrap .i64 ((2:Int) * v47)) + (1:Int)))).bind fun (v109:Int)=>
    (idxn a0 v46 (IntKind.wrap .i64 (a4 + v47))).bind fun (x124:Int)=>
    (idxn a0 v46 (IntKind.wrap .i64 (a4 + v109))).bind fun (x126:Int)=>
    (Z1 x124 x126).bind fun (r128:Bool)=>
    if (!r128)=true then
     some (.inr v46)
    else
     (idxn a0 v46 (IntKind.wrap .i64 (a4 + v109))).bind fun (x130:Int)=>
     (idxn a0 v46 (IntKind.wrap .i64 (a4 + v47))).bind fun (x132:Int)=>
     (idxn a0 v46 (IntKind.wrap .i64 (a4 + v47))).bind fun (_:Int)=>
     (idxn a0 (List.set v46 (Int.toNat (IntKind.wrap .i64 (a4 + v47))) x130) (IntKind.wrap .i64 (a4 + v109))).bind fun (_:Int)=>
     Z4 a0 a3 a4 n95 (List.set (List.set v46 (Int.toNat (IntKind.wrap .i64 (a4 + v47))) x130) (Int.toNat (IntKind.wrap .i64 (a4 + v109))) x132) v109
def Zbm (a0:Nat) (a1:(List Int)) (a2:Int) (a3:Int) (a4:Int):Option (List Int):=
 (Z4 a0 a3 a4 fuel a1 a2).bind fun (o93:((List Int) ⊕ (List Int)))=>
 match o93 with
 | .inl v92=>
   some v92
 | .inr r140=>
   some r140
def Zam (a0:Nat) (a2:Int) (a3:Int):Nat→(List Int)→Int→Option (List Int)
 | 0,_,_=>none
 | n12+1,v5,v6=>
  if (decide (v6 ≥ (0:Int)))=true then
   (Zbm a0 v5 v6 (IntKind.wrap .i64 (a3 - a2)) a2).bind fun (r13:(List Int))=>
   Zam a0 a2 a3 n12 r13 (IntKind.wrap .i64 (v6 - (1:Int)))
  else
   some v5
def Zan (a0:Nat) (a2:Int):Nat→(List Int)→Int→Option (List Int)
 | 0,_,_=>none
 | n43+1,v28,v29=>
  if (decide (v29 ≥ (0:Int)))=true then
   (idxn a0 v28 (IntKind.wrap .i64 (a2 + v29))).bind fun (x44:Int)=>
   (idxn a0 v28 a2).bind fun (x46:Int)=>
   (idxn a0 v28 a2).bind fun (_:Int)=>
   (idxn a0 (List.set v28 (Int.toNat a2) x44) (IntKind.wrap .i64 (a2 + v29))).bind fun (_:Int)=>
   (Zbm a0 (List.set (List.set v28 (Int.toNat a2) x44) (Int.toNat (IntKind.wrap .i64 (a2 + v29))) x46) (0:Int) v29 a2).bind fun (r52:(List Int))=>
   Zan a0 a2 n43 r52 (IntKind.wrap .i64 (v29 - (1:Int)))
  else
   some v28
def Zb3 (a0:Nat) (a1:(List Int)) (a2:Int) (a3:Int):Option (List Int):=
 (Zam a0 a2 a3 fuel a1 (IntKind.wrap .i64 (Int.tdiv (IntKind.wrap .i64 ((IntKind.wrap .i64 (a3 - a2)) - (1:Int))) (2:Int)))).bind fun (v10:(List Int))=>
  (Zan a0 a2 fuel v10 (IntKind.wrap .i64 ((IntKind.wrap .i64 (a3 - a2)) - (1:Int)))).bind fun (v41:(List Int))=>
   some v41
def Zd0 (a0:Int):Option Int:=
 (Zeh (IntKind.wrap .u64 a0)).bind fun (r1:Int)=>
 if 0≤r1 then
 some (bShl .u64 (1:Int) r1)
 else none
def Zdg (a0:Int):Option (Int × Int):=
 some ((bXor .u64 (bXor .u64 (bXor .u64 a0 (bShl .u64 a0 (13:Int))) (bShr .u64 (bXor .u64 a0 (bShl .u64 a0 (13:Int))) (7:Int))) (bShl .u64 (bXor .u64 (bXor .u64 a0 (bShl .u64 a0 (13:Int))) (bShr .u64 (bXor .u64 a0 (bShl .u64 a0 (13:Int))) (7:Int))) (17:Int))),(bXor .u64 (bXor .u64 (bXor .u64 a0 (bShl .u64 a0 (13:Int))) (bShr .u64 (bXor .u64 a0 (bShl .u64 a0 (13:Int))) (7:Int))) (bShl .u64 (bXor .u64 (bXor .u64 a0 (bShl .u64 a0 (13:Int))) (bShr .u64 (bXor .u64 a0 (bShl .u64 a0 (13:Int))) (7:Int))) (17:Int))))
def Zp (a0:Nat) (a2:Int) (a3:Int) (r1:Int):Nat→(List Int)→Int→Int→Option ((List Int) × Int)
 | 0,_,_,_=>none
 | n77+1,v37,v38,v39=>
  if (decide (v39≤(IntKind.wrap .i64 ((IntKind.wrap .i64 (a2 + (IntKind.wrap .i64 ((IntKind.wrap .i64 (Int.tdiv (IntKind.wrap .i64 (a3 - a2)) (4:Int))) * (2:Int))))) + (1:Int)))))=true then
   ((Zdg v38).bind fun (r96:(Int × Int))=>
   (if (decide ((IntKind.wrap .i64 (bAnd .u64 r96.1 (IntKind.wrap .u64 (r1 - (1:Int))))) ≥ (IntKind.wrap .i64 (a3 - a2))))=true then
    some (IntKind.wrap .i64 ((IntKind.wrap .i64 (bAnd .u64 r96.1 (IntKind.wrap .u64 (r1 - (1:Int))))) - (IntKind.wrap .i64 (a3 - a2))))
   else
    some (IntKind.wrap .i64 (bAnd .u64 r96.1 (IntKind.wrap .u64 (r1 - (1:Int)))))).bind fun (v99:Int)=>
    (idxn a0 v37 (IntKind.wrap .i64 (a2 + v99))).bind fun (x102:Int)=>
    (idxn a0 v37 v39).bind fun (x104:Int)=>
    (idxn a0 v37 v39).bind fun (_:Int)=>
    (idxn a0 (List.set v37 (Int.toNat v39) x102) (IntKind.wrap .i64 (a2 + v99))).bind fun (_:Int)=>
    some ((List.set (List.set v37 (Int.toNat v39) x102) (Int.toNat (IntKind.wrap .i64 (a2 + v99))) x104),r96.2)).bind fun (o94:((List Int) × Int))=>
   match o94 with
   | (v92,v93)=>
    Zp a0 a2 a3 r1 n77 v92 v93 (IntKind.wrap .i64 (v39 + (1:Int)))
  else
   some (v37,v38)
def Zaw (a0:Nat) (a1:(List Int)) (a2:Int) (a3:Int):Option (List Int):=
 if (decide ((IntKind.wrap .i64 (a3 - a2)) ≥ (8:Int)))=true then
  (Zd0 (IntKind.wrap .i64 (a3 - a2))).bind fun (r1:Int)=>
  (Zp a0 a2 a3 r1 fuel a1 (IntKind.wrap .u64 (IntKind.wrap .i64 (a3 - a2))) (IntKind.wrap .i64 ((IntKind.wrap .i64 (a2 + (IntKind.wrap .i64 ((IntKind.wrap .i64 (Int.tdiv (IntKind.wrap .i64 (a3 - a2)) (4:Int))) * (2:Int))))) - (1:Int)))).bind fun (o75:((List Int) × Int))=>
  match o75 with
  | (v73,_)=>
   some v73
 else
  some a1
def Zba (a0:Nat) (a1:(List Int)) (a2:Int) (a3:Int) (a4:Int):Option (Int × Int × Int):=
 (idxn a0 a1 a3).bind fun (x1:Int)=>
 (idxn a0 a1 a2).bind fun (x3:Int)=>
 (Z1 x1 x3).bind fun (r5:Bool)=>
 if r5=true then
  some (a3,a2,(IntKind.wrap .i64 (a4 + (1:Int))))
 else
  some (a2,a3,a4)
def Zbr (a0:Nat) (a1:(List Int)) (a2:Int) (a3:Int) (a4:Int) (a5:Int):Option (Int × Int):=
 (Zba a0 a1 a2 a3 a5).bind fun (r1:(Int × Int × Int))=>
 (Zba a0 a1 r1.2.1 a4 r1.2.2).bind fun (r3:(Int × Int × Int))=>
 (Zba a0 a1 r1.1 r3.1 r3.2.2).bind fun (r5:(Int × Int × Int))=>
 some (r5.2.1,r5.2.2)
def Zae (a0:Nat) (a1:(List Int)) (a2:Int) (a3:Int):Option (Int × Int):=
 (Zbr a0 a1 (IntKind.wrap .i64 (a2 - (1:Int))) a2 (IntKind.wrap .i64 (a2 + (1:Int))) a3).bind fun (r1:(Int × Int))=>
 some (r1.1,r1.2)
def Zbq (a0:Nat) (a1:(List Int)) (a2:Int) (a3:Int):Option (Int × Int):=
 (if (decide ((IntKind.wrap .i64 (a3 - a2)) ≥ (8:Int)))=true then
  (if (decide ((IntKind.wrap .i64 (a3 - a2)) ≥ (50:Int)))=true then
   (Zae a0 a1 (IntKind.wrap .i64 (a2 + (IntKind.wrap .i64 ((IntKind.wrap .i64 (Int.tdiv (IntKind.wrap .i64 (a3 - a2)) (4:Int))) * (1:Int))))) (0:Int)).bind fun (r41:(Int × Int))=>
   (Zae a0 a1 (IntKind.wrap .i64 (a2 + (IntKind.wrap .i64 ((IntKind.wrap .i64 (Int.tdiv (IntKind.wrap .i64 (a3 - a2)) (4:Int))) * (2:Int))))) r41.2).bind fun (r43:(Int × Int))=>
   (Zae a0 a1 (IntKind.wrap .i64 (a2 + (IntKind.wrap .i64 ((IntKind.wrap .i64 (Int.tdiv (IntKind.wrap .i64 (a3 - a2)) (4:Int))) * (3:Int))))) r43.2).bind fun (r45:(Int × Int))=>
   some (r45.2,r41.1,r43.1,r45.1)
  else
   some ((0:Int),(IntKind.wrap .i64 (a2 + (IntKind.wrap .i64 ((IntKind.wrap .i64 (Int.tdiv (IntKind.wrap .i64 (a3 - a2)) (4:Int))) * (1:Int))))),(IntKind.wrap .i64 (a2 + (IntKind.wrap .i64 ((IntKind.wrap .i64 (Int.tdiv (IntKind.wrap .i64 (a3 - a2)) (4:Int))) * (2:Int))))),(IntKind.wrap .i64 (a2 + (IntKind.wrap .i64 ((IntKind.wrap .i64 (Int.tdiv (IntKind.wrap .i64 (a3 - a2)) (4:Int))) * (3:Int))))))).bind fun (o39:(Int × Int × Int × Int))=>
  match o39 with
  | (v35,v36,v37,v38)=>
   (Zbr a0 a1 v36 v37 v38 v35).bind fun (r48:(Int × Int))=>
   some (r48.2,r48.1)
 else
  some ((0:Int),(IntKind.wrap .i64 (a2 + (IntKind.wrap .i64 ((IntKind.wrap .i64 (Int.tdiv (IntKind.wrap .i64 (a3 - a2)) (4:Int))) * (2:Int))))))).bind fun (o26:(Int × Int))=>
 match o26 with
 | (v24,v25)=>
  if (v24 == (0:Int))=true then
   some (v25,(1:Int))
  else
   if (v24 == (12:Int))=true then
    some (v25,(2:Int))
   else
    some (v25,(0:Int))
def Zaa (a0:Nat):Nat→(List Int)→Int→Int→Option (List Int)
 | 0,_,_,_=>none
 | n26+1,v12,v13,v14=>
  if (decide (v13<v14))=true then
   (idxn a0 v12 v14).bind fun (x27:Int)=>
   (idxn a0 v12 v13).bind fun (x29:Int)=>
   (idxn a0 v12 v13).bind fun (_:Int)=>
   (idxn a0 (List.set v12 (Int.toNat v13) x27) v14).bind fun (_:Int)=>
   Zaa a0 n26 (List.set (List.set v12 (Int.toNat v13) x27) (Int.toNat v14) x29) (IntKind.wrap .i64 (v13 + (1:Int))) (IntKind.wrap .i64 (v14 - (1:Int)))
  else
   some v12
def Zaz (a0:Nat) (a1:(List Int)) (a2:Int) (a3:Int):Option (List Int):=
 (Zaa a0 fuel a1 a2 (IntKind.wrap .i64 (a3 - (1:Int)))).bind fun (v24:(List Int))=>
  some v24
def Zx (a0:Nat) (a3:Int) (v423:(List Int)):Nat→Int→Option Int
 | 0,_=>none
 | n1077+1,v1061=>
  (some (decide (v1061<a3))).bind fun (b1078:Bool)=>
  (if b1078=true then
   (idxn a0 v423 v1061).bind fun (x1080:Int)=>
   (idxn a0 v423 (IntKind.wrap .i64 (v1061 - (1:Int)))).bind fun (x1082:Int)=>
   (Z1 x1080 x1082).bind fun (r1084:Bool)=>
   some (!r1084)
   else some false).bind fun (v1086:Bool)=>
  if v1086=true then
   Zx a0 a3 v423 n1077 (IntKind.wrap .i64 (v1061 + (1:Int)))
  else
   some v1061
def Zt (a0:Nat):Nat→(List Int)→Int→Option (List Int)
 | 0,_,_=>none
 | n1193+1,v1173,v1174=>
  if (decide (v1174 ≥ (1:Int)))=true then
   (idxn a0 v1173 v1174).bind fun (x1194:Int)=>
   (idxn a0 v1173 (IntKind.wrap .i64 (v1174 - (1:Int)))).bind fun (x1196:Int)=>
   (Z1 x1194 x1196).bind fun (r1198:Bool)=>
   if (!r1198)=true then
    some v1173
   else
    (idxn a0 v1173 (IntKind.wrap .i64 (v1174 - (1:Int)))).bind fun (x1200:Int)=>
    (idxn a0 v1173 v1174).bind fun (x1202:Int)=>
    (idxn a0 v1173 v1174).bind fun (_:Int)=>
    (idxn a0 (List.set v1173 (Int.toNat v1174) x1200) (IntKind.wrap .i64 (v1174 - (1:Int)))).bind fun (_:Int)=>
    Zt a0 n1193 (List.set (List.set v1173 (Int.toNat v1174) x1200) (Int.toNat (IntKind.wrap .i64 (v1174 - (1:Int)))) x1202) (IntKind.wrap .i64 (v1174 - (1:Int)))
  else
   some v1173
def Zy (a0:Nat) (a3:Int):Nat→(List Int)→Int→Option (List Int)
 | 0,_,_=>none
 | n1248+1,v1228,v1229=>
  if (decide (v1229<a3))=true then
   (idxn a0 v1228 v1229).bind fun (x1249:Int)=>
   (idxn a0 v1228 (IntKind.wrap .i64 (v1229 - (1:Int)))).bind fun (x1251:Int)=>
   (Z1 x1249 x1251).bind fun (r1253:Bool)=>
   if (!r1253)=true then
    some v1228
   else
    (idxn a0 v1228 (IntKind.wrap .i64 (v1229 - (1:Int)))).bind fun (x1255:Int)=>
    (idxn a0 v1228 v1229).bind fun (x1257:Int)=>
    (idxn a0 v1228 v1229).bind fun (_:Int)=>
    (idxn a0 (List.set v1228 (Int.toNat v1229) x1255) (IntKind.wrap .i64 (v1229 - (1:Int)))).bind fun (_:Int)=>
    Zy a0 a3 n1248 (List.set (List.set v1228 (Int.toNat v1229) x1255) (Int.toNat (IntKind.wrap .i64 (v1229 - (1:Int)))) x1257) (IntKind.wrap .i64 (v1229 + (1:Int)))
  else
   some v1228
def Zz (a0:Nat) (a2:Int) (a3:Int):Nat→(List Int)→Int→Int→Option ((List Int) ⊕ (Bool × (List Int)))
 | 0,_,_,_=>none
 | n849+1,v423,v424,v425=>
  if (decide (v425<(5:Int)))=true then
   ((Zx a0 a3 v423 fuel v424).bind fun (v1075:Int)=>
    if (v1075 == a3)=true then
     some (.inr (true,v423))
    else
     if (decide ((IntKind.wrap .i64 (a3 - a2))<(50:Int)))=true then
      some (.inr (false,v423))
     else
      (idxn a0 v423 (IntKind.wrap .i64 (v1075 - (1:Int)))).bind fun (x1091:Int)=>
      (idxn a0 v423 v1075).bind fun (x1093:Int)=>
      (idxn a0 v423 v1075).bind fun (_:Int)=>
      (idxn a0 (List.set v423 (Int.toNat v1075) x1091) (IntKind.wrap .i64 (v1075 - (1:Int)))).bind fun (_:Int)=>
      (if (decide ((IntKind.wrap .i64 (v1075 - a2)) ≥ (2:Int)))=true then
       (Zt a0 fuel (List.set (List.set v423 (Int.toNat v1075) x1091) (Int.toNat (IntKind.wrap .i64 (v1075 - (1:Int)))) x1093) (IntKind.wrap .i64 (v1075 - (1:Int)))).bind fun (v1191:(List Int))=>
        some v1191
      else
       some (List.set (List.set v423 (Int.toNat v1075) x1091) (Int.toNat (IntKind.wrap .i64 (v1075 - (1:Int)))) x1093)).bind fun (v1154:(List Int))=>
       if (decide ((IntKind.wrap .i64 (a3 - v1075)) ≥ (2:Int)))=true then
        (Zy a0 a3 fuel v1154 (IntKind.wrap .i64 (v1075 + (1:Int)))).bind fun (v1246:(List Int))=>
         some (.inl (v1246,v1075))
       else
        some (.inl (v1154,v1075))).bind fun (o1059:(((List Int) × Int) ⊕ (Bool × (List Int))))=>
   match o1059 with
   | .inl (v1057,v1058)=>
     Zz a0 a2 a3 n849 v1057 v1058 (IntKind.wrap .i64 (v425 + (1:Int)))
   | .inr r1268=>
     some (.inr r1268)
  else
   some (.inl v423)
def Zab (a0:Nat) (a1:(List Int)) (a2:Int) (a3:Int):Option (Bool × (List Int)):=
 (Zz a0 a2 a3 fuel a1 (IntKind.wrap .i64 (a2 + (1:Int))) (0:Int)).bind fun (o847:((List Int) ⊕ (Bool × (List Int))))=>
 match o847 with
 | .inl v846=>
   some (false,v846)
 | .inr r1270=>
   some r1270
def Zah (a0:Nat) (a2:Int) (v80:(List Int)) (v82:Int):Nat→Int→Option Int
 | 0,_=>none
 | n173+1,v157=>
  (some (decide (v157≤v82))).bind fun (b174:Bool)=>
  (if b174=true then
   (idxn a0 v80 a2).bind fun (x176:Int)=>
   (idxn a0 v80 v157).bind fun (x178:Int)=>
   (Z1 x176 x178).bind fun (r180:Bool)=>
   some (!r180)
   else some false).bind fun (v182:Bool)=>
  if v182=true then
   Zah a0 a2 v80 v82 n173 (IntKind.wrap .i64 (v157 + (1:Int)))
  else
   some v157
def Zai (a0:Nat) (a2:Int) (v80:(List Int)) (v171:Int):Nat→Int→Option Int
 | 0,_=>none
 | n203+1,v187=>
  (some (decide (v171≤v187))).bind fun (b204:Bool)=>
  (if b204=true then
   (idxn a0 v80 a2).bind fun (x206:Int)=>
   (idxn a0 v80 v187).bind fun (x208:Int)=>
   (Z1 x206 x208).bind fun (r210:Bool)=>
   some r210
   else some false).bind fun (v212:Bool)=>
  if v212=true then
   Zai a0 a2 v80 v171 n203 (IntKind.wrap .i64 (v187 - (1:Int)))
  else
   some v187
def Z6 (a0:Nat) (a2:Int):Nat→(List Int)→Int→Int→Option ((List Int) × Int)
 | 0,_,_,_=>none
 | n156+1,v80,v81,v82=>
  (Zah a0 a2 v80 v82 fuel v81).bind fun (v171:Int)=>
   (Zai a0 a2 v80 v171 fuel v82).bind fun (v201:Int)=>
    if (decide (v171 > v201))=true then
     some (v80,v171)
    else
     (idxn a0 v80 v201).bind fun (x217:Int)=>
     (idxn a0 v80 v171).bind fun (x219:Int)=>
     (idxn a0 v80 v171).bind fun (_:Int)=>
     (idxn a0 (List.set v80 (Int.toNat v171) x217) v201).bind fun (_:Int)=>
     Z6 a0 a2 n156 (List.set (List.set v80 (Int.toNat v171) x217) (Int.toNat v201) x219) (IntKind.wrap .i64 (v171 + (1:Int))) (IntKind.wrap .i64 (v201 - (1:Int)))
def Zbi (a0:Nat) (a1:(List Int)) (a2:Int) (a3:Int) (a4:Int):Option (Int × (List Int)):=
 (idxn a0 a1 a4).bind fun (x1:Int)=>
 (idxn a0 a1 a2).bind fun (x3:Int)=>
 (idxn a0 a1 a2).bind fun (_:Int)=>
 (idxn a0 (List.set a1 (Int.toNat a2) x1) a4).bind fun (_:Int)=>
 (Z6 a0 a2 fuel (List.set (List.set a1 (Int.toNat a2) x1) (Int.toNat a4) x3) (IntKind.wrap .i64 (a2 + (1:Int))) (IntKind.wrap .i64 (a3 - (1:Int)))).bind fun (o154:((List Int) × Int))=>
 match o154 with
 | (v152,v153)=>
  some (v153,v152)
def Za0 (a0:Nat) (a1:(List Int)) (a2:Int) (a3:Int) (a4:Int) (x1:Int) (x3:Int):Nat→Int→Option Int
 | 0,_=>none
 | n25+1,v9=>
  (some (decide (v9≤(IntKind.wrap .i64 (a3 - (1:Int)))))).bind fun (b26:Bool)=>
  (if b26=true then
   (idxn a0 (List.set (List.set a1 (Int.toNat a2) x1) (Int.toNat a4) x3) v9).bind fun (x28:Int)=>
   (idxn a0 (List.set (List.set a1 (Int.toNat a2) x1) (Int.toNat a4) x3) a2).bind fun (x30:Int)=>
   (Z1 x28 x30).bind fun (r32:Bool)=>
   some r32
   else some false).bind fun (v34:Bool)=>
  if v34=true then
   Za0 a0 a1 a2 a3 a4 x1 x3 n25 (IntKind.wrap .i64 (v9 + (1:Int)))
  else
   some v9
def Za1 (a0:Nat) (a1:(List Int)) (a2:Int) (a4:Int) (x1:Int) (x3:Int) (v23:Int):Nat→Int→Option Int
 | 0,_=>none
 | n55+1,v39=>
  (some (decide (v23≤v39))).bind fun (b56:Bool)=>
  (if b56=true then
   (idxn a0 (List.set (List.set a1 (Int.toNat a2) x1) (Int.toNat a4) x3) v39).bind fun (x58:Int)=>
   (idxn a0 (List.set (List.set a1 (Int.toNat a2) x1) (Int.toNat a4) x3) a2).bind fun (x60:Int)=>
   (Z1 x58 x60).bind fun (r62:Bool)=>
   some (!r62)
   else some false).bind fun (v64:Bool)=>
  if v64=true then
   Za1 a0 a1 a2 a4 x1 x3 v23 n55 (IntKind.wrap .i64 (v39 - (1:Int)))
  else
   some v39
def Za2 (a0:Nat) (a2:Int) (v156:(List Int)) (v158:Int):Nat→Int→Option Int
 | 0,_=>none
 | n249+1,v233=>
  (some (decide (v233≤v158))).bind fun (b250:Bool)=>
  (if b250=true then
   (idxn a0 v156 v233).bind fun (x252:Int)=>
   (idxn a0 v156 a2).bind fun (x254:Int)=>
   (Z1 x252 x254).bind fun (r256:Bool)=>
   some r256
   else some false).bind fun (v258:Bool)=>
  if v258=true then
   Za2 a0 a2 v156 v158 n249 (IntKind.wrap .i64 (v233 + (1:Int)))
  else
   some v233
def Za3 (a0:Nat) (a2:Int) (v156:(List Int)) (v247:Int):Nat→Int→Option Int
 | 0,_=>none
 | n279+1,v263=>
  (some (decide (v247≤v263))).bind fun (b280:Bool)=>
  (if b280=true then
   (idxn a0 v156 v263).bind fun (x282:Int)=>
   (idxn a0 v156 a2).bind fun (x284:Int)=>
   (Z1 x282 x284).bind fun (r286:Bool)=>
   some (!r286)
   else some false).bind fun (v288:Bool)=>
  if v288=true then
   Za3 a0 a2 v156 v247 n279 (IntKind.wrap .i64 (v263 - (1:Int)))
  else
   some v263
def Zaj (a0:Nat) (a2:Int):Nat→(List Int)→Int→Int→Option ((List Int) × Int)
 | 0,_,_,_=>none
 | n232+1,v156,v157,v158=>
  (Za2 a0 a2 v156 v158 fuel v157).bind fun (v247:Int)=>
   (Za3 a0 a2 v156 v247 fuel v158).bind fun (v277:Int)=>
    if (decide (v247 > v277))=true then
     some (v156,v277)
    else
     (idxn a0 v156 v277).bind fun (x293:Int)=>
     (idxn a0 v156 v247).bind fun (x295:Int)=>
     (idxn a0 v156 v247).bind fun (_:Int)=>
     (idxn a0 (List.set v156 (Int.toNat v247) x293) v277).bind fun (_:Int)=>
     Zaj a0 a2 n232 (List.set (List.set v156 (Int.toNat v247) x293) (Int.toNat v277) x295) (IntKind.wrap .i64 (v247 + (1:Int))) (IntKind.wrap .i64 (v277 - (1:Int)))
def Zbz (a0:Nat) (a1:(List Int)) (a2:Int) (a3:Int) (a4:Int):Option (Int × Bool × (List Int)):=
 (idxn a0 a1 a4).bind fun (x1:Int)=>
 (idxn a0 a1 a2).bind fun (x3:Int)=>
 (idxn a0 a1 a2).bind fun (_:Int)=>
 (idxn a0 (List.set a1 (Int.toNat a2) x1) a4).bind fun (_:Int)=>
 (Za0 a0 a1 a2 a3 a4 x1 x3 fuel (IntKind.wrap .i64 (a2 + (1:Int)))).bind fun (v23:Int)=>
  (Za1 a0 a1 a2 a4 x1 x3 v23 fuel (IntKind.wrap .i64 (a3 - (1:Int)))).bind fun (v53:Int)=>
   if (decide (v23 > v53))=true then
    (idxn a0 (List.set (List.set a1 (Int.toNat a2) x1) (Int.toNat a4) x3) a2).bind fun (x69:Int)=>
    (idxn a0 (List.set (List.set a1 (Int.toNat a2) x1) (Int.toNat a4) x3) v53).bind fun (x71:Int)=>
    (idxn a0 (List.set (List.set a1 (Int.toNat a2) x1) (Int.toNat a4) x3) v53).bind fun (_:Int)=>
    (idxn a0 (List.set (List.set (List.set a1 (Int.toNat a2) x1) (Int.toNat a4) x3) (Int.toNat v53) x69) a2).bind fun (_:Int)=>
    some (v53,true,(List.set (List.set (List.set (List.set a1 (Int.toNat a2) x1) (Int.toNat a4) x3) (Int.toNat v53) x69) (Int.toNat a2) x71))
   else
    (idxn a0 (List.set (List.set a1 (Int.toNat a2) x1) (Int.toNat a4) x3) v53).bind fun (x77:Int)=>
    (idxn a0 (List.set (List.set a1 (Int.toNat a2) x1) (Int.toNat a4) x3) v23).bind fun (x79:Int)=>
    (idxn a0 (List.set (List.set a1 (Int.toNat a2) x1) (Int.toNat a4) x3) v23).bind fun (_:Int)=>
    (idxn a0 (List.set (List.set (List.set a1 (Int.toNat a2) x1) (Int.toNat a4) x3) (Int.toNat v23) x77) v53).bind fun (_:Int)=>
    (Zaj a0 a2 fuel (List.set (List.set (List.set (List.set a1 (Int.toNat a2) x1) (Int.toNat a4) x3) (Int.toNat v23) x77) (Int.toNat v53) x79) (IntKind.wrap .i64 (v23 + (1:Int))) (IntKind.wrap .i64 (v53 - (1:Int)))).bind fun (o230:((List Int) × Int))=>
    match o230 with
    | (v228,v229)=>
     (idxn a0 v228 a2).bind fun (x302:Int)=>
     (idxn a0 v228 v229).bind fun (x304:Int)=>
     (idxn a0 v228 v229).bind fun (_:Int)=>
     (idxn a0 (List.set v228 (Int.toNat v229) x302) a2).bind fun (_:Int)=>
     some (v229,false,(List.set (List.set v228 (Int.toNat v229) x302) (Int.toNat a2) x304))
def Zad (a0:Nat) (z0:Nat→(List Int)→Int→Int→Int→Option (List Int)):Nat→(List Int)→Int→Int→Int→Bool→Bool→Option (List Int)
 | 0,_,_,_,_,_,_=>none
 | n156+1,v77,v78,v79,v80,v81,v82=>
  if (decide ((IntKind.wrap .i64 (v79 - v78))≤(12:Int)))=true then
   (Zbn a0 v77 v78 v79).bind fun (r157:(List Int))=>
   some r157
  else
   if (v80 == (0:Int))=true then
    (Zb3 a0 v77 v78 v79).bind fun (r159:(List Int))=>
    some r159
   else
    (if (!v81)=true then
     (Zaw a0 v77 v78 v79).bind fun (r168:(List Int))=>
     some (r168,(IntKind.wrap .i64 (v80 - (1:Int))))
    else
     some (v77,v80)).bind fun (o166:((List Int) × Int))=>
    match o166 with
    | (v164,v165)=>
     (Zbq a0 v164 v78 v79).bind fun (r171:(Int × Int))=>
     (if (r171.2 == (2:Int))=true then
      (Zaz a0 v164 v78 v79).bind fun (r181:(List Int))=>
      some (r181,(IntKind.wrap .i64 ((IntKind.wrap .i64 (v79 - (1:Int))) - (IntKind.wrap .i64 (r171.1 - v78)))),(1:Int))
     else
      some (v164,r171.1,r171.2)).bind fun (o179:((List Int) × Int × Int))=>
     match o179 with
     | (v176,v177,v178)=>
      ((some v81).bind fun (b195:Bool)=>
      (some (b195 && v82)).bind fun (b197:Bool)=>
      if (b197 && (v178 == (1:Int)))=true then
       (Zab a0 v176 v78 v79).bind fun (r199:(Bool × (List Int)))=>
       if r199.1=true then
        some (.inr r199.2)
       else
        some (.inl r199.2)
      else
       some (.inl v176)).bind fun (o193:((List Int) ⊕ (List Int)))=>
      match o193 with
      | .inl v192=>
        (some (decide (v78 > (0:Int)))).bind fun (b203:Bool)=>
        (if b203=true then
         (idxn a0 v192 (IntKind.wrap .i64 (v78 - (1:Int)))).bind fun (x205:Int)=>
         (idxn a0 v192 v177).bind fun (x207:Int)=>
         (Z1 x205 x207).bind fun (r209:Bool)=>
         some (!r209)
         else some false).bind fun (v211:Bool)=>
        if v211=true then
         (Zbi a0 v192 v78 v79 v177).bind fun (r215:(Int × (List Int)))=>
         Zad a0 z0 n156 r215.2 r215.1 v79 v165 v81 v82
        else
         (Zbz a0 v192 v78 v79 v177).bind fun (r217:(Int × Bool × (List Int)))=>
         if (decide ((IntKind.wrap .i64 (r217.1 - v78))<(IntKind.wrap .i64 (v79 - r217.1))))=true then
          (z0 a0 r217.2.2 v78 r217.1 v165).bind fun (r219:(List Int))=>
          Zad a0 z0 n156 r219 (IntKind.wrap .i64 (r217.1 + (1:Int))) v79 v165 (decide ((IntKind.wrap .i64 (r217.1 - v78)) ≥ (IntKind.wrap .i64 (Int.tdiv (IntKind.wrap .i64 (v79 - v78)) (8:Int))))) r217.2.1
         else
          (z0 a0 r217.2.2 (IntKind.wrap .i64 (r217.1 + (1:Int))) v79 v165).bind fun (r221:(List Int))=>
          Zad a0 z0 n156 r221 v78 r217.1 v165 (decide ((IntKind.wrap .i64 (v79 - r217.1)) ≥ (IntKind.wrap .i64 (Int.tdiv (IntKind.wrap .i64 (v79 - v78)) (8:Int))))) r217.2.1
      | .inr r225=>
        some r225
def Zs:Nat→Nat→(List Int)→Int→Int→Int→Option (List Int)
 | 0,_,_,_,_,_=>none
 | nr+1,a0,a1,a2,a3,a4=>
  (Zad a0 (Zs nr) fuel a1 a2 a3 a4 true true).bind fun (o154:(List Int))=>
  match o154 with
  | r228=>
   some r228
def Zcn (a0:Nat) (a1:(List Int)):Option (List Int):=
 (Zeh (IntKind.wrap .u64 (a0:Int))).bind fun (r1:Int)=>
 (Zs fuel a0 a1 (0:Int) (a0:Int) r1).bind fun (r3:(List Int))=>
 some r3
def Zar (a0:Nat) (v1:Int):Nat→(List Int)→Int→Int→Option ((List Int) × Int)
 | 0,_,_,_=>none
 | n154+1,v124,v125,v126=>
  if (decide (v126<(((Int.toNat (a0:Int) - Int.toNat v1):Nat):Int)))=true then
   ((idxv (Int.toNat (a0:Int) - Int.toNat v1) v124 v1 v126).bind fun (x168:Int)=>
   (idxv (Int.toNat (a0:Int) - Int.toNat v1) v124 v1 (IntKind.wrap .i64 (v126 - (1:Int)))).bind fun (x170:Int)=>
   if (x168 != x170)=true then
    (idxv (Int.toNat (a0:Int) - Int.toNat v1) v124 v1 v126).bind fun (x172:Int)=>
    (idxn a0 v124 v125).bind fun (_:Int)=>
    some ((List.set v124 (Int.toNat v125) x172),(IntKind.wrap .i64 (v125 + (1:Int))))
   else
    some (v124,v125)).bind fun (o166:((List Int) × Int))=>
   match o166 with
   | (v164,v165)=>
    Zar a0 v1 n154 v164 v165 (IntKind.wrap .i64 (v126 + (1:Int)))
  else
   some (v124,v125)
def Zas (a0:Nat) (a1:(List Int)):Nat→Int→Option (Unit ⊕ (Nat × (List Int)))
 | 0,_=>none
 | n93+1,v1=>
  if (decide (v1<(a0:Int)))=true then
   (idxn a0 a1 v1).bind fun (x94:Int)=>
   (idxn a0 a1 (IntKind.wrap .i64 (v1 - (1:Int)))).bind fun (x96:Int)=>
   if (x94 == x96)=true then
    if 0≤v1∧v1≤(a0:Int)∧(a0:Int)≤(a0:Int) then
    (Zar a0 v1 fuel a1 v1 (1:Int)).bind fun (o152:((List Int) × Int))=>
    match o152 with
    | (v150,v151)=>
     if 0≤v151∧v151≤(a0:Int)∧(a0:Int)≤(a0:Int) then
     if Int.toNat v151 + (Int.toNat (a0:Int) - Int.toNat v151)≤List.length v150 then
     if 0≤(0:Int)∧(0:Int)≤v151∧v151≤(a0:Int) then
     some (.inr ((Int.toNat v151),(List.take (Int.toNat v151) v150++List.replicate (Int.toNat (a0:Int) - Int.toNat v151) (0:Int)++List.drop (Int.toNat v151 + (Int.toNat (a0:Int) - Int.toNat v151)) v150)))
     else none
     else none
     else none
    else none
   else
    Zas a0 a1 n93 (IntKind.wrap .i64 (v1 + (1:Int)))
  else
   some (.inl ())
def Zb8 (a0:Nat) (a1:(List Int)):Option (Nat × (List Int)):=
 if (decide ((a0:Int)<(2:Int)))=true then
  some (a0,a1)
 else
  (Zas a0 a1 fuel (1:Int)).bind fun (o91:(Unit ⊕ (Nat × (List Int))))=>
  match o91 with
  | .inl ()=>
    some (a0,a1)
  | .inr r183=>
    some r183
def Zbx (v1:Int):Nat→Int→Int→Option Int
 | 0,_,_=>none
 | n65+1,v48,v49=>
  if (decide (v49<(List.length (List.drop (Int.toNat v1) (List.take (Int.toNat (List.length ([]:(List Int)):Int)) ([]:(List Int)))):Int)))=true then
   ((idx (List.drop (Int.toNat v1) (List.take (Int.toNat (List.length ([]:(List Int)):Int)) ([]:(List Int)))) v49).bind fun (x73:Int)=>
   (idx (List.drop (Int.toNat v1) (List.take (Int.toNat (List.length ([]:(List Int)):Int)) ([]:(List Int)))) (IntKind.wrap .i64 (v49 - (1:Int)))).bind fun (x75:Int)=>
   if (x73 != x75)=true then
    none
   else
    some ()).bind fun (o71:Unit)=>
   match o71 with
   | ()=>
    Zbx v1 n65 v48 (IntKind.wrap .i64 (v49 + (1:Int)))
  else
   some v48
def Zby:Nat→Int→Option (Unit ⊕ (List Int))
 | 0,_=>none
 | n42+1,v1=>
  if (decide (v1<(List.length ([]:(List Int)):Int)))=true then
   (idx ([]:(List Int)) v1).bind fun (x43:Int)=>
   (idx ([]:(List Int)) (IntKind.wrap .i64 (v1 - (1:Int)))).bind fun (x45:Int)=>
   if (x43 == x45)=true then
    if 0≤v1∧v1≤(List.length ([]:(List Int)):Int)∧(List.length ([]:(List Int)):Int)≤(List.length ([]:(List Int)):Int) then
    (Zbx v1 fuel v1 (1:Int)).bind fun (_:Int)=>
     none
    else none
   else
    Zby n42 (IntKind.wrap .i64 (v1 + (1:Int)))
  else
   some (.inl ())
def Zb9:Option (List Int):=
 if (decide ((List.length ([]:(List Int)):Int)<(2:Int)))=true then
  some ([]:(List Int))
 else
  (Zby fuel (1:Int)).bind fun (o40:(Unit ⊕ (List Int)))=>
  match o40 with
  | .inl ()=>
    some ([]:(List Int))
  | .inr r81=>
    some r81
def Zci (a0:Int) (x63:(List (Arr5 api_Range))):Nat→(List Int)→Int→Option (List Int)
 | 0,_,_=>none
 | n82+1,v72,v73=>
  if (decide (v73<(List.length x63:Int)))=true then
   (idx x63 v73).bind fun (x83:(Arr5 api_Range))=>
   if 0≤a0∧a0<5 then
   if 0≤a0∧a0<5 then
   if List.length v72 + List.length [(IntKind.wrap .u64 (Arr5.get x83 a0).Lo),(IntKind.wrap .u64 ((IntKind.wrap .u64 (Arr5.get x83 a0).Hi) + (1:Int)))]≤lim then
   Zci a0 x63 n82 (v72++[(IntKind.wrap .u64 (Arr5.get x83 a0).Lo),(IntKind.wrap .u64 ((IntKind.wrap .u64 (Arr5.get x83 a0).Hi) + (1:Int)))]) (IntKind.wrap .i64 (v73 + (1:Int)))
   else none
   else none
   else none
  else
   some v72
def Zcj (a0:Int) (a1:(List (List (Arr5 api_Range)))):Nat→(List Int)→Int→Option (List Int)
 | 0,_,_=>none
 | n62+1,v31,v32=>
  if (decide (v32<(List.length a1:Int)))=true then
   (idx a1 v32).bind fun (x63:(List (Arr5 api_Range)))=>
   (Zci a0 x63 fuel v31 (0:Int)).bind fun (v80:(List Int))=>
    Zcj a0 a1 n62 v80 (IntKind.wrap .i64 (v32 + (1:Int)))
  else
   some v31
def Zc4 (a0:Int) (a1:(List (List (Arr5 api_Range)))):Option (List Int):=
 (Zie a0).bind fun (r1:Int)=>
 (Zcj a0 a1 fuel [(0:Int),(IntKind.wrap .u64 ((IntKind.wrap .u64 r1) + (1:Int)))] (0:Int)).bind fun (v60:(List Int))=>
  if v60 ≠ [] then
  (Zcn (List.length v60) v60).bind fun (r90:(List Int))=>
  if List.length r90=List.length v60 then
  (handB r90 (Zb8 (List.length r90) r90) (Zb9)).bind fun (r94:(Nat × (List Int)))=>
  some (List.take r94.1 r94.2)
  else none
  else none
def Zb4 (a0:(List (Arr5 api_Range))) (a1:Int) (a2:Int):Nat→(List (Arr5 api_Range))→Int→Option (List (Arr5 api_Range))
 | 0,_,_=>none
 | n60+1,v29,v30=>
  if (decide (v30<(List.length a0:Int)))=true then
   ((idx a0 v30).bind fun (x75:(Arr5 api_Range))=>
   if 0≤a1∧a1<5 then
   (some (decide ((Arr5.get x75 a1).Lo≤a2))).bind fun (b78:Bool)=>
   (if b78=true then
    if 0≤a1∧a1<5 then
    some (decide (a2≤(Arr5.get x75 a1).Hi))
    else none
    else some false).bind fun (v81:Bool)=>
   if v81=true then
    if List.length v29 + List.length [x75]≤lim then
    some (v29++[x75])
    else none
   else
    some v29
   else none).bind fun (v73:(List (Arr5 api_Range)))=>
    Zb4 a0 a1 a2 n60 v73 (IntKind.wrap .i64 (v30 + (1:Int)))
  else
   some v29
def Zbl (a0:(List (Arr5 api_Range))) (a1:Int) (a2:Int):Option (List (Arr5 api_Range)):=
 (Zb4 a0 a1 a2 fuel ([]:(List (Arr5 api_Range))) (0:Int)).bind fun (v58:(List (Arr5 api_Range)))=>
  some v58
def Zq (a0:Int) (a1:(List (Arr5 api_Range))) (a2:(List (Arr5 api_Range))) (a3:Int) (z0:Int→(List (Arr5 api_Range))→(List (Arr5 api_Range))→Int→Option ((List (Arr5 api_Range)) × Bool)) (r12:(List Int)):Nat→(List packetset_group)→Int→Int→Option (((List packetset_group) × Int) ⊕ ((List (Arr5 api_Range)) × Bool))
 | 0,_,_,_=>none
 | n179+1,v94,v95,v96=>
  if (decide ((IntKind.wrap .i64 (v96 + (1:Int)))<(List.length r12:Int)))=true then
   ((idx r12 v96).bind fun (x220:Int)=>
   (idx r12 (IntKind.wrap .i64 (v96 + (1:Int)))).bind fun (x222:Int)=>
   (Zbl a1 a0 (IntKind.wrap .u32 x220)).bind fun (r224:(List (Arr5 api_Range)))=>
   (Zbl a2 a0 (IntKind.wrap .u32 x220)).bind fun (r226:(List (Arr5 api_Range)))=>
   (z0 (IntKind.wrap .i64 (a0 + (1:Int))) r224 r226 a3).bind fun (r228:((List (Arr5 api_Range)) × Bool))=>
   if (!r228.2)=true then
    some (.inr (([]:(List (Arr5 api_Range))),false))
   else
    if ((List.length r228.1:Int) == (0:Int))=true then
     some (.inl (v94,v95))
    else
     (some (decide ((List.length v94:Int) > (0:Int)))).bind fun (b230:Bool)=>
     (if b230=true then
      (idx v94 (IntKind.wrap .i64 ((List.length v94:Int) - (1:Int)))).bind fun (x232:packetset_group)=>
      some ((IntKind.wrap .u32 (x232.f_values.Hi + (1:Int))) == (IntKind.wrap .u32 x220))
      else some false).bind fun (v234:Bool)=>
     (some v234).bind fun (b236:Bool)=>
     (if b236=true then
      (idx v94 (IntKind.wrap .i64 ((List.length v94:Int) - (1:Int)))).bind fun (x238:packetset_group)=>
      (Zac x238.f_rest r228.1).bind fun (r240:Bool)=>
      some r240
      else some false).bind fun (v242:Bool)=>
     if v242=true then
      (idx v94 (IntKind.wrap .i64 ((List.length v94:Int) - (1:Int)))).bind fun (x249:packetset_group)=>
      some (.inl ((List.set v94 (Int.toNat (IntKind.wrap .i64 ((List.length v94:Int) - (1:Int)))) ({ x249 with f_values:=({ x249.f_values with Hi:=(IntKind.wrap .u32 (IntKind.wrap .u64 (x222 - (1:Int)))) }:api_Range) }:packetset_group)),v95))
     else
      if List.length v94 + List.length [(packetset_group.mk (api_Range.mk (IntKind.wrap .u32 x220) (IntKind.wrap .u32 (IntKind.wrap .u64 (x222 - (1:Int))))) r228.1)]≤lim then
      if (decide ((IntKind.wrap .i64 (v95 + (List.length r228.1:Int))) > a3))=true then
       some (.inr (([]:(List (Arr5 api_Range))),false))
      else
       some (.inl ((v94++[(packetset_group.mk (api_Range.mk (IntKind.wrap .u32 x220) (IntKind.wrap .u32 (IntKind.wrap .u64 (x222 - (1:Int))))) r228.1)]),(IntKind.wrap .i64 (v95 + (List.length r228.1:Int)))))
      else none).bind fun (o218:(((List packetset_group) × Int) ⊕ ((List (Arr5 api_Range)) × Bool)))=>
   match o218 with
   | .inl (v216,v217)=>
     Zq a0 a1 a2 a3 z0 r12 n179 v216 v217 (IntKind.wrap .i64 (v96 + (1:Int)))
   | .inr r256=>
     some (.inr r256)
  else
   some (.inl (v94,v95))
def Zr (a0:Int) (x325:packetset_group):Nat→(List (Arr5 api_Range))→Int→Option (List (Arr5 api_Range))
 | 0,_,_=>none
 | n346+1,v335,v336=>
  if (decide (v336<(List.length x325.f_rest:Int)))=true then
   (idx x325.f_rest v336).bind fun (x347:(Arr5 api_Range))=>
   if 0≤a0∧a0<5 then
   if List.length v335 + List.length [(Arr5.set x347 a0 x325.f_values)]≤lim then
   Zr a0 x325 n346 (v335++[(Arr5.set x347 a0 x325.f_values)]) (IntKind.wrap .i64 (v336 + (1:Int)))
   else none
   else none
  else
   some v335
def Zo (a0:Int) (v175:(List packetset_group)):Nat→(List (Arr5 api_Range))→Int→Option (List (Arr5 api_Range))
 | 0,_,_=>none
 | n324+1,v290,v291=>
  if (decide (v291<(List.length v175:Int)))=true then
   (idx v175 v291).bind fun (x325:packetset_group)=>
   (Zr a0 x325 fuel v290 (0:Int)).bind fun (v344:(List (Arr5 api_Range)))=>
    Zo a0 v175 n324 v344 (IntKind.wrap .i64 (v291 + (1:Int)))
  else
   some v290
def Z3:Nat→Int→(List (Arr5 api_Range))→(List (Arr5 api_Range))→Int→Option ((List (Arr5 api_Range)) × Bool)
 | 0,_,_,_,_=>none
 | nr+1,a0,a1,a2,a3=>
  if (a0 == (5:Int))=true then
   (Zdm (decide ((List.length a1:Int) > (0:Int))) (decide ((List.length a2:Int) > (0:Int)))).bind fun (r1:Bool)=>
   if r1=true then
    some ([(Arr5.mk Zj Zj Zj Zj Zj)],true)
   else
    some (([]:(List (Arr5 api_Range))),true)
  else
   (some ((IntKind.wrap .i64 ((List.length a1:Int) + (List.length a2:Int))) == (0:Int))).bind fun (b4:Bool)=>
   (if b4=true then
    (Zdm false false).bind fun (r6:Bool)=>
    some (!r6)
    else some false).bind fun (v8:Bool)=>
   if v8=true then
    some (([]:(List (Arr5 api_Range))),true)
   else
    (Zc4 a0 [a1,a2]).bind fun (r12:(List Int))=>
    (Zq a0 a1 a2 a3 (Z3 nr) r12 fuel ([]:(List packetset_group)) (0:Int) (0:Int)).bind fun (o177:(((List packetset_group) × Int) ⊕ ((List (Arr5 api_Range)) × Bool)))=>
    match o177 with
    | .inl (v175,v176)=>
      if 0≤v176∧v176≤(lim:Int) then
      (Zo a0 v175 fuel ([]:(List (Arr5 api_Range))) (0:Int)).bind fun (v322:(List (Arr5 api_Range)))=>
       some (v322,true)
      else none
    | .inr r355=>
      some r355
def Zbb (a0:(List (Arr5 api_Range))) (a1:(List (Arr5 api_Range))):Option ((List (Arr5 api_Range)) × Int):=
 (Z3 fuel (0:Int) a0 a1 (4096:Int)).bind fun (r1:((List (Arr5 api_Range)) × Bool))=>
 if (!r1.2)=true then
  some (([]:(List (Arr5 api_Range))),(3:Int))
 else
  some (r1.1,(0:Int))
def Zcy (r1:(List (Arr5 api_Range))):Nat→(List (Arr5 api_Range))→Int→Option ((List (Arr5 api_Range)) ⊕ ((List (Arr5 api_Range)) × Int))
 | 0,_,_=>none
 | n14+1,v3,v4=>
  if (decide (v4<(List.length r1:Int)))=true then
   (idx r1 v4).bind fun (x15:(Arr5 api_Range))=>
   (Zbb v3 [x15]).bind fun (r17:((List (Arr5 api_Range)) × Int))=>
   if (r17.2 != (0:Int))=true then
    some (.inr (([]:(List (Arr5 api_Range))),r17.2))
   else
    Zcy r1 n14 r17.1 (IntKind.wrap .i64 (v4 + (1:Int)))
  else
   some (.inl v3)
def Zd5 (a0:(List (Arr5 api_Range))):Option ((List (Arr5 api_Range)) × Int):=
 (Zdw a0).bind fun (r1:(List (Arr5 api_Range)))=>
 (Zcy r1 fuel ([]:(List (Arr5 api_Range))) (0:Int)).bind fun (o12:((List (Arr5 api_Range)) ⊕ ((List (Arr5 api_Range)) × Int)))=>
 match o12 with
 | .inl v11=>
   some (v11,(0:Int))
 | .inr r21=>
   some r21
def Zb0 (a0:rewrite_ledger) (a1:(List (Arr5 api_Range))) (a2:Int):Option ((List (Arr5 api_Range)) × rewrite_ledger):=
 (if (a0.f_err == (0:Int))=true then
  some ({ a0 with f_err:=a2 }:rewrite_ledger)
 else
  some a0).bind fun (v2:rewrite_ledger)=>
  if (v2.f_err != (0:Int))=true then
   some (([]:(List (Arr5 api_Range))),v2)
  else
   some (a1,v2)
def Zc1 (a0:rewrite_ledger) (a1:(List (Arr5 api_Range))):Option ((List (Arr5 api_Range)) × rewrite_ledger):=
 (Zdb a1).bind fun (r1:Bool)=>
 if r1=true then
  some (a1,a0)
 else
  (Zd5 a1).bind fun (r3:((List (Arr5 api_Range)) × Int))=>
  (Zb0 a0 r3.1 r3.2).bind fun (r5:((List (Arr5 api_Range)) × rewrite_ledger))=>
  some (r5.1,r5.2)
def Zcm (a0:(List (Arr5 api_Range))):Option ((List (Arr5 api_Range)) × Int):=
 (Zdb a0).bind fun (r1:Bool)=>
 if r1=true then
  some (a0,(0:Int))
 else
  (Zd5 a0).bind fun (r3:((List (Arr5 api_Range)) × Int))=>
  some (r3.1,r3.2)
def Zd6 (a0:Bool) (a1:Bool):Option Bool:=
 (some a0).bind fun (b1:Bool)=>
 some (b1 && a1)
def Zbf (a0:Int) (a1:(List (Arr5 api_Range))) (a2:(List (Arr5 api_Range))) (a3:Int) (z0:Int→(List (Arr5 api_Range))→(List (Arr5 api_Range))→Int→Option ((List (Arr5 api_Range)) × Bool)) (r12:(List Int)):Nat→(List packetset_group)→Int→Int→Option (((List packetset_group) × Int) ⊕ ((List (Arr5 api_Range)) × Bool))
 | 0,_,_,_=>none
 | n179+1,v94,v95,v96=>
  if (decide ((IntKind.wrap .i64 (v96 + (1:Int)))<(List.length r12:Int)))=true then
   ((idx r12 v96).bind fun (x220:Int)=>
   (idx r12 (IntKind.wrap .i64 (v96 + (1:Int)))).bind fun (x222:Int)=>
   (Zbl a1 a0 (IntKind.wrap .u32 x220)).bind fun (r224:(List (Arr5 api_Range)))=>
   (Zbl a2 a0 (IntKind.wrap .u32 x220)).bind fun (r226:(List (Arr5 api_Range)))=>
   (z0 (IntKind.wrap .i64 (a0 + (1:Int))) r224 r226 a3).bind fun (r228:((List (Arr5 api_Range)) × Bool))=>
   if (!r228.2)=true then
    some (.inr (([]:(List (Arr5 api_Range))),false))
   else
    if ((List.length r228.1:Int) == (0:Int))=true then
     some (.inl (v94,v95))
    else
     (some (decide ((List.length v94:Int) > (0:Int)))).bind fun (b230:Bool)=>
     (if b230=true then
      (idx v94 (IntKind.wrap .i64 ((List.length v94:Int) - (1:Int)))).bind fun (x232:packetset_group)=>
      some ((IntKind.wrap .u32 (x232.f_values.Hi + (1:Int))) == (IntKind.wrap .u32 x220))
      else some false).bind fun (v234:Bool)=>
     (some v234).bind fun (b236:Bool)=>
     (if b236=true then
      (idx v94 (IntKind.wrap .i64 ((List.length v94:Int) - (1:Int)))).bind fun (x238:packetset_group)=>
      (Zac x238.f_rest r228.1).bind fun (r240:Bool)=>
      some r240
      else some false).bind fun (v242:Bool)=>
     if v242=true then
      (idx v94 (IntKind.wrap .i64 ((List.length v94:Int) - (1:Int)))).bind fun (x249:packetset_group)=>
      some (.inl ((List.set v94 (Int.toNat (IntKind.wrap .i64 ((List.length v94:Int) - (1:Int)))) ({ x249 with f_values:=({ x249.f_values with Hi:=(IntKind.wrap .u32 (IntKind.wrap .u64 (x222 - (1:Int)))) }:api_Range) }:packetset_group)),v95))
     else
      if List.length v94 + List.length [(packetset_group.mk (api_Range.mk (IntKind.wrap .u32 x220) (IntKind.wrap .u32 (IntKind.wrap .u64 (x222 - (1:Int))))) r228.1)]≤lim then
      if (decide ((IntKind.wrap .i64 (v95 + (List.length r228.1:Int))) > a3))=true then
       some (.inr (([]:(List (Arr5 api_Range))),false))
      else
       some (.inl ((v94++[(packetset_group.mk (api_Range.mk (IntKind.wrap .u32 x220) (IntKind.wrap .u32 (IntKind.wrap .u64 (x222 - (1:Int))))) r228.1)]),(IntKind.wrap .i64 (v95 + (List.length r228.1:Int)))))
      else none).bind fun (o218:(((List packetset_group) × Int) ⊕ ((List (Arr5 api_Range)) × Bool)))=>
   match o218 with
   | .inl (v216,v217)=>
     Zbf a0 a1 a2 a3 z0 r12 n179 v216 v217 (IntKind.wrap .i64 (v96 + (1:Int)))
   | .inr r256=>
     some (.inr r256)
  else
   some (.inl (v94,v95))
def Zbg (a0:Int) (x325:packetset_group):Nat→(List (Arr5 api_Range))→Int→Option (List (Arr5 api_Range))
 | 0,_,_=>none
 | n346+1,v335,v336=>
  if (decide (v336<(List.length x325.f_rest:Int)))=true then
   (idx x325.f_rest v336).bind fun (x347:(Arr5 api_Range))=>
   if 0≤a0∧a0<5 then
   if List.length v335 + List.length [(Arr5.set x347 a0 x325.f_values)]≤lim then
   Zbg a0 x325 n346 (v335++[(Arr5.set x347 a0 x325.f_values)]) (IntKind.wrap .i64 (v336 + (1:Int)))
   else none
   else none
  else
   some v335
def Zbh (a0:Int) (v175:(List packetset_group)):Nat→(List (Arr5 api_Range))→Int→Option (List (Arr5 api_Range))
 | 0,_,_=>none
 | n324+1,v290,v291=>
  if (decide (v291<(List.length v175:Int)))=true then
   (idx v175 v291).bind fun (x325:packetset_group)=>
   (Zbg a0 x325 fuel v290 (0:Int)).bind fun (v344:(List (Arr5 api_Range)))=>
    Zbh a0 v175 n324 v344 (IntKind.wrap .i64 (v291 + (1:Int)))
  else
   some v290
def Z7:Nat→Int→(List (Arr5 api_Range))→(List (Arr5 api_Range))→Int→Option ((List (Arr5 api_Range)) × Bool)
 | 0,_,_,_,_=>none
 | nr+1,a0,a1,a2,a3=>
  if (a0 == (5:Int))=true then
   (Zd6 (decide ((List.length a1:Int) > (0:Int))) (decide ((List.length a2:Int) > (0:Int)))).bind fun (r1:Bool)=>
   if r1=true then
    some ([(Arr5.mk Zj Zj Zj Zj Zj)],true)
   else
    some (([]:(List (Arr5 api_Range))),true)
  else
   (some ((IntKind.wrap .i64 ((List.length a1:Int) + (List.length a2:Int))) == (0:Int))).bind fun (b4:Bool)=>
   (if b4=true then
    (Zd6 false false).bind fun (r6:Bool)=>
    some (!r6)
    else some false).bind fun (v8:Bool)=>
   if v8=true then
    some (([]:(List (Arr5 api_Range))),true)
   else
    (Zc4 a0 [a1,a2]).bind fun (r12:(List Int))=>
    (Zbf a0 a1 a2 a3 (Z7 nr) r12 fuel ([]:(List packetset_group)) (0:Int) (0:Int)).bind fun (o177:(((List packetset_group) × Int) ⊕ ((List (Arr5 api_Range)) × Bool)))=>
    match o177 with
    | .inl (v175,v176)=>
      if 0≤v176∧v176≤(lim:Int) then
      (Zbh a0 v175 fuel ([]:(List (Arr5 api_Range))) (0:Int)).bind fun (v322:(List (Arr5 api_Range)))=>
       some (v322,true)
      else none
    | .inr r355=>
      some r355
def Zco (a0:(List (Arr5 api_Range))) (a1:(List (Arr5 api_Range))):Option ((List (Arr5 api_Range)) × Int):=
 (Z7 fuel (0:Int) a0 a1 (4096:Int)).bind fun (r1:((List (Arr5 api_Range)) × Bool))=>
 if (!r1.2)=true then
  some (([]:(List (Arr5 api_Range))),(3:Int))
 else
  some (r1.1,(0:Int))
def Zd8 (a0:(List (Arr5 api_Range))) (a1:(List (Arr5 api_Range))):Option ((List (Arr5 api_Range)) × Int):=
 (Zcm a0).bind fun (r1:((List (Arr5 api_Range)) × Int))=>
 if (r1.2 != (0:Int))=true then
  some (([]:(List (Arr5 api_Range))),r1.2)
 else
  (Zcm a1).bind fun (r3:((List (Arr5 api_Range)) × Int))=>
  if (r3.2 != (0:Int))=true then
   some (([]:(List (Arr5 api_Range))),r3.2)
  else
   (Zco r1.1 r3.1).bind fun (r5:((List (Arr5 api_Range)) × Int))=>
   some (r5.1,r5.2)
def Zdn (a0:(List (Arr5 api_Range))) (a1:(List (Arr5 api_Range))):Option ((List (Arr5 api_Range)) × Int):=
 (Zd8 a0 a1).bind fun (r1:((List (Arr5 api_Range)) × Int))=>
 some (r1.1,r1.2)
def Zau (a0:rewrite_ledger) (a1:(List (Arr5 api_Range))) (a2:(List (Arr5 api_Range))):Option ((List (Arr5 api_Range)) × rewrite_ledger):=
 (Zdn a1 a2).bind fun (r1:((List (Arr5 api_Range)) × Int))=>
 (Zb0 a0 r1.1 r1.2).bind fun (r3:((List (Arr5 api_Range)) × rewrite_ledger))=>
 some (r3.1,r3.2)
def Zdf (a0:Bool) (a1:Bool):Option Bool:=
 (some a0).bind fun (b1:Bool)=>
 some (b1 && (!a1))
def Za4 (a0:Int) (a1:(List (Arr5 api_Range))) (a2:(List (Arr5 api_Range))) (a3:Int) (z0:Int→(List (Arr5 api_Range))→(List (Arr5 api_Range))→Int→Option ((List (Arr5 api_Range)) × Bool)) (r12:(List Int)):Nat→(List packetset_group)→Int→Int→Option (((List packetset_group) × Int) ⊕ ((List (Arr5 api_Range)) × Bool))
 | 0,_,_,_=>none
 | n179+1,v94,v95,v96=>
  if (decide ((IntKind.wrap .i64 (v96 + (1:Int)))<(List.length r12:Int)))=true then
   ((idx r12 v96).bind fun (x220:Int)=>
   (idx r12 (IntKind.wrap .i64 (v96 + (1:Int)))).bind fun (x222:Int)=>
   (Zbl a1 a0 (IntKind.wrap .u32 x220)).bind fun (r224:(List (Arr5 api_Range)))=>
   (Zbl a2 a0 (IntKind.wrap .u32 x220)).bind fun (r226:(List (Arr5 api_Range)))=>
   (z0 (IntKind.wrap .i64 (a0 + (1:Int))) r224 r226 a3).bind fun (r228:((List (Arr5 api_Range)) × Bool))=>
   if (!r228.2)=true then
    some (.inr (([]:(List (Arr5 api_Range))),false))
   else
    if ((List.length r228.1:Int) == (0:Int))=true then
     some (.inl (v94,v95))
    else
     (some (decide ((List.length v94:Int) > (0:Int)))).bind fun (b230:Bool)=>
     (if b230=true then
      (idx v94 (IntKind.wrap .i64 ((List.length v94:Int) - (1:Int)))).bind fun (x232:packetset_group)=>
      some ((IntKind.wrap .u32 (x232.f_values.Hi + (1:Int))) == (IntKind.wrap .u32 x220))
      else some false).bind fun (v234:Bool)=>
     (some v234).bind fun (b236:Bool)=>
     (if b236=true then
      (idx v94 (IntKind.wrap .i64 ((List.length v94:Int) - (1:Int)))).bind fun (x238:packetset_group)=>
      (Zac x238.f_rest r228.1).bind fun (r240:Bool)=>
      some r240
      else some false).bind fun (v242:Bool)=>
     if v242=true then
      (idx v94 (IntKind.wrap .i64 ((List.length v94:Int) - (1:Int)))).bind fun (x249:packetset_group)=>
      some (.inl ((List.set v94 (Int.toNat (IntKind.wrap .i64 ((List.length v94:Int) - (1:Int)))) ({ x249 with f_values:=({ x249.f_values with Hi:=(IntKind.wrap .u32 (IntKind.wrap .u64 (x222 - (1:Int)))) }:api_Range) }:packetset_group)),v95))
     else
      if List.length v94 + List.length [(packetset_group.mk (api_Range.mk (IntKind.wrap .u32 x220) (IntKind.wrap .u32 (IntKind.wrap .u64 (x222 - (1:Int))))) r228.1)]≤lim then
      if (decide ((IntKind.wrap .i64 (v95 + (List.length r228.1:Int))) > a3))=true then
       some (.inr (([]:(List (Arr5 api_Range))),false))
      else
       some (.inl ((v94++[(packetset_group.mk (api_Range.mk (IntKind.wrap .u32 x220) (IntKind.wrap .u32 (IntKind.wrap .u64 (x222 - (1:Int))))) r228.1)]),(IntKind.wrap .i64 (v95 + (List.length r228.1:Int)))))
      else none).bind fun (o218:(((List packetset_group) × Int) ⊕ ((List (Arr5 api_Range)) × Bool)))=>
   match o218 with
   | .inl (v216,v217)=>
     Za4 a0 a1 a2 a3 z0 r12 n179 v216 v217 (IntKind.wrap .i64 (v96 + (1:Int)))
   | .inr r256=>
     some (.inr r256)
  else
   some (.inl (v94,v95))
def Za5 (a0:Int) (x325:packetset_group):Nat→(List (Arr5 api_Range))→Int→Option (List (Arr5 api_Range))
 | 0,_,_=>none
 | n346+1,v335,v336=>
  if (decide (v336<(List.length x325.f_rest:Int)))=true then
   (idx x325.f_rest v336).bind fun (x347:(Arr5 api_Range))=>
   if 0≤a0∧a0<5 then
   if List.length v335 + List.length [(Arr5.set x347 a0 x325.f_values)]≤lim then
   Za5 a0 x325 n346 (v335++[(Arr5.set x347 a0 x325.f_values)]) (IntKind.wrap .i64 (v336 + (1:Int)))
   else none
   else none
  else
   some v335
def Za6 (a0:Int) (v175:(List packetset_group)):Nat→(List (Arr5 api_Range))→Int→Option (List (Arr5 api_Range))
 | 0,_,_=>none
 | n324+1,v290,v291=>
  if (decide (v291<(List.length v175:Int)))=true then
   (idx v175 v291).bind fun (x325:packetset_group)=>
   (Za5 a0 x325 fuel v290 (0:Int)).bind fun (v344:(List (Arr5 api_Range)))=>
    Za6 a0 v175 n324 v344 (IntKind.wrap .i64 (v291 + (1:Int)))
  else
   some v290
def Z2:Nat→Int→(List (Arr5 api_Range))→(List (Arr5 api_Range))→Int→Option ((List (Arr5 api_Range)) × Bool)
 | 0,_,_,_,_=>none
 | nr+1,a0,a1,a2,a3=>
  if (a0 == (5:Int))=true then
   (Zdf (decide ((List.length a1:Int) > (0:Int))) (decide ((List.length a2:Int) > (0:Int)))).bind fun (r1:Bool)=>
   if r1=true then
    some ([(Arr5.mk Zj Zj Zj Zj Zj)],true)
   else
    some (([]:(List (Arr5 api_Range))),true)
  else
   (some ((IntKind.wrap .i64 ((List.length a1:Int) + (List.length a2:Int))) == (0:Int))).bind fun (b4:Bool)=>
   (if b4=true then
    (Zdf false false).bind fun (r6:Bool)=>
    some (!r6)
    else some false).bind fun (v8:Bool)=>
   if v8=true then
    some (([]:(List (Arr5 api_Range))),true)
   else
    (Zc4 a0 [a1,a2]).bind fun (r12:(List Int))=>
    (Za4 a0 a1 a2 a3 (Z2 nr) r12 fuel ([]:(List packetset_group)) (0:Int) (0:Int)).bind fun (o177:(((List packetset_group) × Int) ⊕ ((List (Arr5 api_Range)) × Bool)))=>
    match o177 with
    | .inl (v175,v176)=>
      if 0≤v176∧v176≤(lim:Int) then
      (Za6 a0 v175 fuel ([]:(List (Arr5 api_Range))) (0:Int)).bind fun (v322:(List (Arr5 api_Range)))=>
       some (v322,true)
      else none
    | .inr r355=>
      some r355
def Zca (a0:(List (Arr5 api_Range))) (a1:(List (Arr5 api_Range))):Option ((List (Arr5 api_Range)) × Int):=
 (Z2 fuel (0:Int) a0 a1 (4096:Int)).bind fun (r1:((List (Arr5 api_Range)) × Bool))=>
 if (!r1.2)=true then
  some (([]:(List (Arr5 api_Range))),(3:Int))
 else
  some (r1.1,(0:Int))
def Zdo (a0:(List (Arr5 api_Range))) (a1:(List (Arr5 api_Range))):Option ((List (Arr5 api_Range)) × Int):=
 (Zcm a0).bind fun (r1:((List (Arr5 api_Range)) × Int))=>
 if (r1.2 != (0:Int))=true then
  some (([]:(List (Arr5 api_Range))),r1.2)
 else
  (Zcm a1).bind fun (r3:((List (Arr5 api_Range)) × Int))=>
  if (r3.2 != (0:Int))=true then
   some (([]:(List (Arr5 api_Range))),r3.2)
  else
   (Zca r1.1 r3.1).bind fun (r5:((List (Arr5 api_Range)) × Int))=>
   some (r5.1,r5.2)
def Zdt (a0:(List (Arr5 api_Range))) (a1:(List (Arr5 api_Range))):Option ((List (Arr5 api_Range)) × Int):=
 (Zdo a0 a1).bind fun (r1:((List (Arr5 api_Range)) × Int))=>
 some (r1.1,r1.2)
def Zcf (a0:rewrite_ledger) (a1:(List (Arr5 api_Range))) (a2:(List (Arr5 api_Range))):Option ((List (Arr5 api_Range)) × rewrite_ledger):=
 (Zdt a1 a2).bind fun (r1:((List (Arr5 api_Range)) × Int))=>
 (Zb0 a0 r1.1 r1.2).bind fun (r3:((List (Arr5 api_Range)) × rewrite_ledger))=>
 some (r3.1,r3.2)
def Zay (a1:(List (Arr5 api_Range))):Nat→rewrite_ledger→(List (List (Arr5 api_Range)))→(List (Arr5 api_Range))→Int→Option (rewrite_ledger × (List (List (Arr5 api_Range))) × (List (Arr5 api_Range)))
 | 0,_,_,_,_=>none
 | n68+1,v31,v32,v33,v34=>
  if (decide (v34<(List.length a1:Int)))=true then
   ((idx a1 v34).bind fun (x85:(Arr5 api_Range))=>
   (Zd7 x85).bind fun (r87:Bool)=>
   if (!r87)=true then
    if List.length v32 + List.length [([]:(List (Arr5 api_Range)))]≤lim then
    some (v31,(v32++[([]:(List (Arr5 api_Range)))]),v33)
    else none
   else
    (Zau v31 v33 [x85]).bind fun (r90:((List (Arr5 api_Range)) × rewrite_ledger))=>
    if List.length v32 + List.length [r90.1]≤lim then
    (Zcf r90.2 v33 [x85]).bind fun (r93:((List (Arr5 api_Range)) × rewrite_ledger))=>
    some (r93.2,(v32++[r90.1]),r93.1)
    else none).bind fun (o83:(rewrite_ledger × (List (List (Arr5 api_Range))) × (List (Arr5 api_Range))))=>
   match o83 with
   | (v80,v81,v82)=>
    Zay a1 n68 v80 v81 v82 (IntKind.wrap .i64 (v34 + (1:Int)))
  else
   some (v31,v32,v33)
def Zdh (a0:rewrite_ledger) (a1:(List (Arr5 api_Range))) (a2:(List (Arr5 api_Range))):Option ((List (List (Arr5 api_Range))) × (List (Arr5 api_Range)) × rewrite_ledger):=
 (Zay a1 fuel a0 ([]:(List (List (Arr5 api_Range)))) a2 (0:Int)).bind fun (o66:(rewrite_ledger × (List (List (Arr5 api_Range))) × (List (Arr5 api_Range))))=>
 match o66 with
 | (v63,v64,v65)=>
  some (v64,v65,v63)
def Zbs (a0:api_Move) (a1:(List (Arr5 api_Range))) (v83:Int):Nat→(List (Arr5 api_Range))→Int→Option (List (Arr5 api_Range))
 | 0,_,_=>none
 | n219+1,v191,v192=>
  if (decide (v192<(5:Int)))=true then
   if 0≤v192∧v192<5 then
   if 0≤v192∧v192<5 then
   (idx a1 v83).bind fun (x222:(Arr5 api_Range))=>
   if 0≤v192∧v192<5 then
   (idx v191 v83).bind fun (x225:(Arr5 api_Range))=>
   if 0≤v192∧v192<5 then
   if 0≤v192∧v192<5 then
   (idx a1 v83).bind fun (x233:(Arr5 api_Range))=>
   if 0≤v192∧v192<5 then
   (idx (List.set v191 (Int.toNat v83) (Arr5.set x225 v192 ({ (Arr5.get x225 v192) with Lo:=(IntKind.wrap .u32 ((Arr5.get a0.To v192).Lo + (IntKind.wrap .u32 ((Arr5.get x222 v192).Lo - (Arr5.get a0.From v192).Lo)))) }:api_Range))) v83).bind fun (x236:(Arr5 api_Range))=>
   if 0≤v192∧v192<5 then
   Zbs a0 a1 v83 n219 (List.set (List.set v191 (Int.toNat v83) (Arr5.set x225 v192 ({ (Arr5.get x225 v192) with Lo:=(IntKind.wrap .u32 ((Arr5.get a0.To v192).Lo + (IntKind.wrap .u32 ((Arr5.get x222 v192).Lo - (Arr5.get a0.From v192).Lo)))) }:api_Range))) (Int.toNat v83) (Arr5.set x236 v192 ({ (Arr5.get x236 v192) with Hi:=(IntKind.wrap .u32 ((Arr5.get a0.To v192).Lo + (IntKind.wrap .u32 ((Arr5.get x233 v192).Hi - (Arr5.get a0.From v192).Lo)))) }:api_Range))) (IntKind.wrap .i64 (v192 + (1:Int)))
   else none
   else none
   else none
   else none
   else none
   else none
   else none
  else
   some v191
def Zct (a0:api_Move) (a1:(List (Arr5 api_Range))):Nat→(List (Arr5 api_Range))→Int→Option (List (Arr5 api_Range))
 | 0,_,_=>none
 | n165+1,v82,v83=>
  if (decide (v83<(List.length a1:Int)))=true then
   (Zbs a0 a1 v83 fuel v82 (0:Int)).bind fun (v217:(List (Arr5 api_Range)))=>
    Zct a0 a1 n165 v217 (IntKind.wrap .i64 (v83 + (1:Int)))
  else
   some v82
def Zdx (a0:api_Move) (a1:(List (Arr5 api_Range))):Option (List (Arr5 api_Range)):=
 if List.length a1≤lim then
 (Zct a0 a1 fuel a1 (0:Int)).bind fun (v163:(List (Arr5 api_Range)))=>
  some v163
 else none
def Zdu (a0:(List (Arr5 api_Range))) (a1:(List (Arr5 api_Range))):Option ((List (Arr5 api_Range)) × Int):=
 (Zcm a0).bind fun (r1:((List (Arr5 api_Range)) × Int))=>
 if (r1.2 != (0:Int))=true then
  some (([]:(List (Arr5 api_Range))),r1.2)
 else
  (Zcm a1).bind fun (r3:((List (Arr5 api_Range)) × Int))=>
  if (r3.2 != (0:Int))=true then
   some (([]:(List (Arr5 api_Range))),r3.2)
  else
   (Zbb r1.1 r3.1).bind fun (r5:((List (Arr5 api_Range)) × Int))=>
   some (r5.1,r5.2)
def Zeq (a0:(List (Arr5 api_Range))) (a1:(List (Arr5 api_Range))):Option ((List (Arr5 api_Range)) × Int):=
 (Zdu a0 a1).bind fun (r1:((List (Arr5 api_Range)) × Int))=>
 some (r1.1,r1.2)
def Zbw (a0:rewrite_ledger) (a1:(List (Arr5 api_Range))) (a2:(List (Arr5 api_Range))):Option ((List (Arr5 api_Range)) × rewrite_ledger):=
 (Zeq a1 a2).bind fun (r1:((List (Arr5 api_Range)) × Int))=>
 (Zb0 a0 r1.1 r1.2).bind fun (r3:((List (Arr5 api_Range)) × rewrite_ledger))=>
 some (r3.1,r3.2)
def Zcr (a0:rewrite_ledger) (a1:(List (Arr5 api_Range))):Option ((List (Arr5 api_Range)) × Int):=
 if (a0.f_err != (0:Int))=true then
  some (([]:(List (Arr5 api_Range))),a0.f_err)
 else
  if List.length a1≤lim then
  some (a1,(0:Int))
  else none
def Zcb (a0:(List api_Move)) (r5:((List (List (Arr5 api_Range))) × (List (Arr5 api_Range)) × rewrite_ledger)):Nat→rewrite_ledger→(List (Arr5 api_Range))→Int→Option (rewrite_ledger × (List (Arr5 api_Range)))
 | 0,_,_,_=>none
 | n78+1,v40,v41,v42=>
  if (decide (v42<(List.length r5.1:Int)))=true then
   ((idx r5.1 v42).bind fun (x96:(List (Arr5 api_Range)))=>
   (idx a0 v42).bind fun (x98:api_Move)=>
   (Zcg x98).bind fun (r100:Bool)=>
   if r100=true then
    (idx a0 v42).bind fun (x102:api_Move)=>
    (Zdx x102 x96).bind fun (r104:(List (Arr5 api_Range)))=>
    (Zbw v40 v41 r104).bind fun (r106:((List (Arr5 api_Range)) × rewrite_ledger))=>
    some (r106.2,r106.1)
   else
    some (v40,v41)).bind fun (o94:(rewrite_ledger × (List (Arr5 api_Range))))=>
   match o94 with
   | (v92,v93)=>
    Zcb a0 r5 n78 v92 v93 (IntKind.wrap .i64 (v42 + (1:Int)))
  else
   some (v40,v41)
def Ze8 (a0:(List api_Move)) (a1:(List (Arr5 api_Range))):Option ((List (Arr5 api_Range)) × Int):=
 (Zfq a0).bind fun (r1:(List (Arr5 api_Range)))=>
 (Zc1 Zc2 a1).bind fun (r3:((List (Arr5 api_Range)) × rewrite_ledger))=>
 (Zdh r3.2 r1 r3.1).bind fun (r5:((List (List (Arr5 api_Range))) × (List (Arr5 api_Range)) × rewrite_ledger))=>
 (Zcb a0 r5 fuel r5.2.2 ([]:(List (Arr5 api_Range))) (0:Int)).bind fun (o76:(rewrite_ledger × (List (Arr5 api_Range))))=>
 match o76 with
 | (v74,v75)=>
  (Zbw v74 v75 r5.2.1).bind fun (r110:((List (Arr5 api_Range)) × rewrite_ledger))=>
  (Zcr r110.2 r110.1).bind fun (r112:((List (Arr5 api_Range)) × Int))=>
  some (r112.1,r112.2)
def Ze9 (a0:api_Header):Option (Arr5 Int):=
 some (Arr5.mk a0.Src a0.Dst (IntKind.wrap .u32 a0.Proto) (IntKind.wrap .u32 a0.SrcPort) (IntKind.wrap .u32 a0.DstPort))
def Zb1 (a0:(Arr5 api_Range)) (r1:(Arr5 Int)):Nat→Int→Option (Unit ⊕ Bool)
 | 0,_=>none
 | n18+1,v3=>
  if (decide (v3<(5:Int)))=true then
   if 0≤v3∧v3<5 then
   if 0≤v3∧v3<5 then
   (some (decide ((Arr5.get r1 v3)<(Arr5.get a0 v3).Lo))).bind fun (b21:Bool)=>
   (if b21=true then some true else
    if 0≤v3∧v3<5 then
    if 0≤v3∧v3<5 then
    some (decide ((Arr5.get r1 v3) > (Arr5.get a0 v3).Hi))
    else none
    else none
    ).bind fun (v25:Bool)=>
   if v25=true then
    some (.inr false)
   else
    Zb1 a0 r1 n18 (IntKind.wrap .i64 (v3 + (1:Int)))
   else none
   else none
  else
   some (.inl ())
def Zec (a0:(Arr5 api_Range)) (a1:api_Header):Option Bool:=
 (Ze9 a1).bind fun (r1:(Arr5 Int))=>
 (Zb1 a0 r1 fuel (0:Int)).bind fun (o16:(Unit ⊕ Bool))=>
 match o16 with
 | .inl ()=>
   (Ze5 a0).bind fun (r31:Bool)=>
   some r31
 | .inr r33=>
   some r33
def Zcl (a0:(List (Arr5 api_Range))) (a1:api_Header):Nat→Int→Option (Unit ⊕ Bool)
 | 0,_=>none
 | n10+1,v1=>
  if (decide (v1<(List.length a0:Int)))=true then
   (idx a0 v1).bind fun (x11:(Arr5 api_Range))=>
   (Zec x11 a1).bind fun (r13:Bool)=>
   if r13=true then
    some (.inr true)
   else
    Zcl a0 a1 n10 (IntKind.wrap .i64 (v1 + (1:Int)))
  else
   some (.inl ())
def Zcp (a0:(List (Arr5 api_Range))) (a1:api_Header):Option Bool:=
 (Zcl a0 a1 fuel (0:Int)).bind fun (o8:(Unit ⊕ Bool))=>
 match o8 with
 | .inl ()=>
   some false
 | .inr r17=>
   some r17
def Zgn:Nat→(Arr5 api_Range)→Int→Option (Arr5 api_Range)
 | 0,_,_=>none
 | n16+1,v7,v8=>
  if (decide (v8<(5:Int)))=true then
   if 0≤v8∧v8<5 then
   if 0≤v8∧v8<5 then
   Zgn n16 (Arr5.set v7 v8 ({ (Arr5.get v7 v8) with Hi:=(Arr5.get Zaf v8) }:api_Range)) (IntKind.wrap .i64 (v8 + (1:Int)))
   else none
   else none
  else
   some v7
def Zhw:Option (Arr5 api_Range):=
 (Zgn fuel Zl (0:Int)).bind fun (v14:(Arr5 api_Range))=>
  some v14
def Zbo (a0:(List api_Move)) (r1:((List (Arr5 api_Range)) × rewrite_ledger)):Nat→rewrite_ledger→(List (Arr5 api_Range))→(List (Arr5 api_Range))→Int→Option (rewrite_ledger × (List (Arr5 api_Range)) × (List (Arr5 api_Range)))
 | 0,_,_,_,_=>none
 | n105+1,v52,v53,v54,v55=>
  if (decide (v55<(List.length a0:Int)))=true then
   ((idx a0 v55).bind fun (x130:api_Move)=>
   (Zcg x130).bind fun (r132:Bool)=>
   if (!r132)=true then
    some (v52,v53,v54)
   else
    (Zau v52 v54 [x130.From]).bind fun (r134:((List (Arr5 api_Range)) × rewrite_ledger))=>
    (Zfr x130).bind fun (r136:api_Move)=>
    (Zau r134.2 r1.1 [x130.To]).bind fun (r138:((List (Arr5 api_Range)) × rewrite_ledger))=>
    (Zdx r136 r138.1).bind fun (r140:(List (Arr5 api_Range)))=>
    (Zau r138.2 r134.1 r140).bind fun (r142:((List (Arr5 api_Range)) × rewrite_ledger))=>
    (Zbw r142.2 v53 r142.1).bind fun (r144:((List (Arr5 api_Range)) × rewrite_ledger))=>
    (Zcf r144.2 v54 [x130.From]).bind fun (r146:((List (Arr5 api_Range)) × rewrite_ledger))=>
    some (r146.2,r144.1,r146.1)).bind fun (o128:(rewrite_ledger × (List (Arr5 api_Range)) × (List (Arr5 api_Range))))=>
   match o128 with
   | (v125,v126,v127)=>
    Zbo a0 r1 n105 v125 v126 v127 (IntKind.wrap .i64 (v55 + (1:Int)))
  else
   some (v52,v53,v54)
def Zed (a0:(List api_Move)) (a1:(List (Arr5 api_Range))):Option ((List (Arr5 api_Range)) × Int):=
 (Zc1 Zc2 a1).bind fun (r1:((List (Arr5 api_Range)) × rewrite_ledger))=>
 (Zhw).bind fun (r3:(Arr5 api_Range))=>
 (Zbo a0 r1 fuel r1.2 ([]:(List (Arr5 api_Range))) [r3] (0:Int)).bind fun (o103:(rewrite_ledger × (List (Arr5 api_Range)) × (List (Arr5 api_Range))))=>
 match o103 with
 | (v100,v101,v102)=>
  (Zau v100 v102 r1.1).bind fun (r150:((List (Arr5 api_Range)) × rewrite_ledger))=>
  (Zbw r150.2 v101 r150.1).bind fun (r152:((List (Arr5 api_Range)) × rewrite_ledger))=>
  (Zcr r152.2 r152.1).bind fun (r154:((List (Arr5 api_Range)) × Int))=>
  some (r154.1,r154.2)
def Za9 (a1:api_Header) (r3:((List api_Move) × nsggen_Tape)) (r5:((List (Arr5 api_Range)) × nsggen_Tape)) (r7:((List (Arr5 api_Range)) × Int)) (r9:((List (Arr5 api_Range)) × Int)) (r24:(api_Header × nsggen_Tape)) (r28:(api_Header × nsggen_Tape)) (r32:(api_Header × nsggen_Tape)):Nat→Int→Option (Unit ⊕ Bool)
 | 0,_=>none
 | n68+1,v34=>
  if (decide (v34<(List.length [a1,r24.1,r28.1,r32.1]:Int)))=true then
   (idx [a1,r24.1,r28.1,r32.1] v34).bind fun (x69:api_Header)=>
   (Ze7 r3.1 x69).bind fun (r71:api_Header)=>
   (idx [a1,r24.1,r28.1,r32.1] v34).bind fun (x73:api_Header)=>
   (Zcp r5.1 x73).bind fun (r75:Bool)=>
   (some r75).bind fun (b77:Bool)=>
   (if b77=true then
    (Zcp r7.1 r71).bind fun (r79:Bool)=>
    some (!r79)
    else some false).bind fun (v81:Bool)=>
   (some v81).bind fun (b83:Bool)=>
   (if b83=true then some true else
    (idx [a1,r24.1,r28.1,r32.1] v34).bind fun (x85:api_Header)=>
    (Zcp r9.1 x85).bind fun (r87:Bool)=>
    (Zcp r5.1 r71).bind fun (r89:Bool)=>
    some (!(r87 == r89))
    ).bind fun (v91:Bool)=>
   if v91=true then
    some (.inr false)
   else
    Za9 a1 r3 r5 r7 r9 r24 r28 r32 n68 (IntKind.wrap .i64 (v34 + (1:Int)))
  else
   some (.inl ())
def Zd1 (a0:(List Int)) (a1:api_Header):Option Bool:=
 (Zg1 a0).bind fun (r1:nsggen_Tape)=>
 (Zd2 r1 (3:Int) true).bind fun (r3:((List api_Move) × nsggen_Tape))=>
 (Zd3 r3.2 (3:Int) true).bind fun (r5:((List (Arr5 api_Range)) × nsggen_Tape))=>
 (Ze8 r3.1 r5.1).bind fun (r7:((List (Arr5 api_Range)) × Int))=>
 (Zed r3.1 r5.1).bind fun (r9:((List (Arr5 api_Range)) × Int))=>
 (some (r7.2 != (0:Int))).bind fun (b11:Bool)=>
 if (b11 || (r9.2 != (0:Int)))=true then
  (some (r7.2 == (3:Int))).bind fun (b13:Bool)=>
  (some (b13 || (r9.2 == (3:Int)))).bind fun (b15:Bool)=>
  (if b15=true then
   (Zf8).bind fun (r17:Bool)=>
   some r17
   else some false).bind fun (v19:Bool)=>
  some v19
 else
  (Zc3 r5.2 r5.1).bind fun (r24:(api_Header × nsggen_Tape))=>
  (Zer r3.1).bind fun (r26:(List (Arr5 api_Range)))=>
  (Zc3 r24.2 r26).bind fun (r28:(api_Header × nsggen_Tape))=>
  (Zer r3.1).bind fun (r30:(List (Arr5 api_Range)))=>
  (Zc3 r28.2 r30).bind fun (r32:(api_Header × nsggen_Tape))=>
  (Za9 a1 r3 r5 r7 r9 r24 r28 r32 fuel (0:Int)).bind fun (o66:(Unit ⊕ Bool))=>
  match o66 with
  | .inl ()=>
    (Zf8).bind fun (r100:Bool)=>
    some r100
  | .inr r102=>
    some r102
end Go.AM
set_option maxRecDepth 1000000
namespace Go.AM
open Go Go.Proofs
def glob:Glob:=[(0,Zao Zaf)]
def T0:Tab:=[]
theorem T0_ok:T0.ok Tryd.prog glob:=Tab.nil
def T1:Tab:=(85,[.sc (.int .i64 2),.sl 10 [[.sc (.int .u32 0),.sc (.int .u32 4294967295),.sc (.int .u32 5),.sc (.int .u32 5),.sc (.int .u32 0),.sc (.int .u32 255),.sc (.int .u32 0),.sc (.int .u32 65535),.sc (.int .u32 80),.sc (.int .u32 80)]],.sl 10 [[.sc (.int .u32 0),.sc (.int .u32 4294967295),.sc (.int .u32 5),.sc (.int .u32 5),.sc (.int .u32 0),.sc (.int .u32 255),.sc (.int .u32 0),.sc (.int .u32 65535),.sc (.int .u32 80),.sc (.int .u32 80)]],.sc (.func (.func 69) #[] #[]),.sc (.int .i64 4096)],.tup [.sl 10 [[.sc (.int .u32 0),.sc (.int .u32 0),.sc (.int .u32 0),.sc (.int .u32 0),.sc (.int .u32 0),.sc (.int .u32 255),.sc (.int .u32 0),.sc (.int .u32 65535),.sc (.int .u32 80),.sc (.int .u32 80)]],.sc (.bool true)]) :: T0
theorem T1_ok:T1.ok Tryd.prog glob:=Tab.cons T0_ok 100000 (by kernel_rfl)
def T2:Tab:=(68,[.sl 10 [[.sc (.int .u32 0),.sc (.int .u32 4294967295),.sc (.int .u32 5),.sc (.int .u32 5),.sc (.int .u32 0),.sc (.int .u32 255),.sc (.int .u32 0),.sc (.int .u32 65535),.sc (.int .u32 80),.sc (.int .u32 80)]],.sl 10 [[.sc (.int .u32 0),.sc (.int .u32 4294967295),.sc (.int .u32 5),.sc (.int .u32 5),.sc (.int .u32 0),.sc (.int .u32 255),.sc (.int .u32 0),.sc (.int .u32 65535),.sc (.int .u32 80),.sc (.int .u32 80)]],.sc (.func (.func 69) #[] #[])],.tup [.sl 10 [[.sc (.int .u32 0),.sc (.int .u32 4294967295),.sc (.int .u32 5),.sc (.int .u32 5),.sc (.int .u32 0),.sc (.int .u32 255),.sc (.int .u32 0),.sc (.int .u32 65535),.sc (.int .u32 80),.sc (.int .u32 80)]],.sc (.int .i64 0)]) :: T1
theorem T2_ok:T2.ok Tryd.prog glob:=Tab.cons T1_ok 100000 (by kernel_rfl)
def T3:Tab:=(85,[.sc (.int .i64 2),.sl 10 [[.sc (.int .u32 0),.sc (.int .u32 4294967295),.sc (.int .u32 5),.sc (.int .u32 5),.sc (.int .u32 0),.sc (.int .u32 255),.sc (.int .u32 0),.sc (.int .u32 65535),.sc (.int .u32 80),.sc (.int .u32 80)]],.sl 10 [[.sc (.int .u32 0),.sc (.int .u32 4294967295),.sc (.int .u32 5),.sc (.int .u32 5),.sc (.int .u32 0),.sc (.int .u32 255),.sc (.int .u32 0),.sc (.int .u32 65535),.sc (.int .u32 80),.sc (.int .u32 80)]],.sc (.func (.func 79) #[] #[]),.sc (.int .i64 4096)],.tup [.sl 10 [],.sc (.bool true)]) :: T2
theorem T3_ok:T3.ok Tryd.prog glob:=Tab.cons T2_ok 100000 (by kernel_rfl)
def T4:Tab:=(68,[.sl 10 [[.sc (.int .u32 0),.sc (.int .u32 4294967295),.sc (.int .u32 5),.sc (.int .u32 5),.sc (.int .u32 0),.sc (.int .u32 255),.sc (.int .u32 0),.sc (.int .u32 65535),.sc (.int .u32 80),.sc (.int .u32 80)]],.sl 10 [[.sc (.int .u32 0),.sc (.int .u32 4294967295),.sc (.int .u32 5),.sc (.int .u32 5),.sc (.int .u32 0),.sc (.int .u32 255),.sc (.int .u32 0),.sc (.int .u32 65535),.sc (.int .u32 80),.sc (.int .u32 80)]],.sc (.func (.func 79) #[] #[])],.tup [.sl 10 [],.sc (.int .i64 0)]) :: T3
theorem T4_ok:T4.ok Tryd.prog glob:=Tab.cons T3_ok 100000 (by kernel_rfl)
def T5:Tab:=(85,[.sc (.int .i64 1),.sc (.slice none 0 0),.sl 10 [[.sc (.int .u32 0),.sc (.int .u32 4294967295),.sc (.int .u32 7),.sc (.int .u32 7),.sc (.int .u32 0),.sc (.int .u32 255),.sc (.int .u32 0),.sc (.int .u32 65535),.sc (.int .u32 8080),.sc (.int .u32 8080)]],.sc (.func (.func 77) #[] #[]),.sc (.int .i64 4096)],.tup [.sl 10 [[.sc (.int .u32 0),.sc (.int .u32 0),.sc (.int .u32 7),.sc (.int .u32 7),.sc (.int .u32 0),.sc (.int .u32 255),.sc (.int .u32 0),.sc (.int .u32 65535),.sc (.int .u32 8080),.sc (.int .u32 8080)]],.sc (.bool true)]) :: T4
theorem T5_ok:T5.ok Tryd.prog glob:=Tab.cons T4_ok 100000 (by kernel_rfl)
def T6:Tab:=(85,[.sc (.int .i64 1),.sl 10 [[.sc (.int .u32 0),.sc (.int .u32 4294967295),.sc (.int .u32 7),.sc (.int .u32 7),.sc (.int .u32 0),.sc (.int .u32 255),.sc (.int .u32 0),.sc (.int .u32 65535),.sc (.int .u32 8080),.sc (.int .u32 8080)]],.sc (.slice none 0 0),.sc (.func (.func 77) #[] #[]),.sc (.int .i64 4096)],.tup [.sl 10 [[.sc (.int .u32 0),.sc (.int .u32 0),.sc (.int .u32 7),.sc (.int .u32 7),.sc (.int .u32 0),.sc (.int .u32 255),.sc (.int .u32 0),.sc (.int .u32 65535),.sc (.int .u32 8080),.sc (.int .u32 8080)]],.sc (.bool true)]) :: T5
theorem T6_ok:T6.ok Tryd.prog glob:=Tab.cons T5_ok 100000 (by kernel_rfl)
def T7:Tab:=(21,[.sl 20 [[.sc (.int .u32 0),.sc (.int .u32 4294967295),.sc (.int .u32 5),.sc (.int .u32 5),.sc (.int .u32 0),.sc (.int .u32 255),.sc (.int .u32 0),.sc (.int .u32 65535),.sc (.int .u32 80),.sc (.int .u32 80),.sc (.int .u32 0),.sc (.int .u32 4294967295),.sc (.int .u32 7),.sc (.int .u32 7),.sc (.int .u32 0),.sc (.int .u32 255),.sc (.int .u32 0),.sc (.int .u32 65535),.sc (.int .u32 8080),.sc (.int .u32 8080)]],.sl 10 [[.sc (.int .u32 0),.sc (.int .u32 4294967295),.sc (.int .u32 5),.sc (.int .u32 5),.sc (.int .u32 0),.sc (.int .u32 255),.sc (.int .u32 0),.sc (.int .u32 65535),.sc (.int .u32 80),.sc (.int .u32 80)]]],.tup [.sl 10 [[.sc (.int .u32 0),.sc (.int .u32 4294967295),.sc (.int .u32 7),.sc (.int .u32 7),.sc (.int .u32 0),.sc (.int .u32 255),.sc (.int .u32 0),.sc (.int .u32 65535),.sc (.int .u32 8080),.sc (.int .u32 8080)]],.sc (.int .i64 0)]) :: T6
theorem T7_ok:T7.ok Tryd.prog glob:=Tab.cons T6_ok 100000 (by kernel_rfl)
def T8:Tab:=(10,[],.sc (.bool true)) :: T7
theorem T8_ok:T8.ok Tryd.prog glob:=Tab.cons T7_ok 100000 (by kernel_rfl)
end Go.AM
