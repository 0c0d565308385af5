/-
  Texts of this claim, part 6: JsX, Shg, JsN, JsV, JsB, JsC, JsD, JsF, JsNa, JsI, JsL, JsS, JsG. No condition of its own.
-/
import Derived.Test.YtnehmcpkeamghaaDoorRows
import Derived.Shelf.Strconv.Itoa2
import Derived.Test.YtnehmcpkeamghaaDoorG5
namespace Go.Proofs.YtnehmcpkeamghaaDoor
set_option linter.unusedVariables false
section
namespace Sx
open Go.RowKit Sha Vi Js

theorem FnR.ofCalls {P:Program} {T:List (Nat × TD)} {f:FuncId} {n:Nat} {h0:List (List Seg)} {args:List SA} {raw:World→Prop} {Res:SV→List (List Seg)→Prop}
  (h:∀ (w:World) (r0:Rho) (vs:List Value),HeapOk (cx0 P T w r0 n h0) h0 r0 w→IsAs r0 args vs→raw w→Calls P f vs.toArray w fun e w'=>∃ v x,e=.returned v∧SV.Is r0 x v∧Below w.heap.size w w'∧Res x h0):FnR P T f n h0 args raw Res:=fun w r0 vs ok ha hr=>(h w r0 vs ok ha hr).mono (by
 rintro e w' ⟨v,x,rfl,hx,hb,hres⟩
 exact ⟨v,x,h0,r0,rfl,hx,ok.ext0 ⟨hb.os,hb.tape,hb.output,hb.size,fun k hk _=>hb.block k hk⟩,hres⟩)
theorem IsAs.one {r:Rho} {x:SA} {vs:List Value} (h:IsAs r [x] vs):∃ v,vs=[v]∧x.Is r v:=by
 obtain ⟨hl,h⟩:=h
 obtain ⟨v,e,hv⟩:=h 0 x rfl
 match vs,hl,e with
 | [u],_,e=>injection e with e; subst e; exact ⟨_,rfl,hv⟩
theorem IsAs.two {r:Rho} {x y:SA} {vs:List Value} (h:IsAs r [x,y] vs):∃ v u,vs=[v,u]∧x.Is r v∧y.Is r u:=by
 obtain ⟨hl,h⟩:=h
 obtain ⟨v,e,hv⟩:=h 0 x rfl
 obtain ⟨u,e2,hu⟩:=h 1 y rfl
 match vs,hl,e,e2 with
 | [a,b],_,e,e2=>injection e with e; injection e2 with e2; subst e; subst e2; exact ⟨_,_,rfl,hv,hu⟩
structure Tabs (W:World) (ms:List Nat):Prop where
 u8:Lib.Utf8Tabs 0 1 W
 p10:Lib.TabIs Tryd.prog W p10n .u64 Lib.pow10Tab
 lt:6≤W.heap.size
 nin:∀ B,B<6→B ∉ ms
theorem p10_glob:Tryd.prog.globalNamed p10n=some 3:=by kernel_rfl
theorem Tabs.ext {W w:World} {ms:List Nat} (h:Tabs W ms) (k:Ext ms W w):Lib.Utf8Tabs 0 1 w∧Lib.TabIs Tryd.prog w p10n .u64 Lib.pow10Tab:=by
 have hb:∀ B,B<6→w.heap[B]?=W.heap[B]?:=fun B hB=>k.block B (Nat.lt_of_lt_of_le hB h.lt) (h.nin B hB)
 refine ⟨⟨fun c hc=>(World.cell?_of_block (hb 0 (by decide))).trans (h.u8.1 c hc),fun i hi=>⟨(World.cell?_of_block (hb 1 (by decide))).trans (h.u8.2 i hi).1,(World.cell?_of_block (hb 1 (by decide))).trans (h.u8.2 i hi).2⟩⟩,?_⟩
 have:=h.p10
 unfold Lib.TabIs World.var? at this ⊢
 rw [p10_glob] at this ⊢
 simp only [Option.bind_some] at this ⊢
 rw [hb 3 (by decide)]
 exact this
theorem Tabs.later {W W':World} {ms ms':List Nat} (h:Tabs W ms) (k:Later W ms W' ms'):Tabs W' ms' :=
 ⟨(h.ext k.1).1,(h.ext k.1).2,Nat.le_trans h.lt k.1.size,fun B hB=>k.2 B (Nat.lt_of_lt_of_le hB h.lt) (h.nin B hB)⟩
theorem past_ext {P:Program} {T:List (Nat × TD)} {w:World} {r0:Rho} {n:Nat} {h0:List (List Seg)} {W:World} {ms:List Nat} (ok:HeapOk (cx0 P T w r0 n h0) h0 r0 w) {i:Nat} (h:h0[i]?=some [.past W ms]):Ext ms W w:=(ok.past i W ms h).1
theorem fn_idxByte (l:List UInt8) (c:BitVec 8):Fn Tryd.prog tds 59 [] [.c (.str l),.c (.w8 c)] (fun _=>True) (fun y hs=>y=.a (.c (.int .i64 (Lib.indexByte l (UInt8.ofBitVec c))))∧hs=[]) :=
 FnR.ofCalls fun w r0 vs ok ha _=>by
  obtain ⟨v,u,rfl,hv,hu⟩:=ha.two
  obtain rfl:v=.string ⟨l.toArray⟩:=hv
  obtain rfl:u=.int .u8 (c.toNat:Int):=hu
  refine (Tryd.strings_IndexByte ⟨l.toArray⟩ (c.toNat:Int) w).mono ?_
  rintro e w' ⟨rfl,rfl⟩
  refine ⟨_,.a (.c (.int .i64 (Lib.indexByte l (UInt8.ofBitVec c)))),rfl,?_,Below.refl _ _,rfl,rfl⟩
  have e8:((c.toNat:Nat):Int).toNat.toUInt8=UInt8.ofBitVec c:=by
   rw [Int.toNat_natCast]
   show (⟨BitVec.ofNat 8 c.toNat⟩:UInt8)=⟨c⟩
   simp
  show _=Value.int .i64 _
  rw [e8]
theorem decodeGo_U8 {s:Bs} (h:s≠[]):Lib.decodeGo ⟨(U8 s).toArray⟩=dec s:=by
 unfold Lib.decodeGo
 rw [if_neg (by rw [size_U8]; exact fun e=>h (List.eq_nil_of_length_eq_zero e)),decode_U8,List.drop_zero]
theorem fn_decode {W:World} {ms:List Nat} (hT:Tabs W ms) {s:Bs} (hs:s≠[]):FnR Tryd.prog tds 71 1 [[.past W ms]] [.c (.str (U8 s))] (fun _=>True) (fun y hs=>y=.tup [.c (.int .i32 ((dec s).1:Int)),.c (.int .i64 ((dec s).2:Int))]∧hs=[[.past W ms]]) :=
 FnR.ofCalls fun w r0 vs ok ha _=>by
  obtain ⟨v,rfl,hv⟩:=ha.one
  obtain rfl:v=.string ⟨(U8 s).toArray⟩:=hv
  refine (Tryd.utf8_DecodeRuneInString ⟨(U8 s).toArray⟩ w (hT.ext (past_ext ok (i:=0) rfl)).1).mono ?_
  rintro e w' ⟨rfl,hb⟩
  rw [decodeGo_U8 hs]
  exact ⟨_,.tup [.c (.int .i32 ((dec s).1:Int)),.c (.int .i64 ((dec s).2:Int))],rfl,⟨[.int .i32 ((dec s).1:Int),.int .i64 ((dec s).2:Int)],rfl,rfl,fun j x e=>by
   match j,e with
   | 0,e=>cases e; exact ⟨_,rfl,rfl⟩
   | 1,e=>cases e; exact ⟨_,rfl,rfl⟩⟩,hb,rfl,rfl⟩
theorem fn_valid {W:World} {ms:List Nat} (hT:Tabs W ms) {s:Bs} (hs:Utf s) (hl:s.length≤9223372036854775807):FnR Tryd.prog tds 65 1 [[.past W ms]] [.c (.str (U8 s))] (fun _=>True) (fun y hs=>y=.a (.c (.bool true))∧hs=[[.past W ms]]) :=
 FnR.ofCalls fun w r0 vs ok ha _=>by
  obtain ⟨v,rfl,hv⟩:=ha.one
  obtain rfl:v=.string ⟨(U8 s).toArray⟩:=hv
  refine (Tryd.utf8_ValidString ⟨(U8 s).toArray⟩ w (by rw [size_U8]; exact hl) (hT.ext (past_ext ok (i:=0) rfl)).1).mono ?_
  rintro e w' ⟨rfl,hb⟩
  refine ⟨_,.a (.c (.bool true)),rfl,?_,hb,rfl,rfl⟩
  show Value.bool _=.bool true
  congr 1
  exact valid_U8 hs
theorem fn_numDigits {W:World} {ms:List Nat} (hT:Tabs W ms) (u:BitVec 64) (hu:1≤u.toNat):FnR Tryd.prog tds 84 1 [[.past W ms]] [.c (.w64 u)] (fun _=>True) (fun y hs=>y=.a (.c (.int .i64 (Lib.nDigits u.toNat:Int)))∧hs=[[.past W ms]]) :=
 FnR.ofCalls fun w r0 vs ok ha _=>by
  obtain ⟨v,rfl,hv⟩:=ha.one
  obtain rfl:v=.int .u64 (u.toNat:Int):=hv
  refine (Tryd.internal_strconv_numDigits u.toNat hu u.isLt w (hT.ext (past_ext ok (i:=0) rfl)).2).mono ?_
  rintro e w' ⟨rfl,rfl⟩
  exact ⟨_,.a (.c (.int .i64 (Lib.nDigits u.toNat:Int))),rfl,rfl,Below.refl _ _,rfl,rfl⟩
end Sx
end
end Go.Proofs.YtnehmcpkeamghaaDoor
section
namespace Go.Proofs
open Go.Shelf
def Tryd.lays285_ren:Go.Shelf.Ren:=⟨fun|285=>85|n=>n,fun|37=>25|51=>147|53=>23|0=>0|3=>3|4=>4|5=>5|9=>9|n=>n,fun|n=>n⟩
theorem Tryd.lays285:Go.Proofs.Lays.n285 Tryd.prog Tryd.lays285_ren:={
 mixed:=by kernel_rfl
 f285:=Tryd.func85.trans (congrArg some (by kernel_rfl))
 t0:=Tryd.underlying0
 a0:=Tryd.isAgg0
 z0:=Tryd.sizeOf0
 v0:=Tryd.zeroValue0
 t3:=Tryd.underlying3
 a3:=Tryd.isAgg3
 z3:=Tryd.sizeOf3
 v3:=Tryd.zeroValue3
 t4:=Tryd.underlying4
 a4:=Tryd.isAgg4
 z4:=Tryd.sizeOf4
 v4:=Tryd.zeroValue4
 t5:=Tryd.underlying5
 a5:=Tryd.isAgg5
 z5:=Tryd.sizeOf5
 v5:=Tryd.zeroValue5
 t9:=Tryd.underlying9
 a9:=Tryd.isAgg9
 z9:=Tryd.sizeOf9
 v9:=Tryd.zeroValue9
 t37:=Tryd.underlying25
 a37:=Tryd.isAgg25
 z37:=Tryd.sizeOf25
 v37:=Tryd.zeroValue25
 t51:=Tryd.underlying147
 a51:=Tryd.isAgg147
 z51:=Tryd.sizeOf147
 v51:=Tryd.zeroValue147
 t53:=Tryd.underlying23
 a53:=Tryd.isAgg23
 z53:=Tryd.sizeOf23
 v53:=Tryd.zeroValue23 }
open Go.Shelf Go.RowKit Go.Sort Go.Lib in
theorem Tryd.internal_strconv_formatBase10 (blk off cap:Nat) (u:Nat) (d:Array UInt8) (w:World) (hH:Holds (fun (b:UInt8)=>Value.int .u8 (b.toNat:Int)) w blk off d) (hu:u<10 ^ d.size) (hu64:u<18446744073709551616) (hsz:d.size<4611686018427387904) :
  Calls Tryd.prog 85 #[.slice (some ⟨blk,off,none⟩) d.size cap,.int .u64 u] w fun e w' =>
   e=.returned (.tuple #[])∧∃ (n v':Nat) (dk:Array UInt8),w'=(putRow (fun (b:UInt8)=>Value.int .u8 (b.toNat:Int)) w blk off dk).drewN n∧FmtInv d.size u 0 v' dk :=
 Any.internal_strconv_formatBase10 Tryd.lays285 blk off cap u d w hH hu hu64 hsz
end Go.Proofs
end
namespace Go.Proofs.YtnehmcpkeamghaaDoor
set_option linter.unusedVariables false
section
namespace Sx
open Go.RowKit Sha Vi Js

def setL (c:Array Value) (o:Nat):List Value→Array Value
 | []=>c
 | v::vs=>setL (c.setIfInBounds o v) (o+1) vs
theorem setCells_map (B:Nat):∀ (vs:List Value) (o:Nat) (w:World),w.setCells B o vs=Go.Sort.mapBlock w B (fun c=>setL c o vs)
 | [],o,w=>(Go.Sort.mapBlock_id w B _ fun c e fr h=>rfl).symm
 | v::vs,o,w=>by
  rw [World.setCells,setCells_map B vs (o+1),Go.Sort.setCell_eq,Go.Sort.mapBlock_mapBlock]
  rfl
theorem setL_at:∀ (vs:List Value) (o:Nat) (c:Array Value) (k:Nat),(setL c o vs)[k]?=if o≤k∧k<o+vs.length then (c[k]?).bind fun _=>vs[k-o]? else c[k]?
 | [],o,c,k=>by rw [if_neg (by simp <;> omega)]; rfl
 | v::vs,o,c,k=>by
  rw [setL,setL_at vs (o+1)]
  by_cases h1:o=k
  ·subst h1
   rw [if_neg (by omega),if_pos ⟨Nat.le_refl _,by simp⟩]
   simp only [Array.getElem?_setIfInBounds,if_true,Nat.sub_self,List.getElem?_cons_zero]
   by_cases hc:o<c.size
   ·rw [if_pos hc,Array.getElem?_eq_getElem hc]; rfl
   ·rw [if_neg hc,Array.getElem?_eq_none (by omega)]; rfl
  ·have e:(c.setIfInBounds o v)[k]?=c[k]?:=by rw [Array.getElem?_setIfInBounds,if_neg h1]
   rw [e]
   by_cases h2:o+1≤k∧k<o+1+vs.length
   ·rw [if_pos h2,if_pos ⟨by omega,by simp; omega⟩,show k-o=(k-(o+1))+1 by omega]
    rfl
   ·rw [if_neg h2,if_neg (by simp; omega)]
theorem putRow_cells (w:World) (B o:Nat) (d:Array UInt8):Go.Sort.putRow (fun (b:UInt8)=>Value.int .u8 (b.toNat:Int)) w B o d=w.setCells B o (d.toList.map fun b=>Value.int .u8 (b.toNat:Int)):=by
 rw [setCells_map]
 refine Go.Sort.mapBlock_congr _ _ _ _ fun c e fr _=>?_
 apply Array.ext_getElem?
 intro k
 rw [setL_at]
 simp only [Go.Sort.putCells,Array.getElem?_mapIdx,List.length_map,Array.length_toList]
 by_cases h:o≤k∧k<o+d.size
 ·rw [if_pos h]
  cases c[k]? with
  | none=>rfl
  | some x =>
   simp only [Option.map_some,Option.bind_some]
   rw [if_pos h,List.getElem?_map,Array.getElem?_toList,Array.getElem?_eq_getElem (show k-o<d.size by omega),Option.map_some,getElem!_pos d (k-o) (by omega)]
 ·rw [if_neg h]
  cases c[k]? with
  | none=>rfl
  | some x=>rw [Option.map_some,if_neg h]
theorem HeapOk.drewN {C:Cx} {h:List (List Seg)} {r:Rho} {w:World} (ok:HeapOk C h r w) (n:Nat):HeapOk C h r (w.drewN n) :=
 ok.ext0 ⟨rfl,rfl,rfl,Nat.le_refl _,fun _ _ _=>rfl⟩
def fmtF (n u:Nat) (d:Nat→SC) (i:Nat):SC:=if i<n then .w8 (b8 (48+u / 10 ^ (n-1-i) % 10)) else d i
theorem dg_b8 (u j:Nat):((Lib.dg u j).toNat:Int)=((b8 (48+u / 10 ^ j % 10)).toNat:Int):=by
 unfold Lib.dg b8
 simp
theorem fn_fmt {n N:Nat} {u:BitVec 64} (hu:u.toNat<10 ^ n) (hn:n≤N) (hn2:n<4611686018427387904) (d:Nat→SC) (hd:∀ i,i<n→∃ x,d i=.w8 x) :
  Fn Tryd.prog tds 85 [[.row N d]] [.c (.sl 0 0 0 n N),.c (.w64 u)] (fun _=>True) (fun y hs=>y=.tup []∧hs=[[.row N (fmtF n u.toNat d)]]):=fun w r0 vs ok ha _=>by
 obtain ⟨v1,v2,rfl,h1,h2⟩:=ha.two
 obtain ⟨B,f,hr,rfl⟩:=h1
 obtain rfl:v2=.int .u64 (u.toNat:Int):=h2
 rw [show f+(0+0)=f by omega]
 have hA:=ok.chunks 0 _ B f rfl hr
 have hcell:∀ j,j<n→∃ x:BitVec 8,d j=.w8 x∧w.cell? ⟨B,f+j,none⟩=some (.int .u8 (x.toNat:Int))∧w.frozen? ⟨B,f+j,none⟩=false:=fun j hj=>by
  obtain ⟨x,hx⟩:=hd j hj
  obtain ⟨v,e1,e2,e3⟩:=hA j (d j) (flat_row_lt N d [] (by omega))
  rw [hx] at e2
  obtain rfl:v=.int .u8 (x.toNat:Int):=e2
  exact ⟨x,hx,e1,(e3 rfl).fr e1⟩
 have hdd:∃ dd:Array UInt8,dd.size=n∧Go.Sort.Holds (fun (b:UInt8)=>Value.int .u8 (b.toNat:Int)) w B f dd:=by
  refine ⟨Array.ofFn fun i:_root_.Fin n=>UInt8.ofBitVec (match d i.val with|.w8 x=>x|_=>0),by simp,fun j hj=>?_⟩
  rw [Array.size_ofFn] at hj
  obtain ⟨x,hx,e1,e2⟩:=hcell j hj
  refine ⟨?_,e2⟩
  rw [e1,getElem!_pos _ j (by simpa using hj),Array.getElem_ofFn]
  simp only [hx]
  rfl
 obtain ⟨dd,hds,hH⟩:=hdd
 have hc:=Tryd.internal_strconv_formatBase10 B f N u.toNat dd w hH (by rw [hds]; exact hu) u.isLt (by rw [hds]; exact hn2)
 rw [hds] at hc
 refine hc.mono ?_
 rintro e w' ⟨rfl,k,v',dk,rfl,hF⟩
 rw [putRow_cells]
 have hput:=ok.put (i:=0) (B:=B) (f:=f) hr (ch:=[.row N d]) (l':=[.row N (fmtF n u.toNat d)]) (new:=[.row n (fmtF n u.toNat d)]) (at_:=0) rfl (by simp) ?_ (vs:=dk.toList.map fun b=>Value.int .u8 (b.toNat:Int)) ?_ (Nat.le_refl _) rfl
 ·exact ⟨_,.tup [],_,r0,rfl,⟨[],rfl,rfl,fun j x e=>by cases e⟩,hput.drewN k,rfl,rfl⟩
 ·refine ⟨by rw [flat_len_row,flat_len_row]; simp [flat]; omega,by rw [flat_len_row,flat_len_row],fun j=>?_⟩
  rw [flat_len_row]
  by_cases hj:0≤j∧j<0+(n+(flat []).length)
  ·have hj':j<n:=by simp [flat] at hj; omega
   rw [if_pos hj,flat_row_lt _ _ _ (by omega),flat_row_lt _ _ _ (by omega)]
   rfl
  ·have hj':n≤j:=by simp [flat] at hj; omega
   rw [if_neg hj]
   by_cases hN:j<N
   ·rw [flat_row_lt _ _ _ hN,flat_row_lt _ _ _ hN]
    unfold fmtF
    rw [if_neg (by omega)]
   ·rw [flat_row_ge _ _ _ (by omega),flat_row_ge _ _ _ (by omega)]
 ·have hsz:dk.size=n:=hF.size
  refine ⟨by rw [flat_len_row]; simp [flat,hsz],fun j x e=>?_⟩
  have hj:j<n:=by
   rcases Nat.lt_or_ge j n with h|h
   ·exact h
   ·rw [flat_row_ge _ _ _ h] at e; cases e
  rw [flat_row_lt _ _ _ hj] at e
  injection e with e
  subst e
  refine ⟨.int .u8 (dk[j]!.toNat:Int),?_,?_⟩
  ·rw [List.getElem?_map,Array.getElem?_toList,Array.getElem?_eq_getElem (show j<dk.size by omega),Option.map_some,getElem!_pos dk j (by omega)]
  ·unfold fmtF
   rw [if_pos hj,hF.done j (Nat.zero_le _) hj]
   exact congrArg (Value.int .u8) (dg_b8 u.toNat (n-1-j))
end Sx
end
section
namespace Js
open Sha

def uv:Nat→Bs→Option Nat
 | 0,_=>some 0
 | i+1,l=>match uv i l with
  | none=>none
  | some r=>if l.length≤i then none else if i<2 then (if L l i=(if i=0 then 92#8 else 117#8) then some r else none) else match hexv (L l i) with
   | none=>none
   | some d=>some (r*16+d)
theorem uv_none {i:Nat} {l:Bs} (h:uv i l=none):uv (i+1) l=none:=by
 rw [uv,h]
theorem uv_add {l:Bs}:∀ (j i:Nat),uv i l=none→uv (i+j) l=none
 | 0,_,h=>h
 | j+1,i,h=>uv_none (uv_add j i h)
theorem uv_six {l:Bs} {i:Nat} (h:uv i l=none) (hi:i≤6):uv 6 l=none:=by
 have:=uv_add (6-i) i h
 rwa [show i+(6-i)=6 by omega] at this
theorem uv_short {l:Bs} {i:Nat} (h:l.length≤i):uv (i+1) l=none:=by
 rw [uv]
 cases uv i l with
 | none=>rfl
 | some r=>simp only [if_pos h]
theorem unit_uv (l:Bs):unit l=match uv 6 l with
  | none=>none
  | some r=>some (r,l.drop 6):=by
 by_cases hl:l.length<6
 ·have h1:=uv_six (uv_short (Nat.le_refl l.length)) (by omega)
  rw [h1]
  match l,hl with
  | [],_=>rfl
  | [_],_=>rfl
  | [_,_],_=>rfl
  | [_,_,_],_=>rfl
  | [_,_,_,_],_=>rfl
  | [_,_,_,_,_],_=>rfl
  | _::_::_::_::_::_::_,h=>simp at h; omega
 ·match l,hl with
  | a::b::c::d::e::f::r,hl =>
   have h1:∀ i,i<6→¬ (a::b::c::d::e::f::r).length≤i:=fun i hi=>by simp only [List.length_cons]; omega
   have l0:L (a::b::c::d::e::f::r) 0=a:=rfl
   have l1:L (a::b::c::d::e::f::r) 1=b:=rfl
   have l2:L (a::b::c::d::e::f::r) 2=c:=rfl
   have l3:L (a::b::c::d::e::f::r) 3=d:=rfl
   have l4:L (a::b::c::d::e::f::r) 4=e:=rfl
   have l5:L (a::b::c::d::e::f::r) 5=f:=rfl
   have u1:uv 1 (a::b::c::d::e::f::r)=if a=92#8 then some 0 else none:=by
    rw [uv,uv]
    simp only [if_neg (h1 0 (by decide)),l0,show (0<2)=True by decide,if_true]
   have u2:uv 2 (a::b::c::d::e::f::r)=if a=92#8∧b=117#8 then some 0 else none:=by
    rw [uv,u1]
    by_cases ha:a=92#8
    ·simp only [if_pos ha,if_neg (h1 1 (by decide)),l1,show (1<2)=True by decide,if_true,show ¬ (1=0) by decide,if_false]
     by_cases hb:b=117#8
     ·simp [ha,hb]
     ·simp [ha,hb]
    ·simp [ha]
   have step:∀ i,2≤i→i<6→uv (i+1) (a::b::c::d::e::f::r)=match uv i (a::b::c::d::e::f::r) with
     | none=>none
     | some q=>match hexv (L (a::b::c::d::e::f::r) i) with
      | none=>none
      | some d=>some (q*16+d):=by
    intro i h2 h6
    rw [uv]
    cases uv i (a::b::c::d::e::f::r) with
    | none=>rfl
    | some q=>simp only [if_neg (h1 i h6),if_neg (show ¬ i<2 by omega)]
   rw [step 5 (by decide) (by decide),step 4 (by decide) (by decide),step 3 (by decide) (by decide),step 2 (by decide) (by decide),u2,l2,l3,l4,l5]
   unfold unit
   by_cases hab:a=92#8∧b=117#8
   ·simp only [if_pos hab]
    cases hexv c with
    | none=>rfl
    | some c =>
     cases hexv d with
     | none=>rfl
     | some d =>
      cases hexv e with
      | none=>rfl
      | some e =>
       cases hexv f with
       | none=>rfl
       | some f=>simp
   ·simp only [if_neg hab]
  | [],h=>simp at h
  | [_],h=>simp at h
  | [_,_],h=>simp at h
  | [_,_,_],h=>simp at h
  | [_,_,_,_],h=>simp at h
  | [_,_,_,_,_],h=>simp at h
theorem uv_lt:∀ {i r:Nat} {l:Bs},uv i l=some r→r<16 ^ (i-2)
 | 0,r,l,h=>by
  injection h with h
  subst h; decide
 | i+1,r,l,h=>by
  rw [uv] at h
  cases e:uv i l with
  | none=>rw [e] at h; cases h
  | some q =>
   rw [e] at h
   have ih:=uv_lt e
   simp only at h
   split at h
   ·cases h
   split at h
   ·rename_i h2
    have h:q=r:=by
     split at h <;> split at h <;> first|(injection h)|cases h
    subst h
    rw [show i+1-2=i-2 by omega]; exact ih
   ·split at h
    ·cases h
    ·rename_i hd hh
     injection h with h
     subst h
     have:=hexv_lt hh
     rw [show i+1-2=(i-2)+1 by omega,Nat.pow_succ]
     omega
theorem uv_end {l:Bs} {i:Nat} (h:uv i l≠none):i≤l.length:=by
 cases i with
 | zero=>omega
 | succ i =>
  apply Classical.byContradiction
  intro hc
  exact h (uv_short (by omega))
theorem or_16 (r d:Nat) (hd:d<16):(((r:Int)*2 ^ 4).toNat ||| ((d:Nat):Int).toNat:Nat)=r*16+d:=by
 have e:((r:Int)*2 ^ 4).toNat=r <<< 4:=by
  rw [Nat.shiftLeft_eq]
  have:((r:Int)*2 ^ 4)=((r*2 ^ 4:Nat):Int):=by push_cast; rfl
  rw [this]; rfl
 rw [e,Int.toNat_natCast,← Nat.shiftLeft_add_eq_or_of_lt (by omega:d<2 ^ 4),Nat.shiftLeft_eq]
end Js
end
section
namespace Sx
open Go.RowKit Sha Vi Js

theorem blanks_drop (s:Bs) (k:Nat) (h:k<s.length):blanks (s.drop k)=if Js.blank (L s k)=true then blanks (s.drop (k+1)) else s.drop k:=by
 rw [List.drop_eq_getElem_cons h,blanks,← L_lt h]
theorem drop_nil {s:Bs} {k:Nat} (h:s.length≤k):s.drop k=[]:=List.drop_eq_nil_of_le h
set_option maxRecDepth 20000 in
set_option maxHeartbeats 4000000 in
theorem fn_blanks (s:Bs) (k:Nat) (hk:k≤s.length) (hs:s.length≤1048576):Fn Tryd.prog tds 43 [psr s k] [.c (.p 0 0 0)] (fun _=>True)
  (fun y hs=>∃ k',k≤k'∧k'≤s.length∧s.drop k'=blanks (s.drop k)∧y=.tup []∧hs=[psr s k']):=by
 refine fn_of_body tds_ok follows_ Tryd.func43 rfl (t:=.a (.c (.p 0 0 0))::anys (Tryd.f43.ntmps-1)) rfl (fun w r0 hr0 _=>?_)
 obtain ⟨x0,rfl⟩:=len1' hr0
 refine .inl ⟨Nat,fun j=>⟨[.a (.c (.p 0 0 0)),.any,.any,.any,.any,.any,.any,.any,.any,.any,.any,.any,.any,.any,.any,.any,.any,.any,.any,.any,.any,.any,.any,.any,.any,.any,.any,.any,.any,.any,.any,.any],[psr s j]⟩,fun j=>k≤j∧j≤s.length∧blanks (s.drop j)=blanks (s.drop k),fun j=>s.length-j,⟨k,[0],⟨⟨rfl,rfl,rfl⟩,by (repeat first|exact trivial|refine ent1 ?_)⟩,Nat.le_refl _,hk,rfl⟩,fun j hj=>?_⟩
 obtain ⟨h1,h2,h3⟩:=hj
 refine ⟨none,[],[(0,true),(1,true),(2,true),(3,true),(4,true),(5,true),(6,true),(7,true),(8,true),(9,true),(10,true),(11,true),(12,true),(13,true),(14,true),(15,true),(16,true),(17,true),(18,true),(19,true),(20,false),(21,true),(22,true)],[],by kernel_rfl,?_⟩
 by_cases h:j<s.length
 ·have e:decide ((j:Int)<(((U8 s).length:Nat):Int))=true:=decide_eq_true (by rw [U8_len]; omega)
  rw [blanks_drop s j h] at h3
  (repeat show _∧_;first|refine yr ?_|refine yt ?_|refine yf ?_|refine ya e ?_|refine yb e ?_|refine yo ?_)
  refine And.intro ⟨by omega,by rw [U8_len]; omega⟩ ?_
  (repeat show _∧_;first|refine yr ?_|refine yt ?_|refine yf ?_|refine ya e ?_|refine yb e ?_|refine yo ?_)
  refine call_same (fn_idxByte [32,9,13,10] (L s j)) [] rfl (by (repeat first|exact trivial|refine ent1 ?_); exact And.intro (U8_get s j h) trivial) trivial (fun _ _=>trivial) ?_
  rintro x hs' ⟨rfl,rfl⟩
  have hb:=blank_idx (L s j)
  by_cases hbl:Js.blank (L s j)=true
  ·rw [hbl] at hb
   rw [if_pos hbl] at h3
   (repeat show _∧_;first|refine yr ?_|refine yt ?_|refine yf ?_|refine ya e ?_|refine yb e ?_|refine ya hb ?_|refine yb hb ?_|refine yo ?_)
   refine ⟨j+1,[0],⟨⟨rfl,rfl,rfl⟩,by (repeat first|exact trivial|refine ent1 ?_)⟩,⟨by omega,by omega,h3⟩,by dsimp only; omega⟩
  ·rw [Bool.not_eq_true] at hbl
   rw [hbl] at hb
   rw [if_neg (by rw [hbl]; decide)] at h3
   (repeat show _∧_;first|refine yr ?_|refine yt ?_|refine yf ?_|refine ya e ?_|refine yb e ?_|refine ya hb ?_|refine yb hb ?_|refine yo ?_)
   exact ⟨.tup [],_,⟨[0],⟨rfl,rfl,rfl⟩,by (repeat first|exact trivial|refine ent1 ?_)⟩,j,h1,h2,h3,rfl,rfl⟩
 ·have e:decide ((j:Int)<(((U8 s).length:Nat):Int))=false:=decide_eq_false (by rw [U8_len]; omega)
  (repeat show _∧_;first|refine yr ?_|refine yt ?_|refine yf ?_|refine ya e ?_|refine yb e ?_|refine yo ?_)
  exact ⟨.tup [],_,⟨[0],⟨rfl,rfl,rfl⟩,by (repeat first|exact trivial|refine ent1 ?_)⟩,j,h1,h2,by rw [← h3,drop_nil (by omega)]; rfl,rfl,rfl⟩
end Sx
end
section
namespace Sx
open Go.RowKit Sha Vi Js

theorem L_dr (s:Bs) (k i:Nat):L (s.drop k) i=L s (k+i):=L_drop s k i
theorem U8_getI (s:Bs) (k i:Nat) (h:k+i<s.length):((U8 s).getD ((k:Int)+(i:Int)).toNat 0).toBitVec=L s (k+i):=by
 rw [show ((k:Int)+(i:Int)).toNat=k+i by omega]
 exact U8_get s (k+i) h
theorem or_i32 {r d:Nat} {c:BitVec 8} (hd:d<16) (h:c.toNat=d):SC.int .i32 (((((r:Int)*2 ^ 4).toNat ||| ((c.toNat:Nat):Int).toNat:Nat)):Int)=.int .i32 ((r*16+d:Nat):Int):=by
 rw [h,or_16 r d hd]
theorem b_shl {r:Nat} (hr:r<4096):4<32∧-2147483648≤(r:Int)*2 ^ 4∧(r:Int)*2 ^ 4≤2147483647:=by
 refine ⟨by decide,?_,?_⟩ <;> omega
theorem b_or {r d:Nat} (hr:r<4096) (hd:d<16):0≤(r:Int)*2 ^ 4∧0≤(d:Int)∧(r:Int)*2 ^ 4≤2147483647∧(d:Int)≤2147483647:=by
 refine ⟨?_,?_,?_,?_⟩ <;> omega
theorem hex_dig:∀ c:BitVec 8,decide (48#8≤c)=true→decide (c≤57#8)=true→hexv c=some ((c-48#8).toNat)∧(c-48#8).toNat<16:=by decide +kernel
theorem hex_low:∀ c:BitVec 8,decide (97#8≤c)=true→decide (c≤102#8)=true→hexv c=some ((c-97#8+10#8).toNat)∧(c-97#8+10#8).toNat<16:=by decide +kernel
theorem hex_up:∀ c:BitVec 8,decide (65#8≤c)=true→decide (c≤70#8)=true→hexv c=some ((c-65#8+10#8).toNat)∧(c-65#8+10#8).toNat<16:=by decide +kernel
theorem hex_no:∀ c:BitVec 8,(decide (48#8≤c) && decide (c≤57#8))=false→(decide (97#8≤c) && decide (c≤102#8))=false→(decide (65#8≤c) && decide (c≤70#8))=false→hexv c=none:=by decide +kernel
theorem uv_pre {l:Bs} {i r:Nat} (h:uv i l=some r) (hi:i<l.length) (h2:i<2):uv (i+1) l=if L l i=(if i=0 then 92#8 else 117#8) then some r else none:=by
 rw [uv,h]; simp only [if_neg (show ¬ l.length≤i by omega),if_pos h2]
theorem uv_dig {l:Bs} {i r:Nat} (h:uv i l=some r) (hi:i<l.length) (h2:2≤i):uv (i+1) l=match hexv (L l i) with
  | none=>none
  | some d=>some (r*16+d):=by
 rw [uv,h]; simp only [if_neg (show ¬ l.length≤i by omega),if_neg (show ¬ i<2 by omega)]
 all_goals (cases hexv (L l i) <;> rfl)
set_option maxRecDepth 20000 in
set_option maxHeartbeats 8000000 in
theorem fn_unit (s:Bs) (k:Nat) (hk:k≤s.length) (hs:s.length≤1048576):Fn Tryd.prog tds 87 [psr s k] [.c (.p 0 0 0)] (fun _=>True)
  (fun y hs=>(∃ r,unit (s.drop k)=some (r,s.drop (k+6))∧k+6≤s.length∧y=.tup [.c (.int .i32 (r:Int)),.c (.int .i64 0)]∧hs=[psr s (k+6)])∨(unit (s.drop k)=none∧y=.tup [.c (.int .i32 0),.c (.int .i64 4)]∧hs=[psr s k])):=by
 refine fn_of_body tds_ok follows_ Tryd.func87 rfl (t:=.a (.c (.p 0 0 0))::anys (Tryd.f87.ntmps-1)) rfl (fun w r0 hr0 _=>?_)
 obtain ⟨x0,rfl⟩:=len1' hr0
 have hu:=unit_uv (s.drop k)
 have fail:∀ i,i≤6→uv i (s.drop k)=none→unit (s.drop k)=none:=fun i hi h=>by rw [hu,uv_six h hi]
 refine .inl ⟨Nat × Nat,fun (i,r)=>⟨[.a (.c (.p 0 0 0)),.any,.a (.c (.int .i32 0)),.a (.c (.int .i64 (0))),.a (.c (.int .i32 (r:Int))),.any,.any,.a (.c (.int .i64 ((i:Int)))),.any,.any,.any,.any,.any,.any,.any,.any,.any,.any,.any,.any,.any,.any,.any,.any,.any,.any,.any,.any,.any,.any,.any,.any,.any,.any,.any,.any,.any,.any,.any,.any,.any,.any,.any,.any,.any,.any,.any,.any,.any,.any,.any,.any,.any,.any,.any,.any,.any,.any,.any,.any,.any,.any,.any,.any,.any,.any,.any,.any,.any,.any,.any,.any,.any,.any,.any,.any,.any,.any,.any,.any,.any,.any,.any,.any,.any,.any,.any,.any,.any,.any],[psr s k]⟩,fun (i,r)=>i≤6∧uv i (s.drop k)=some r,fun (i,_)=>6-i,⟨(0,0),[0],⟨⟨rfl,rfl,rfl⟩,by (repeat first|exact trivial|refine ent1 ?_)⟩,Nat.zero_le _,rfl⟩,fun (i,r) hj=>?_⟩
 obtain ⟨h1,h2⟩:=hj
 have hb:=uv_lt h2
 by_cases h6:i<6
 ·have e6:decide ((i:Int)<6)=true:=decide_eq_true (by omega)
  have hp:(16:Nat) ^ (i-2)≤16 ^ 3:=Nat.pow_le_pow_right (by decide) (by omega)
  have hr:r<4096:=Nat.lt_of_lt_of_le hb hp
  (repeat show _∧_;first|refine yr ?_|refine yt ?_|refine yf ?_|refine ya e6 ?_|refine yb e6 ?_|refine yo ?_)
  refine ⟨none,[],[(0,true),(1,true),(2,true),(3,true),(4,true),(5,true),(6,true),(7,true),(8,true),(9,true),(10,true),(11,true)],[],by kernel_rfl,?_⟩
  by_cases hl:k+i<s.length
  ·have el:decide ((((U8 s).length:Nat):Int)≤(k:Int)+(i:Int))=false:=decide_eq_false (by rw [U8_len]; omega)
   have hl':i<(s.drop k).length:=by rw [List.length_drop]; omega
   have hget:=U8_getI s k i hl
   (repeat show _∧_;first|refine yr ?_|refine yt ?_|refine yf ?_|refine ya el ?_|refine yb el ?_|refine yo ?_)
   refine ⟨none,[],[(0,true),(1,true),(2,true),(3,true),(4,true),(5,true),(6,true),(7,true),(8,true),(9,true),(10,true),(11,true)],[],by kernel_rfl,?_⟩
   (repeat show _∧_;first|refine yr ?_|refine yt ?_|refine yf ?_|refine yo ?_)
   refine And.intro ⟨by omega,by rw [U8_len]; omega⟩ ?_
   rw [hget]
   have hc:L (s.drop k) i=L s (k+i):=L_dr s k i
   by_cases h2':i<2
   ·have e2:decide ((i:Int)<2)=true:=decide_eq_true (by omega)
    have hpre:=uv_pre h2 hl' h2'
    rw [hc] at hpre
    have err:∀ c:BitVec 8,L s (k+i)≠c→(if i=0 then 92#8 else 117#8)=c→unit (s.drop k)=none:=fun c hne hce=>fail (i+1) (by omega) (by rw [hpre,hce,if_neg hne])
    have good:∀ c:BitVec 8,L s (k+i)=c→(if i=0 then 92#8 else 117#8)=c→uv (i+1) (s.drop k)=some r:=fun c he hce=>by rw [hpre,hce,if_pos he]
    have h01:i=0∨i=1:=by omega
    rcases h01 with rfl|rfl
    ·by_cases hq:L s (k+0)=92#8
     ·have eq:decide (L s (k+0)≠92#8)=false:=decide_eq_false (not_not_intro hq)
      (repeat show _∧_;first|refine yr ?_|refine yt ?_|refine yf ?_|refine ya e2 ?_|refine yb e2 ?_|refine yo ?_)
      refine And.intro (fun h=>Bool.noConfusion (h.symm.trans eq)) (fun _=>?_)
      (repeat show _∧_;first|refine yr ?_|refine yt ?_|refine yf ?_|refine yo ?_)
      refine ⟨(1,r),[0],⟨⟨rfl,rfl,rfl⟩,by (repeat first|exact trivial|refine ent1 ?_)⟩,⟨by omega,good _ hq rfl⟩,by dsimp only; omega⟩
     ·have eq:decide (L s (k+0)≠92#8)=true:=decide_eq_true hq
      (repeat show _∧_;first|refine yr ?_|refine yt ?_|refine yf ?_|refine ya e2 ?_|refine yb e2 ?_|refine yo ?_)
      refine And.intro (fun _=>?_) (fun h=>Bool.noConfusion (h.symm.trans eq))
      (repeat show _∧_;first|refine yr ?_|refine yt ?_|refine yf ?_|refine yo ?_)
      exact ⟨.tup [.c (.int .i32 0),.c (.int .i64 4)],_,⟨[0],⟨rfl,rfl,rfl⟩,by (repeat first|exact trivial|refine ent1 ?_)⟩,.inr ⟨err _ hq rfl,rfl,rfl⟩⟩
    ·by_cases hq:L s (k+1)=117#8
     ·have eq:decide (L s (k+1)≠117#8)=false:=decide_eq_false (not_not_intro hq)
      (repeat show _∧_;first|refine yr ?_|refine yt ?_|refine yf ?_|refine ya e2 ?_|refine yb e2 ?_|refine yo ?_)
      refine And.intro (fun h=>Bool.noConfusion (h.symm.trans eq)) (fun _=>?_)
      (repeat show _∧_;first|refine yr ?_|refine yt ?_|refine yf ?_|refine yo ?_)
      refine ⟨(2,r),[0],⟨⟨rfl,rfl,rfl⟩,by (repeat first|exact trivial|refine ent1 ?_)⟩,⟨by omega,good _ hq rfl⟩,by dsimp only; omega⟩
     ·have eq:decide (L s (k+1)≠117#8)=true:=decide_eq_true hq
      (repeat show _∧_;first|refine yr ?_|refine yt ?_|refine yf ?_|refine ya e2 ?_|refine yb e2 ?_|refine yo ?_)
      refine And.intro (fun _=>?_) (fun h=>Bool.noConfusion (h.symm.trans eq))
      (repeat show _∧_;first|refine yr ?_|refine yt ?_|refine yf ?_|refine yo ?_)
      exact ⟨.tup [.c (.int .i32 0),.c (.int .i64 4)],_,⟨[0],⟨rfl,rfl,rfl⟩,by (repeat first|exact trivial|refine ent1 ?_)⟩,.inr ⟨err _ hq rfl,rfl,rfl⟩⟩
   ·have e2:decide ((i:Int)<2)=false:=decide_eq_false (by omega)
    have hdg:=uv_dig h2 hl' (by omega)
    rw [hc] at hdg
    generalize L s (k+i)=c at *
    have H1:=hex_dig c
    have H2:=hex_low c
    have H3:=hex_up c
    have H4:=hex_no c
    have fin:∀ d:BitVec 8,hexv c=some d.toNat→d.toNat<16→uv (i+1) (s.drop k)=some (r*16+d.toNat):=fun d hd _=>by rw [hdg,hd]
    rcases hA:decide (48#8≤c) with _|_
    ·rcases hC:decide (97#8≤c) with _|_
     ·rcases hE:decide (65#8≤c) with _|_
      ·have hno:=H4 (by rw [hA]; rfl) (by rw [hC]; rfl) (by rw [hE]; rfl)
       (repeat show _∧_;first|refine yr ?_|refine yt ?_|refine yf ?_|refine ya e2 ?_|refine yb e2 ?_|refine ya hA ?_|refine yb hA ?_|refine ya hC ?_|refine yb hC ?_|refine ya hE ?_|refine yb hE ?_|refine yo ?_)
       exact ⟨.tup [.c (.int .i32 0),.c (.int .i64 4)],_,⟨[0],⟨rfl,rfl,rfl⟩,by (repeat first|exact trivial|refine ent1 ?_)⟩,.inr ⟨fail (i+1) (by omega) (by rw [hdg,hno]),rfl,rfl⟩⟩
      rcases hF:decide (c≤70#8) with _|_
      ·have hno:=H4 (by rw [hA]; rfl) (by rw [hC]; rfl) (by rw [hE,hF]; rfl)
       (repeat show _∧_;first|refine yr ?_|refine yt ?_|refine yf ?_|refine ya e2 ?_|refine yb e2 ?_|refine ya hA ?_|refine yb hA ?_|refine ya hC ?_|refine yb hC ?_|refine ya hE ?_|refine yb hE ?_|refine ya hF ?_|refine yb hF ?_|refine yo ?_)
       exact ⟨.tup [.c (.int .i32 0),.c (.int .i64 4)],_,⟨[0],⟨rfl,rfl,rfl⟩,by (repeat first|exact trivial|refine ent1 ?_)⟩,.inr ⟨fail (i+1) (by omega) (by rw [hdg,hno]),rfl,rfl⟩⟩
      ·obtain ⟨q1,q2⟩:=H3 hE hF
       (repeat show _∧_;first|refine yr ?_|refine yt ?_|refine yf ?_|refine ya e2 ?_|refine yb e2 ?_|refine ya hA ?_|refine yb hA ?_|refine ya hC ?_|refine yb hC ?_|refine ya hE ?_|refine yb hE ?_|refine ya hF ?_|refine yb hF ?_|refine yo ?_)
       refine And.intro (b_shl hr) ?_
       (repeat show _∧_;first|refine yr ?_|refine yt ?_|refine yf ?_|refine yo ?_)
       refine And.intro (b_or hr q2) ?_
       (repeat show _∧_;first|refine yr ?_|refine yt ?_|refine yf ?_|refine yo ?_)
       refine ⟨(i+1,r*16+(c-65#8+10#8).toNat),[0],⟨⟨rfl,rfl,rfl⟩,?_⟩,⟨by omega,fin _ q1 q2⟩,by dsimp only; omega⟩
       (repeat first|exact trivial|refine ent1 ?_)
       refine And.intro (or_i32 q2 rfl) ?_
       (repeat first|exact trivial|refine ent1 ?_)
     rcases hD:decide (c≤102#8) with _|_
     ·rcases hE:decide (65#8≤c) with _|_
      ·have hno:=H4 (by rw [hA]; rfl) (by rw [hC,hD]; rfl) (by rw [hE]; rfl)
       (repeat show _∧_;first|refine yr ?_|refine yt ?_|refine yf ?_|refine ya e2 ?_|refine yb e2 ?_|refine ya hA ?_|refine yb hA ?_|refine ya hC ?_|refine yb hC ?_|refine ya hD ?_|refine yb hD ?_|refine ya hE ?_|refine yb hE ?_|refine yo ?_)
       exact ⟨.tup [.c (.int .i32 0),.c (.int .i64 4)],_,⟨[0],⟨rfl,rfl,rfl⟩,by (repeat first|exact trivial|refine ent1 ?_)⟩,.inr ⟨fail (i+1) (by omega) (by rw [hdg,hno]),rfl,rfl⟩⟩
      rcases hF:decide (c≤70#8) with _|_
      ·have hno:=H4 (by rw [hA]; rfl) (by rw [hC,hD]; rfl) (by rw [hE,hF]; rfl)
       (repeat show _∧_;first|refine yr ?_|refine yt ?_|refine yf ?_|refine ya e2 ?_|refine yb e2 ?_|refine ya hA ?_|refine yb hA ?_|refine ya hC ?_|refine yb hC ?_|refine ya hD ?_|refine yb hD ?_|refine ya hE ?_|refine yb hE ?_|refine ya hF ?_|refine yb hF ?_|refine yo ?_)
       exact ⟨.tup [.c (.int .i32 0),.c (.int .i64 4)],_,⟨[0],⟨rfl,rfl,rfl⟩,by (repeat first|exact trivial|refine ent1 ?_)⟩,.inr ⟨fail (i+1) (by omega) (by rw [hdg,hno]),rfl,rfl⟩⟩
      ·obtain ⟨q1,q2⟩:=H3 hE hF
       (repeat show _∧_;first|refine yr ?_|refine yt ?_|refine yf ?_|refine ya e2 ?_|refine yb e2 ?_|refine ya hA ?_|refine yb hA ?_|refine ya hC ?_|refine yb hC ?_|refine ya hD ?_|refine yb hD ?_|refine ya hE ?_|refine yb hE ?_|refine ya hF ?_|refine yb hF ?_|refine yo ?_)
       refine And.intro (b_shl hr) ?_
       (repeat show _∧_;first|refine yr ?_|refine yt ?_|refine yf ?_|refine yo ?_)
       refine And.intro (b_or hr q2) ?_
       (repeat show _∧_;first|refine yr ?_|refine yt ?_|refine yf ?_|refine yo ?_)
       refine ⟨(i+1,r*16+(c-65#8+10#8).toNat),[0],⟨⟨rfl,rfl,rfl⟩,?_⟩,⟨by omega,fin _ q1 q2⟩,by dsimp only; omega⟩
       (repeat first|exact trivial|refine ent1 ?_)
       refine And.intro (or_i32 q2 rfl) ?_
       (repeat first|exact trivial|refine ent1 ?_)
     ·obtain ⟨q1,q2⟩:=H2 hC hD
      (repeat show _∧_;first|refine yr ?_|refine yt ?_|refine yf ?_|refine ya e2 ?_|refine yb e2 ?_|refine ya hA ?_|refine yb hA ?_|refine ya hC ?_|refine yb hC ?_|refine ya hD ?_|refine yb hD ?_|refine yo ?_)
      refine And.intro (b_shl hr) ?_
      (repeat show _∧_;first|refine yr ?_|refine yt ?_|refine yf ?_|refine yo ?_)
      refine And.intro (b_or hr q2) ?_
      (repeat show _∧_;first|refine yr ?_|refine yt ?_|refine yf ?_|refine yo ?_)
      refine ⟨(i+1,r*16+(c-97#8+10#8).toNat),[0],⟨⟨rfl,rfl,rfl⟩,?_⟩,⟨by omega,fin _ q1 q2⟩,by dsimp only; omega⟩
      (repeat first|exact trivial|refine ent1 ?_)
      refine And.intro (or_i32 q2 rfl) ?_
      (repeat first|exact trivial|refine ent1 ?_)
    rcases hB:decide (c≤57#8) with _|_
    ·rcases hC:decide (97#8≤c) with _|_
     ·rcases hE:decide (65#8≤c) with _|_
      ·have hno:=H4 (by rw [hA,hB]; rfl) (by rw [hC]; rfl) (by rw [hE]; rfl)
       (repeat show _∧_;first|refine yr ?_|refine yt ?_|refine yf ?_|refine ya e2 ?_|refine yb e2 ?_|refine ya hA ?_|refine yb hA ?_|refine ya hB ?_|refine yb hB ?_|refine ya hC ?_|refine yb hC ?_|refine ya hE ?_|refine yb hE ?_|refine yo ?_)
       exact ⟨.tup [.c (.int .i32 0),.c (.int .i64 4)],_,⟨[0],⟨rfl,rfl,rfl⟩,by (repeat first|exact trivial|refine ent1 ?_)⟩,.inr ⟨fail (i+1) (by omega) (by rw [hdg,hno]),rfl,rfl⟩⟩
      rcases hF:decide (c≤70#8) with _|_
      ·have hno:=H4 (by rw [hA,hB]; rfl) (by rw [hC]; rfl) (by rw [hE,hF]; rfl)
       (repeat show _∧_;first|refine yr ?_|refine yt ?_|refine yf ?_|refine ya e2 ?_|refine yb e2 ?_|refine ya hA ?_|refine yb hA ?_|refine ya hB ?_|refine yb hB ?_|refine ya hC ?_|refine yb hC ?_|refine ya hE ?_|refine yb hE ?_|refine ya hF ?_|refine yb hF ?_|refine yo ?_)
       exact ⟨.tup [.c (.int .i32 0),.c (.int .i64 4)],_,⟨[0],⟨rfl,rfl,rfl⟩,by (repeat first|exact trivial|refine ent1 ?_)⟩,.inr ⟨fail (i+1) (by omega) (by rw [hdg,hno]),rfl,rfl⟩⟩
      ·obtain ⟨q1,q2⟩:=H3 hE hF
       (repeat show _∧_;first|refine yr ?_|refine yt ?_|refine yf ?_|refine ya e2 ?_|refine yb e2 ?_|refine ya hA ?_|refine yb hA ?_|refine ya hB ?_|refine yb hB ?_|refine ya hC ?_|refine yb hC ?_|refine ya hE ?_|refine yb hE ?_|refine ya hF ?_|refine yb hF ?_|refine yo ?_)
       refine And.intro (b_shl hr) ?_
       (repeat show _∧_;first|refine yr ?_|refine yt ?_|refine yf ?_|refine yo ?_)
       refine And.intro (b_or hr q2) ?_
       (repeat show _∧_;first|refine yr ?_|refine yt ?_|refine yf ?_|refine yo ?_)
       refine ⟨(i+1,r*16+(c-65#8+10#8).toNat),[0],⟨⟨rfl,rfl,rfl⟩,?_⟩,⟨by omega,fin _ q1 q2⟩,by dsimp only; omega⟩
       (repeat first|exact trivial|refine ent1 ?_)
       refine And.intro (or_i32 q2 rfl) ?_
       (repeat first|exact trivial|refine ent1 ?_)
     rcases hD:decide (c≤102#8) with _|_
     ·rcases hE:decide (65#8≤c) with _|_
      ·have hno:=H4 (by rw [hA,hB]; rfl) (by rw [hC,hD]; rfl) (by rw [hE]; rfl)
       (repeat show _∧_;first|refine yr ?_|refine yt ?_|refine yf ?_|refine ya e2 ?_|refine yb e2 ?_|refine ya hA ?_|refine yb hA ?_|refine ya hB ?_|refine yb hB ?_|refine ya hC ?_|refine yb hC ?_|refine ya hD ?_|refine yb hD ?_|refine ya hE ?_|refine yb hE ?_|refine yo ?_)
       exact ⟨.tup [.c (.int .i32 0),.c (.int .i64 4)],_,⟨[0],⟨rfl,rfl,rfl⟩,by (repeat first|exact trivial|refine ent1 ?_)⟩,.inr ⟨fail (i+1) (by omega) (by rw [hdg,hno]),rfl,rfl⟩⟩
      rcases hF:decide (c≤70#8) with _|_
      ·have hno:=H4 (by rw [hA,hB]; rfl) (by rw [hC,hD]; rfl) (by rw [hE,hF]; rfl)
       (repeat show _∧_;first|refine yr ?_|refine yt ?_|refine yf ?_|refine ya e2 ?_|refine yb e2 ?_|refine ya hA ?_|refine yb hA ?_|refine ya hB ?_|refine yb hB ?_|refine ya hC ?_|refine yb hC ?_|refine ya hD ?_|refine yb hD ?_|refine ya hE ?_|refine yb hE ?_|refine ya hF ?_|refine yb hF ?_|refine yo ?_)
       exact ⟨.tup [.c (.int .i32 0),.c (.int .i64 4)],_,⟨[0],⟨rfl,rfl,rfl⟩,by (repeat first|exact trivial|refine ent1 ?_)⟩,.inr ⟨fail (i+1) (by omega) (by rw [hdg,hno]),rfl,rfl⟩⟩
      ·obtain ⟨q1,q2⟩:=H3 hE hF
       (repeat show _∧_;first|refine yr ?_|refine yt ?_|refine yf ?_|refine ya e2 ?_|refine yb e2 ?_|refine ya hA ?_|refine yb hA ?_|refine ya hB ?_|refine yb hB ?_|refine ya hC ?_|refine yb hC ?_|refine ya hD ?_|refine yb hD ?_|refine ya hE ?_|refine yb hE ?_|refine ya hF ?_|refine yb hF ?_|refine yo ?_)
       refine And.intro (b_shl hr) ?_
       (repeat show _∧_;first|refine yr ?_|refine yt ?_|refine yf ?_|refine yo ?_)
       refine And.intro (b_or hr q2) ?_
       (repeat show _∧_;first|refine yr ?_|refine yt ?_|refine yf ?_|refine yo ?_)
       refine ⟨(i+1,r*16+(c-65#8+10#8).toNat),[0],⟨⟨rfl,rfl,rfl⟩,?_⟩,⟨by omega,fin _ q1 q2⟩,by dsimp only; omega⟩
       (repeat first|exact trivial|refine ent1 ?_)
       refine And.intro (or_i32 q2 rfl) ?_
       (repeat first|exact trivial|refine ent1 ?_)
     ·obtain ⟨q1,q2⟩:=H2 hC hD
      (repeat show _∧_;first|refine yr ?_|refine yt ?_|refine yf ?_|refine ya e2 ?_|refine yb e2 ?_|refine ya hA ?_|refine yb hA ?_|refine ya hB ?_|refine yb hB ?_|refine ya hC ?_|refine yb hC ?_|refine ya hD ?_|refine yb hD ?_|refine yo ?_)
      refine And.intro (b_shl hr) ?_
      (repeat show _∧_;first|refine yr ?_|refine yt ?_|refine yf ?_|refine yo ?_)
      refine And.intro (b_or hr q2) ?_
      (repeat show _∧_;first|refine yr ?_|refine yt ?_|refine yf ?_|refine yo ?_)
      refine ⟨(i+1,r*16+(c-97#8+10#8).toNat),[0],⟨⟨rfl,rfl,rfl⟩,?_⟩,⟨by omega,fin _ q1 q2⟩,by dsimp only; omega⟩
      (repeat first|exact trivial|refine ent1 ?_)
      refine And.intro (or_i32 q2 rfl) ?_
      (repeat first|exact trivial|refine ent1 ?_)
    ·obtain ⟨q1,q2⟩:=H1 hA hB
     (repeat show _∧_;first|refine yr ?_|refine yt ?_|refine yf ?_|refine ya e2 ?_|refine yb e2 ?_|refine ya hA ?_|refine yb hA ?_|refine ya hB ?_|refine yb hB ?_|refine yo ?_)
     refine And.intro (b_shl hr) ?_
     (repeat show _∧_;first|refine yr ?_|refine yt ?_|refine yf ?_|refine yo ?_)
     refine And.intro (b_or hr q2) ?_
     (repeat show _∧_;first|refine yr ?_|refine yt ?_|refine yf ?_|refine yo ?_)
     refine ⟨(i+1,r*16+(c-48#8).toNat),[0],⟨⟨rfl,rfl,rfl⟩,?_⟩,⟨by omega,fin _ q1 q2⟩,by dsimp only; omega⟩
     (repeat first|exact trivial|refine ent1 ?_)
     refine And.intro (or_i32 q2 rfl) ?_
     (repeat first|exact trivial|refine ent1 ?_)
  ·have el:decide ((((U8 s).length:Nat):Int)≤(k:Int)+(i:Int))=true:=decide_eq_true (by rw [U8_len]; omega)
   (repeat show _∧_;first|refine yr ?_|refine yt ?_|refine yf ?_|refine ya el ?_|refine yb el ?_|refine yo ?_)
   exact ⟨.tup [.c (.int .i32 0),.c (.int .i64 4)],_,⟨[0],⟨rfl,rfl,rfl⟩,by (repeat first|exact trivial|refine ent1 ?_)⟩,.inr ⟨fail (i+1) (by omega) (uv_short (by rw [List.length_drop]; omega)),rfl,rfl⟩⟩
 ·obtain rfl:i=6:=by omega
  have h6l:=uv_end (l:=s.drop k) (i:=6) (by rw [h2]; simp)
  rw [List.length_drop] at h6l
  (repeat show _∧_;first|refine yr ?_|refine yt ?_|refine yf ?_|refine yo ?_)
  refine ⟨.tup [.c (.int .i32 (r:Int)),.c (.int .i64 0)],_,⟨[0],⟨rfl,rfl,rfl⟩,by (repeat first|exact trivial|refine ent1 ?_)⟩,.inl ⟨r,?_,by omega,rfl,rfl⟩⟩
  rw [hu,h2]
  simp only [List.drop_drop]
end Sx
end
section
namespace Sx
open Go.RowKit Sha Vi Js

def RuneA (s:Bs) (k:Nat) (r:R Nat) (y:SV) (hs:List (List Seg)):Prop :=
 (∃ v k',r=.ok v (s.drop k')∧k≤k'∧k'≤s.length∧y=.tup [.c (.int .i32 (v:Int)),.c (.int .i64 0)]∧hs=[psr s k']) ∨
 (∃ e v k',r=.bad e∧e≠0∧k≤k'∧k'≤s.length∧y=.tup [.c (.int .i32 v),.c (.int .i64 e)]∧hs=[psr s k'])
theorem pair_i32 {r q:Nat} (h1:55296≤r) (h2:r<56320) (h3:56320≤q) (h4:q≤57343):(65536+((r:Int)-55296)*2 ^ 10)+((q:Int)-56320)=((65536+(r-55296)*1024+(q-56320):Nat):Int):=by
 omega
set_option maxRecDepth 20000 in
set_option maxHeartbeats 8000000 in
theorem fn_coded (s:Bs) (k:Nat) (hk:k≤s.length) (hs:s.length≤1048576):Fn Tryd.prog tds 79 [psr s k] [.c (.p 0 0 0)] (fun _=>True) (RuneA s k (coded (s.drop k))):=by
 refine fn_of_body tds_ok follows_ Tryd.func79 rfl (t:=.a (.c (.p 0 0 0))::anys (Tryd.f79.ntmps-1)) rfl (fun w r0 hr0 _=>?_)
 obtain ⟨x0,rfl⟩:=len1' hr0
 (repeat show _∧_;first|refine yr ?_|refine yt ?_|refine yf ?_|refine yo ?_)
 refine call_same (fn_unit s k hk hs) [0] rfl (by (repeat first|exact trivial|refine ent1 ?_)) (by (repeat first|exact trivial|refine ent1 ?_)) (fun _ _=>trivial) ?_
 rintro x hs' (⟨r,h1,h2,rfl,rfl⟩|⟨h1,rfl,rfl⟩)
 ·have hC:coded (s.drop k)=if r<55296∨57343<r then .ok r (s.drop (k+6)) else if 56320≤r then .bad 4 else match unit (s.drop (k+6)) with
    | none=>.bad 4
    | some (low,u)=>if low<56320∨57343<low then .bad 4 else .ok (65536+(r-55296)*1024+(low-56320)) u:=by
   unfold coded; rw [h1]; dsimp only
   split
   ·rfl
   split
   ·rfl
   cases unit (s.drop (k+6)) <;> rfl
  by_cases a1:r<55296
  ·have e1:decide ((r:Int)<55296)=true:=decide_eq_true (by omega)
   (repeat show _∧_;first|refine yr ?_|refine yt ?_|refine yf ?_|refine yt ?_ (by first|decide|(rw[e1];decide))|refine yf ?_ (by first|decide|(rw[e1];decide))|refine yo ?_)
   exact ⟨.tup [.c (.int .i32 (r:Int)),.c (.int .i64 0)],_,⟨[0],⟨rfl,rfl,rfl⟩,by (repeat first|exact trivial|refine ent1 ?_)⟩,.inl ⟨r,k+6,by rw [hC,if_pos (.inl a1)],by omega,h2,rfl,rfl⟩⟩
  have e1:decide ((r:Int)<55296)=false:=decide_eq_false (by omega)
  by_cases a2:57343<r
  ·have e2:decide ((57343:Int)<(r:Int))=true:=decide_eq_true (by omega)
   (repeat show _∧_;first|refine yr ?_|refine yt ?_|refine yf ?_|refine yt ?_ (by first|decide|(rw[e1];decide)|(rw[e2];decide))|refine yf ?_ (by first|decide|(rw[e1];decide)|(rw[e2];decide))|refine yo ?_)
   exact ⟨.tup [.c (.int .i32 (r:Int)),.c (.int .i64 0)],_,⟨[0],⟨rfl,rfl,rfl⟩,by (repeat first|exact trivial|refine ent1 ?_)⟩,.inl ⟨r,k+6,by rw [hC,if_pos (.inr a2)],by omega,h2,rfl,rfl⟩⟩
  have e2:decide ((57343:Int)<(r:Int))=false:=decide_eq_false (by omega)
  rw [if_neg (by omega)] at hC
  by_cases a3:56320≤r
  ·have e3:decide ((56320:Int)≤(r:Int))=true:=decide_eq_true (by omega)
   rw [if_pos a3] at hC
   (repeat show _∧_;first|refine yr ?_|refine yt ?_|refine yf ?_|refine yt ?_ (by first|decide|(rw[e1];decide)|(rw[e2];decide)|(rw[e3];decide))|refine yf ?_ (by first|decide|(rw[e1];decide)|(rw[e2];decide)|(rw[e3];decide))|refine yo ?_)
   exact ⟨.tup [.c (.int .i32 0),.c (.int .i64 4)],_,⟨[0],⟨rfl,rfl,rfl⟩,by (repeat first|exact trivial|refine ent1 ?_)⟩,.inr ⟨4,0,k+6,hC,by decide,by omega,h2,rfl,rfl⟩⟩
  have e3:decide ((56320:Int)≤(r:Int))=false:=decide_eq_false (by omega)
  rw [if_neg a3] at hC
  (repeat show _∧_;first|refine yr ?_|refine yt ?_|refine yf ?_|refine yt ?_ (by first|decide|(rw[e1];decide)|(rw[e2];decide)|(rw[e3];decide))|refine yf ?_ (by first|decide|(rw[e1];decide)|(rw[e2];decide)|(rw[e3];decide))|refine yo ?_)
  refine call_same (fn_unit s (k+6) h2 hs) [0] rfl (by (repeat first|exact trivial|refine ent1 ?_)) (by (repeat first|exact trivial|refine ent1 ?_)) (fun _ _=>trivial) ?_
  rintro x hs' (⟨q,g1,g2,rfl,rfl⟩|⟨g1,rfl,rfl⟩)
  ·rw [g1] at hC
   dsimp only at hC
   by_cases b1:q<56320
   ·have f1:decide ((q:Int)<56320)=true:=decide_eq_true (by omega)
    rw [if_pos (.inl b1)] at hC
    (repeat show _∧_;first|refine yr ?_|refine yt ?_|refine yf ?_|refine yt ?_ (by first|decide|(rw[f1];decide))|refine yf ?_ (by first|decide|(rw[f1];decide))|refine yo ?_)
    exact ⟨.tup [.c (.int .i32 0),.c (.int .i64 4)],_,⟨[0],⟨rfl,rfl,rfl⟩,by (repeat first|exact trivial|refine ent1 ?_)⟩,.inr ⟨4,0,k+6+6,hC,by decide,by omega,g2,rfl,rfl⟩⟩
   have f1:decide ((q:Int)<56320)=false:=decide_eq_false (by omega)
   by_cases b2:57343<q
   ·have f2:decide ((57343:Int)<(q:Int))=true:=decide_eq_true (by omega)
    rw [if_pos (.inr b2)] at hC
    (repeat show _∧_;first|refine yr ?_|refine yt ?_|refine yf ?_|refine yt ?_ (by first|decide|(rw[f1];decide)|(rw[f2];decide))|refine yf ?_ (by first|decide|(rw[f1];decide)|(rw[f2];decide))|refine yo ?_)
    exact ⟨.tup [.c (.int .i32 0),.c (.int .i64 4)],_,⟨[0],⟨rfl,rfl,rfl⟩,by (repeat first|exact trivial|refine ent1 ?_)⟩,.inr ⟨4,0,k+6+6,hC,by decide,by omega,g2,rfl,rfl⟩⟩
   have f2:decide ((57343:Int)<(q:Int))=false:=decide_eq_false (by omega)
   rw [if_neg (by omega)] at hC
   (repeat show _∧_;first|refine yr ?_|refine yt ?_|refine yf ?_|refine yt ?_ (by first|decide|(rw[f1];decide)|(rw[f2];decide))|refine yf ?_ (by first|decide|(rw[f1];decide)|(rw[f2];decide))|refine yo ?_)
   refine And.intro (show (10:Nat)<32∧-2147483648≤((r:Int)-55296)*2 ^ 10∧((r:Int)-55296)*2 ^ 10≤2147483647 by refine ⟨by decide,?_,?_⟩ <;> omega) ?_
   refine And.intro (show -2147483648≤65536+((r:Int)-55296)*2 ^ 10∧65536+((r:Int)-55296)*2 ^ 10≤2147483647 by constructor <;> omega) ?_
   (repeat show _∧_;first|refine yr ?_|refine yt ?_|refine yf ?_|refine yo ?_)
   refine And.intro (show -2147483648≤65536+((r:Int)-55296)*2 ^ 10+((q:Int)-56320)∧65536+((r:Int)-55296)*2 ^ 10+((q:Int)-56320)≤2147483647 by constructor <;> omega) ?_
   refine ⟨.tup [.c (.int .i32 ((65536+(r-55296)*1024+(q-56320):Nat):Int)),.c (.int .i64 0)],_,⟨[0],⟨rfl,rfl,rfl⟩,?_⟩,.inl ⟨_,k+6+6,hC,by omega,g2,rfl,rfl⟩⟩
   refine And.intro (congrArg (SC.int .i32) (pair_i32 (by omega) (by omega) (by omega) (by omega))) ?_
   (repeat first|exact trivial|refine ent1 ?_)
  ·rw [g1] at hC
   (repeat show _∧_;first|refine yr ?_|refine yt ?_|refine yf ?_|refine yo ?_)
   exact ⟨.tup [.c (.int .i32 0),.c (.int .i64 4)],_,⟨[0],⟨rfl,rfl,rfl⟩,by (repeat first|exact trivial|refine ent1 ?_)⟩,.inr ⟨4,0,k+6,hC,by decide,by omega,h2,rfl,rfl⟩⟩
 ·have hC:coded (s.drop k)=.bad 4:=by unfold coded; rw [h1]
  (repeat show _∧_;first|refine yr ?_|refine yt ?_|refine yf ?_|refine yo ?_)
  exact ⟨.tup [.c (.int .i32 0),.c (.int .i64 4)],_,⟨[0],⟨rfl,rfl,rfl⟩,by (repeat first|exact trivial|refine ent1 ?_)⟩,.inr ⟨4,0,k,hC,by decide,by omega,hk,rfl,rfl⟩⟩
theorem esc_short {s:Bs} {k:Nat} (h:s.length≤k+1):esc (s.drop k)=.bad 3:=by
 have hl:(s.drop k).length≤1:=by rw [List.length_drop]; omega
 generalize s.drop k=l at hl
 match l,hl with
 | [],_=>rfl
 | [_],_=>rfl
 | _::_::_,h=>simp at h
theorem esc_drop {s:Bs} {k:Nat} (h:k+1<s.length):esc (s.drop k)=match esc1 (L s (k+1)) with
  | some v=>.ok v (s.drop (k+2))
  | none=>if L s (k+1)=117#8 then coded (s.drop k) else .bad 4:=by
 have e:s.drop k=s[k]::L s (k+1)::s.drop (k+2):=by
  rw [List.drop_eq_getElem_cons (by omega:k<s.length),List.drop_eq_getElem_cons h,L_lt h]
 rw [e]
 unfold esc
 rfl
set_option maxRecDepth 20000 in
set_option maxHeartbeats 8000000 in
theorem fn_escape (s:Bs) (k:Nat) (hk:k<s.length) (hs:s.length≤1048576):Fn Tryd.prog tds 69 [psr s k] [.c (.p 0 0 0)] (fun _=>True) (RuneA s k (esc (s.drop k))):=by
 refine fn_of_body tds_ok follows_ Tryd.func69 rfl (t:=.a (.c (.p 0 0 0))::anys (Tryd.f69.ntmps-1)) rfl (fun w r0 hr0 _=>?_)
 obtain ⟨x0,rfl⟩:=len1' hr0
 by_cases hl:k+1<s.length
 rotate_left
 ·have el:decide ((((U8 s).length:Nat):Int)≤(k:Int)+1)=true:=decide_eq_true (by rw [U8_len]; omega)
  (repeat show _∧_;first|refine yr ?_|refine yt ?_|refine yf ?_|refine yo ?_)
  refine ⟨none,[],[(0,true),(1,true),(2,true),(3,true),(4,true),(5,true),(6,true),(7,true),(8,true),(9,true),(10,true)],[],by kernel_rfl,?_⟩
  (repeat show _∧_;first|refine yr ?_|refine yt ?_|refine yf ?_|refine yt ?_ (by first|decide|(rw[el];decide))|refine yf ?_ (by first|decide|(rw[el];decide))|refine yo ?_)
  exact ⟨.tup [.c (.int .i32 0),.c (.int .i64 3)],_,⟨[0],⟨rfl,rfl,rfl⟩,by (repeat first|exact trivial|refine ent1 ?_)⟩,.inr ⟨3,0,k,esc_short (by omega),by decide,by omega,by omega,rfl,rfl⟩⟩
 have el:decide ((((U8 s).length:Nat):Int)≤(k:Int)+1)=false:=decide_eq_false (by rw [U8_len]; omega)
 have hget:=U8_getI s k 1 hl
 have hE:=esc_drop hl
 (repeat show _∧_;first|refine yr ?_|refine yt ?_|refine yf ?_|refine yo ?_)
 refine ⟨none,[],[(0,true),(1,true),(2,true),(3,true),(4,true),(5,true),(6,true),(7,true),(8,true),(9,true),(10,true)],[],by kernel_rfl,?_⟩
 (repeat show _∧_;first|refine yr ?_|refine yt ?_|refine yf ?_|refine yt ?_ (by first|decide|(rw[el];decide))|refine yf ?_ (by first|decide|(rw[el];decide))|refine yo ?_)
 refine ⟨none,[],[(0,true),(1,true),(2,true),(3,true),(4,true),(5,true),(6,true),(7,true),(8,true),(9,true),(10,true)],[],by kernel_rfl,?_⟩
 (repeat show _∧_;first|refine yr ?_|refine yt ?_|refine yf ?_|refine yo ?_)
 refine And.intro ⟨by omega,by rw [U8_len]; omega⟩ ?_
 rw [show ((U8 s).getD ((k:Int)+1).toNat 0).toBitVec=L s (k+1) from hget]
 generalize L s (k+1)=c at hE
 by_cases c0:c=34#8
 ·have e0:decide (c=34#8)=true:=decide_eq_true c0
  have h1:esc1 c=some c.toNat:=by unfold esc1; rw [if_pos (by simp only [c0]; decide)]
  rw [h1] at hE
  (repeat show _∧_;first|refine yr ?_|refine yt ?_|refine yf ?_|refine yt ?_ (by first|decide|(rw[e0];decide))|refine yf ?_ (by first|decide|(rw[e0];decide))|refine yo ?_)
  exact ⟨.tup [.c (.int .i32 ((c.toNat:Nat):Int)),.c (.int .i64 0)],_,⟨[0],⟨rfl,rfl,rfl⟩,by (repeat first|exact trivial|refine ent1 ?_)⟩,.inl ⟨_,k+2,hE,by omega,by omega,rfl,rfl⟩⟩
 have e0:decide (c=34#8)=false:=decide_eq_false c0
 by_cases c1:c=92#8
 ·have e1:decide (c=92#8)=true:=decide_eq_true c1
  have h1:esc1 c=some c.toNat:=by unfold esc1; rw [if_pos (by simp only [c1]; decide)]
  rw [h1] at hE
  (repeat show _∧_;first|refine yr ?_|refine yt ?_|refine yf ?_|refine yt ?_ (by first|decide|(rw[e0];decide)|(rw[e1];decide))|refine yf ?_ (by first|decide|(rw[e0];decide)|(rw[e1];decide))|refine yo ?_)
  exact ⟨.tup [.c (.int .i32 ((c.toNat:Nat):Int)),.c (.int .i64 0)],_,⟨[0],⟨rfl,rfl,rfl⟩,by (repeat first|exact trivial|refine ent1 ?_)⟩,.inl ⟨_,k+2,hE,by omega,by omega,rfl,rfl⟩⟩
 have e1:decide (c=92#8)=false:=decide_eq_false c1
 by_cases c2:c=47#8
 ·have e2:decide (c=47#8)=true:=decide_eq_true c2
  have h1:esc1 c=some c.toNat:=by unfold esc1; rw [if_pos (by simp only [c2]; decide)]
  rw [h1] at hE
  (repeat show _∧_;first|refine yr ?_|refine yt ?_|refine yf ?_|refine yt ?_ (by first|decide|(rw[e0];decide)|(rw[e1];decide)|(rw[e2];decide))|refine yf ?_ (by first|decide|(rw[e0];decide)|(rw[e1];decide)|(rw[e2];decide))|refine yo ?_)
  exact ⟨.tup [.c (.int .i32 ((c.toNat:Nat):Int)),.c (.int .i64 0)],_,⟨[0],⟨rfl,rfl,rfl⟩,by (repeat first|exact trivial|refine ent1 ?_)⟩,.inl ⟨_,k+2,hE,by omega,by omega,rfl,rfl⟩⟩
 have e2:decide (c=47#8)=false:=decide_eq_false c2
 by_cases c3:c=98#8
 ·have e3:decide (c=98#8)=true:=decide_eq_true c3
  have h1:esc1 c=some 8:=by unfold esc1; subst c3; rfl
  rw [h1] at hE
  (repeat show _∧_;first|refine yr ?_|refine yt ?_|refine yf ?_|refine yt ?_ (by first|decide|(rw[e0];decide)|(rw[e1];decide)|(rw[e2];decide)|(rw[e3];decide))|refine yf ?_ (by first|decide|(rw[e0];decide)|(rw[e1];decide)|(rw[e2];decide)|(rw[e3];decide))|refine yo ?_)
  exact ⟨.tup [.c (.int .i32 ((8:Nat):Int)),.c (.int .i64 0)],_,⟨[0],⟨rfl,rfl,rfl⟩,by (repeat first|exact trivial|refine ent1 ?_)⟩,.inl ⟨_,k+2,hE,by omega,by omega,rfl,rfl⟩⟩
 have e3:decide (c=98#8)=false:=decide_eq_false c3
 by_cases c4:c=102#8
 ·have e4:decide (c=102#8)=true:=decide_eq_true c4
  have h1:esc1 c=some 12:=by unfold esc1; subst c4; rfl
  rw [h1] at hE
  (repeat show _∧_;first|refine yr ?_|refine yt ?_|refine yf ?_|refine yt ?_ (by first|decide|(rw[e0];decide)|(rw[e1];decide)|(rw[e2];decide)|(rw[e3];decide)|(rw[e4];decide))|refine yf ?_ (by first|decide|(rw[e0];decide)|(rw[e1];decide)|(rw[e2];decide)|(rw[e3];decide)|(rw[e4];decide))|refine yo ?_)
  exact ⟨.tup [.c (.int .i32 ((12:Nat):Int)),.c (.int .i64 0)],_,⟨[0],⟨rfl,rfl,rfl⟩,by (repeat first|exact trivial|refine ent1 ?_)⟩,.inl ⟨_,k+2,hE,by omega,by omega,rfl,rfl⟩⟩
 have e4:decide (c=102#8)=false:=decide_eq_false c4
 by_cases c5:c=110#8
 ·have e5:decide (c=110#8)=true:=decide_eq_true c5
  have h1:esc1 c=some 10:=by unfold esc1; subst c5; rfl
  rw [h1] at hE
  (repeat show _∧_;first|refine yr ?_|refine yt ?_|refine yf ?_|refine yt ?_ (by first|decide|(rw[e0];decide)|(rw[e1];decide)|(rw[e2];decide)|(rw[e3];decide)|(rw[e4];decide)|(rw[e5];decide))|refine yf ?_ (by first|decide|(rw[e0];decide)|(rw[e1];decide)|(rw[e2];decide)|(rw[e3];decide)|(rw[e4];decide)|(rw[e5];decide))|refine yo ?_)
  exact ⟨.tup [.c (.int .i32 ((10:Nat):Int)),.c (.int .i64 0)],_,⟨[0],⟨rfl,rfl,rfl⟩,by (repeat first|exact trivial|refine ent1 ?_)⟩,.inl ⟨_,k+2,hE,by omega,by omega,rfl,rfl⟩⟩
 have e5:decide (c=110#8)=false:=decide_eq_false c5
 by_cases c6:c=114#8
 ·have e6:decide (c=114#8)=true:=decide_eq_true c6
  have h1:esc1 c=some 13:=by unfold esc1; subst c6; rfl
  rw [h1] at hE
  (repeat show _∧_;first|refine yr ?_|refine yt ?_|refine yf ?_|refine yt ?_ (by first|decide|(rw[e0];decide)|(rw[e1];decide)|(rw[e2];decide)|(rw[e3];decide)|(rw[e4];decide)|(rw[e5];decide)|(rw[e6];decide))|refine yf ?_ (by first|decide|(rw[e0];decide)|(rw[e1];decide)|(rw[e2];decide)|(rw[e3];decide)|(rw[e4];decide)|(rw[e5];decide)|(rw[e6];decide))|refine yo ?_)
  exact ⟨.tup [.c (.int .i32 ((13:Nat):Int)),.c (.int .i64 0)],_,⟨[0],⟨rfl,rfl,rfl⟩,by (repeat first|exact trivial|refine ent1 ?_)⟩,.inl ⟨_,k+2,hE,by omega,by omega,rfl,rfl⟩⟩
 have e6:decide (c=114#8)=false:=decide_eq_false c6
 by_cases c7:c=116#8
 ·have e7:decide (c=116#8)=true:=decide_eq_true c7
  have h1:esc1 c=some 9:=by unfold esc1; subst c7; rfl
  rw [h1] at hE
  (repeat show _∧_;first|refine yr ?_|refine yt ?_|refine yf ?_|refine yt ?_ (by first|decide|(rw[e0];decide)|(rw[e1];decide)|(rw[e2];decide)|(rw[e3];decide)|(rw[e4];decide)|(rw[e5];decide)|(rw[e6];decide)|(rw[e7];decide))|refine yf ?_ (by first|decide|(rw[e0];decide)|(rw[e1];decide)|(rw[e2];decide)|(rw[e3];decide)|(rw[e4];decide)|(rw[e5];decide)|(rw[e6];decide)|(rw[e7];decide))|refine yo ?_)
  exact ⟨.tup [.c (.int .i32 ((9:Nat):Int)),.c (.int .i64 0)],_,⟨[0],⟨rfl,rfl,rfl⟩,by (repeat first|exact trivial|refine ent1 ?_)⟩,.inl ⟨_,k+2,hE,by omega,by omega,rfl,rfl⟩⟩
 have e7:decide (c=116#8)=false:=decide_eq_false c7
 have h1:esc1 c=none:=by
  unfold esc1
  rw [if_neg (fun h=>h.elim c0 fun h=>h.elim c1 c2),if_neg c3,if_neg c4,if_neg c5,if_neg c6,if_neg c7]
 rw [h1] at hE
 dsimp only at hE
 by_cases c8:c=117#8
 ·have e8:decide (c=117#8)=true:=decide_eq_true c8
  rw [if_pos c8] at hE
  (repeat show _∧_;first|refine yr ?_|refine yt ?_|refine yf ?_|refine yt ?_ (by first|decide|(rw[e0];decide)|(rw[e1];decide)|(rw[e2];decide)|(rw[e3];decide)|(rw[e4];decide)|(rw[e5];decide)|(rw[e6];decide)|(rw[e7];decide)|(rw[e8];decide))|refine yf ?_ (by first|decide|(rw[e0];decide)|(rw[e1];decide)|(rw[e2];decide)|(rw[e3];decide)|(rw[e4];decide)|(rw[e5];decide)|(rw[e6];decide)|(rw[e7];decide)|(rw[e8];decide))|refine yo ?_)
  refine call_same (fn_coded s k (by omega) hs) [0] rfl (by (repeat first|exact trivial|refine ent1 ?_)) (by (repeat first|exact trivial|refine ent1 ?_)) (fun _ _=>trivial) ?_
  rintro x hs' (⟨v,k',g1,g2,g3,rfl,rfl⟩|⟨e,v,k',g1,g0,g2,g3,rfl,rfl⟩)
  ·exact ⟨.tup [.c (.int .i32 (v:Int)),.c (.int .i64 0)],_,⟨[0],⟨rfl,rfl,rfl⟩,by (repeat first|exact trivial|refine ent1 ?_)⟩,.inl ⟨v,k',hE.trans g1,g2,g3,rfl,rfl⟩⟩
  ·exact ⟨.tup [.c (.int .i32 v),.c (.int .i64 e)],_,⟨[0],⟨rfl,rfl,rfl⟩,by (repeat first|exact trivial|refine ent1 ?_)⟩,.inr ⟨e,v,k',hE.trans g1,g0,g2,g3,rfl,rfl⟩⟩
 ·have e8:decide (c=117#8)=false:=decide_eq_false c8
  rw [if_neg c8] at hE
  (repeat show _∧_;first|refine yr ?_|refine yt ?_|refine yf ?_|refine yt ?_ (by first|decide|(rw[e0];decide)|(rw[e1];decide)|(rw[e2];decide)|(rw[e3];decide)|(rw[e4];decide)|(rw[e5];decide)|(rw[e6];decide)|(rw[e7];decide)|(rw[e8];decide))|refine yf ?_ (by first|decide|(rw[e0];decide)|(rw[e1];decide)|(rw[e2];decide)|(rw[e3];decide)|(rw[e4];decide)|(rw[e5];decide)|(rw[e6];decide)|(rw[e7];decide)|(rw[e8];decide))|refine yo ?_)
  exact ⟨.tup [.c (.int .i32 0),.c (.int .i64 4)],_,⟨[0],⟨rfl,rfl,rfl⟩,by (repeat first|exact trivial|refine ent1 ?_)⟩,.inr ⟨4,0,k,hE,by decide,by omega,by omega,rfl,rfl⟩⟩
end Sx
end
section
namespace Js
open Sha
theorem drop_cons (s:Bs) (j:Nat) (h:j<s.length):s.drop j=L s j::s.drop (j+1):=by
 rw [List.drop_eq_getElem_cons h,← L_lt h]
theorem pt_end {s:Bs} {j f:Nat} {acc:Bs} (h:s.length≤j):ptext f (s.drop j) acc=.bad 3:=by
 rw [List.drop_eq_nil_of_le h]
 cases f <;> rfl
theorem pt_quote {s:Bs} {j f:Nat} {acc:Bs} (h:j<s.length) (hc:L s j=34#8):ptext (f+1) (s.drop j) acc=.ok acc (s.drop (j+1)):=by
 rw [drop_cons s j h,ptext,if_pos hc]
theorem pt_ctl {s:Bs} {j f:Nat} {acc:Bs} (h:j<s.length) (hc:L s j≠34#8) (h2:(L s j).toNat<32):ptext (f+1) (s.drop j) acc=.bad 4:=by
 rw [drop_cons s j h,ptext,if_neg hc,if_pos h2]
theorem pt_escE {s:Bs} {j f:Nat} {acc:Bs} {e:Int} (h:j<s.length) (hc:L s j=92#8) (h2:esc (s.drop j)=.bad e):ptext (f+1) (s.drop j) acc=.bad e:=by
 rw [drop_cons s j h] at h2 ⊢
 rw [ptext,if_neg (by rw [hc]; decide),if_neg (by rw [hc]; decide),if_pos hc,h2]
theorem pt_esc {s t:Bs} {j f v:Nat} {acc:Bs} (h:j<s.length) (hc:L s j=92#8) (h2:esc (s.drop j)=.ok v t):ptext (f+1) (s.drop j) acc=ptext f t (acc++enc v):=by
 rw [drop_cons s j h] at h2 ⊢
 rw [ptext,if_neg (by rw [hc]; decide),if_neg (by rw [hc]; decide),if_pos hc,h2]
theorem pt_bad {s:Bs} {j f:Nat} {acc:Bs} (h:j<s.length) (h1:L s j≠34#8) (h2:¬ (L s j).toNat<32) (h3:L s j≠92#8) (h4:(dec (s.drop j)).1=65533∧(dec (s.drop j)).2≤1):ptext (f+1) (s.drop j) acc=.bad 4:=by
 rw [drop_cons s j h] at h4 ⊢
 rw [ptext,if_neg h1,if_neg h2,if_neg h3,if_pos h4]
theorem pt_chr {s:Bs} {j f:Nat} {acc:Bs} (h:j<s.length) (h1:L s j≠34#8) (h2:¬ (L s j).toNat<32) (h3:L s j≠92#8) (h4:¬ ((dec (s.drop j)).1=65533∧(dec (s.drop j)).2≤1)):ptext (f+1) (s.drop j) acc=ptext f (s.drop (j+(dec (s.drop j)).2)) (acc++(s.drop j).take (dec (s.drop j)).2):=by
 have e:=drop_cons s j h
 rw [← List.drop_drop]
 rw [e] at h4 ⊢
 rw [ptext,if_neg h1,if_neg h2,if_neg h3,if_neg h4]
end Js
namespace Sx
open Go.RowKit Sha Vi Js

theorem enc_len (r:Nat):(enc r).length≤4:=by
 unfold enc
 repeat' split
 all_goals simp
theorem U8_rest (s:Bs) (j:Nat):((U8 s).drop ((j:Int)).toNat).take ((U8 s).length-((j:Int)).toNat)=U8 (s.drop j):=by
 rw [Int.toNat_natCast,U8_drop,List.take_of_length_le]
 rw [U8_len,U8_len,List.length_drop]; omega
theorem row_U8 {m:Bs} (i:Nat) (hi:i<m.length):SC.w8 ((U8 m).getD i 0).toBitVec=.w8 (L m i):=congrArg SC.w8 (U8_get m i hi)
def TextA (W:World) (ms:List Nat) (s:Bs) (k:Nat) (r:R Bs) (y:SV) (hs:List (List Seg)):Prop :=
 (∃ t k',r=.ok t (s.drop k')∧k<k'∧k'≤s.length∧y=.tup [.c (.str (U8 t)),.c (.int .i64 0)]∧hs=[[.past W ms],psr s k']) ∨
 (∃ e k',r=.bad e∧e≠0∧k≤k'∧k'≤s.length∧y=.tup [.c (.str []),.c (.int .i64 e)]∧hs=[[.past W ms],psr s k'])
set_option maxRecDepth 20000 in
set_option maxHeartbeats 16000000 in
theorem fn_text {W:World} {ms:List Nat} (hT:Tabs W ms) (s:Bs) (k:Nat) (hk:k<s.length) (hs:s.length≤1048576):FnR Tryd.prog tds 54 1 [[.past W ms],psr s k] [.c (.p 1 0 0)] (fun _=>True) (TextA W ms s k (text (s.drop (k+1)))):=by
 refine fn_of_body tds_ok follows_ Tryd.func54 rfl (t:=.a (.c (.p 1 0 0))::anys (Tryd.f54.ntmps-1)) rfl (fun w r0 hr0 _=>?_)
 obtain ⟨x0,x1,rfl⟩:=len2' hr0
 (repeat show _∧_;first|refine yr ?_|refine yt ?_|refine yf ?_|refine yo ?_)
 refine .inl ⟨Nat × Option (Bs × Nat),fun x=>match x with
  | (j,none)=>⟨[.a (.c (.p 1 0 0)),.any,.a (.c (.str ([]))),.a (.c (.int .i64 (0))),.a (.c (.slc none 0 0)),.any,.any,.any,.any,.any,.any,.any,.any,.any,.any,.any,.any,.any,.any,.any,.any,.any,.any,.any,.any,.any,.any,.any,.any,.any,.any,.any,.any,.any,.any,.any,.any,.any,.any,.any,.any,.any,.any,.any,.any,.any,.any,.any,.any,.any,.any,.any,.any,.any,.any,.any,.any,.any,.any,.any,.any,.any,.any,.any,.any,.any,.any,.any,.any,.any,.any,.any,.any,.any,.any,.any,.any,.any,.any,.any,.any,.any,.any,.any,.any,.any,.any,.any,.any,.any,.any,.any,.any,.any,.any,.any,.any,.any,.any,.any,.any,.any,.any,.any,.any,.any,.any,.any,.any],[[.past W ms],psr s j]⟩
  | (j,some (a,c))=>⟨[.a (.c (.p 1 0 0)),.any,.a (.c (.str ([]))),.a (.c (.int .i64 (0))),.a (.c (.sl 2 0 0 a.length c)),.any,.any,.any,.any,.any,.any,.any,.any,.any,.any,.any,.any,.any,.any,.any,.any,.any,.any,.any,.any,.any,.any,.any,.any,.any,.any,.any,.any,.any,.any,.any,.any,.any,.any,.any,.any,.any,.any,.any,.any,.any,.any,.any,.any,.any,.any,.any,.any,.any,.any,.any,.any,.any,.any,.any,.any,.any,.any,.any,.any,.any,.any,.any,.any,.any,.any,.any,.any,.any,.any,.any,.any,.any,.any,.any,.any,.any,.any,.any,.any,.any,.any,.any,.any,.any,.any,.any,.any,.any,.any,.any,.any,.any,.any,.any,.any,.any,.any,.any,.any,.any,.any,.any,.any],[[.past W ms],psr s j,lsC a c]⟩,
  fun x=>match x with
  | (j,none)=>k<j∧j≤s.length∧∃ f,s.length-j<f∧ptext f (s.drop j) []=text (s.drop (k+1))
  | (j,some (a,c))=>k<j∧j≤s.length∧a.length≤4*j∧a.length≤c∧∃ f,s.length-j<f∧ptext f (s.drop j) a=text (s.drop (k+1)),
  fun x=>s.length-x.1,⟨(k+1,none),[0,1],⟨⟨rfl,rfl,rfl⟩,by (repeat first|exact trivial|refine ent1 ?_)⟩,by omega,by omega,(s.drop (k+1)).length+1,by rw [List.length_drop]; omega,rfl⟩,fun x hx=>?_⟩
 rcases x with ⟨j,_|⟨a,c⟩⟩
 ·obtain ⟨g1,g2,f,g3,hP⟩:=hx
  dsimp only
  obtain ⟨f,rfl⟩:∃ f',f=f'+1:=⟨f-1,by omega⟩
  refine ⟨none,[],[(0,true),(1,true),(2,true),(3,true),(4,true),(5,true),(6,true),(7,true),(8,true),(9,true)],[],by kernel_rfl,?_⟩
  by_cases hl:j<s.length
  rotate_left
  ·have el:decide ((j:Int)<(((U8 s).length:Nat):Int))=false:=decide_eq_false (by rw [U8_len]; omega)
   (repeat show _∧_;first|refine yr ?_|refine yt ?_|refine yf ?_|refine ya el ?_|refine yb el ?_|refine yo ?_)
   exact ⟨.tup [.c (.str []),.c (.int .i64 3)],_,⟨[0,1],⟨rfl,rfl,rfl⟩,by (repeat first|exact trivial|refine ent1 ?_)⟩,.inr ⟨3,j,by rw [← hP]; exact pt_end (by omega),by decide,by omega,g2,rfl,rfl⟩⟩
  have el:decide ((j:Int)<(((U8 s).length:Nat):Int))=true:=decide_eq_true (by rw [U8_len]; omega)
  (repeat show _∧_;first|refine yr ?_|refine yt ?_|refine yf ?_|refine ya el ?_|refine yb el ?_|refine yo ?_)
  refine ⟨none,[],[(0,true),(1,true),(2,true),(3,true),(4,true),(5,true),(6,true),(7,true),(8,true),(9,true)],[],by kernel_rfl,?_⟩
  (repeat show _∧_;first|refine yr ?_|refine yt ?_|refine yf ?_|refine yo ?_)
  refine And.intro ⟨by omega,by rw [U8_len]; omega⟩ ?_
  rw [show ((U8 s).getD ((j:Int)).toNat 0).toBitVec=L s j from U8_get s j hl]
  obtain ⟨ch,hch⟩:∃ ch,L s j=ch:=⟨_,rfl⟩
  rw [hch]
  by_cases c1:ch=34#8
  ·have e1:decide (ch=34#8)=true:=decide_eq_true c1
   rw [pt_quote hl (hch.trans c1)] at hP
   (repeat show _∧_;first|refine yr ?_|refine yt ?_|refine yf ?_|refine ya e1 ?_|refine yb e1 ?_|refine yo ?_)
   refine ⟨U8 [],⟨rfl,fun q hq=>absurd hq (Nat.not_lt_zero _)⟩,?_⟩
   (repeat show _∧_;first|refine yr ?_|refine yt ?_|refine yf ?_|refine yo ?_)
   exact ⟨.tup [.c (.str (U8 [])),.c (.int .i64 0)],_,⟨[0,1],⟨rfl,rfl,rfl⟩,by (repeat first|exact trivial|refine ent1 ?_)⟩,.inl ⟨[],j+1,hP.symm,by omega,by omega,rfl,rfl⟩⟩
  have e1:decide (ch=34#8)=false:=decide_eq_false c1
  by_cases c2:ch.toNat<32
  ·have e2:decide (ch<32#8)=true:=decide_eq_true (by rw [BitVec.lt_def]; exact c2)
   rw [pt_ctl hl (by rw [hch]; exact c1) (by rw [hch]; exact c2)] at hP
   (repeat show _∧_;first|refine yr ?_|refine yt ?_|refine yf ?_|refine ya e1 ?_|refine yb e1 ?_|refine ya e2 ?_|refine yb e2 ?_|refine yo ?_)
   exact ⟨.tup [.c (.str []),.c (.int .i64 4)],_,⟨[0,1],⟨rfl,rfl,rfl⟩,by (repeat first|exact trivial|refine ent1 ?_)⟩,.inr ⟨4,j,hP.symm,by decide,by omega,by omega,rfl,rfl⟩⟩
  have e2:decide (ch<32#8)=false:=decide_eq_false (by rw [BitVec.lt_def]; exact c2)
  by_cases c3:ch=92#8
  ·have e3:decide (ch=92#8)=true:=decide_eq_true c3
   (repeat show _∧_;first|refine yr ?_|refine yt ?_|refine yf ?_|refine ya e1 ?_|refine yb e1 ?_|refine ya e2 ?_|refine yb e2 ?_|refine ya e3 ?_|refine yb e3 ?_|refine yo ?_)
   refine call_same (fn_escape s j hl hs) [1] rfl (by (repeat first|exact trivial|refine ent1 ?_)) (by (repeat first|exact trivial|refine ent1 ?_)) (fun _ _=>trivial) ?_
   rintro x hs' (⟨v,k',q1,q2,q3,rfl,rfl⟩|⟨e,v,k',q1,q0,q2,q3,rfl,rfl⟩)
   rotate_left
   ·have f1:decide (e≠0)=true:=decide_eq_true q0
    rw [pt_escE hl (hch.trans c3) q1] at hP
    (repeat show _∧_;first|refine yr ?_|refine yt ?_|refine yf ?_|refine ya f1 ?_|refine yb f1 ?_|refine yo ?_)
    exact ⟨.tup [.c (.str []),.c (.int .i64 e)],_,⟨[0,1],⟨rfl,rfl,rfl⟩,by (repeat first|exact trivial|refine ent1 ?_)⟩,.inr ⟨e,k',hP.symm,q0,by omega,q3,rfl,rfl⟩⟩
   obtain ⟨hv,hlen⟩:=esc_ok q1
   rw [List.length_drop,List.length_drop] at hlen
   have hel:=enc_len v
   rw [pt_esc hl (hch.trans c3) q1] at hP
   (repeat show _∧_;first|refine yr ?_|refine yt ?_|refine yf ?_|refine yo ?_)
   refine call_same (fn_arune0 hv) [] rfl (by (repeat first|exact trivial|refine ent1 ?_)) trivial (fun _ _=>trivial) ?_
   rintro x hs' ⟨c',r1,rfl,rfl⟩
   refine ⟨(k',some (enc v,c')),[0,1,2],⟨⟨rfl,rfl,rfl⟩,?_⟩,⟨by omega,q3,by omega,r1,f,by omega,hP⟩,by dsimp only; omega⟩
   (repeat first|exact trivial|refine ent1 ?_)
  have e3:decide (ch=92#8)=false:=decide_eq_false c3
  (repeat show _∧_;first|refine yr ?_|refine yt ?_|refine yf ?_|refine ya e1 ?_|refine yb e1 ?_|refine ya e2 ?_|refine yb e2 ?_|refine ya e3 ?_|refine yb e3 ?_|refine yo ?_)
  refine ⟨none,[],[(0,true),(1,true),(2,true),(3,true),(4,true),(5,true),(6,true),(7,true),(8,true),(9,false),(10,true),(11,true),(12,true),(13,true),(14,true)],[],by kernel_rfl,?_⟩
  (repeat show _∧_;first|refine yr ?_|refine yt ?_|refine yf ?_|refine yo ?_)
  refine And.intro ⟨by omega,by rw [U8_len]; omega,by omega⟩ ?_
  have hne:s.drop j≠[]:=by rw [drop_cons s j hl]; exact List.cons_ne_nil _ _
  refine frcN_of (m:=j) (Int.toNat_natCast j) ?_
  refine frcN_of (m:=(U8 s).length) (Int.toNat_natCast _) ?_
  have hsub:((U8 s).drop j).take ((U8 s).length-j)=U8 (s.drop j):=U8_rest s j
  (repeat show _∧_;first|refine yr ?_|refine yt ?_|refine yf ?_|refine yo ?_)
  refine call_same (fn_decode hT hne) [0] rfl (by exact And.intro hsub trivial) (by (repeat first|exact trivial|refine ent1 ?_)) (fun _ _=>trivial) ?_
  rintro x hs' ⟨rfl,rfl⟩
  by_cases c4:(dec (s.drop j)).1=65533∧(dec (s.drop j)).2≤1
  ·have f1:decide (((dec (s.drop j)).1:Int)=65533)=true:=decide_eq_true (by omega)
   have f2:decide (((dec (s.drop j)).2:Int)≤1)=true:=decide_eq_true (by omega)
   rw [pt_bad hl (by rw [hch]; exact c1) (by rw [hch]; exact c2) (by rw [hch]; exact c3) c4] at hP
   (repeat show _∧_;first|refine yr ?_|refine yt ?_|refine yf ?_|refine ya f1 ?_|refine yb f1 ?_|refine ya f2 ?_|refine yb f2 ?_|refine yo ?_)
   exact ⟨.tup [.c (.str []),.c (.int .i64 4)],_,⟨[0,1],⟨rfl,rfl,rfl⟩,by (repeat first|exact trivial|refine ent1 ?_)⟩,.inr ⟨4,j,hP.symm,by decide,by omega,by omega,rfl,rfl⟩⟩
  rw [pt_chr hl (by rw [hch]; exact c1) (by rw [hch]; exact c2) (by rw [hch]; exact c3) c4] at hP
  obtain ⟨d1,d2,d3,d4⟩:=dec_ok hne c4
  rw [List.length_drop] at d4
  obtain ⟨v,hv⟩:∃ v,(dec (s.drop j)).1=v:=⟨_,rfl⟩
  obtain ⟨n,hn⟩:∃ n,(dec (s.drop j)).2=n:=⟨_,rfl⟩
  rw [hv] at c4 d1 d2 d3 ⊢
  rw [hn] at c4 d2 d3 d4 hP ⊢
  rw [d3] at hP
  have hp:=enc_pos v
  have hel:=enc_len v
  by_cases c5:v=65533
  ·have f1:decide ((v:Int)=65533)=true:=decide_eq_true (by omega)
   have f2:decide ((n:Int)≤1)=false:=decide_eq_false (by omega)
   (repeat show _∧_;first|refine yr ?_|refine yt ?_|refine yf ?_|refine ya f1 ?_|refine yb f1 ?_|refine ya f2 ?_|refine yb f2 ?_|refine yo ?_)
   refine ⟨none,[],[(0,true),(1,true),(2,true),(3,true),(4,true),(5,true),(6,true),(7,true),(8,true),(9,true),(10,true),(11,true),(12,true),(13,true),(14,true),(15,true)],[16,17],by kernel_rfl,?_⟩
   (repeat show _∧_;first|refine yr ?_|refine yt ?_|refine yf ?_|refine yo ?_)
   refine And.intro ⟨by omega,by omega,by rw [U8_len]; omega⟩ ?_
   refine frcN_of (m:=j) (Int.toNat_natCast j) ?_
   refine frcN_of (m:=j+n) (by omega) ?_
   have hsub:((U8 s).drop j).take (j+n-j)=U8 (enc v):=by rw [Nat.add_sub_cancel_left,U8_drop,U8_take,d3]
   have hsl:(((U8 s).drop j).take (j+n-j)).length=(enc v).length:=by rw [hsub,U8_len]
   have hrow:∀ i,i<(enc v).length→SC.w8 ((((U8 s).drop j).take (j+n-j)).getD i 0).toBitVec=.w8 (L (enc v) i):=fun i hi=>by rw [hsub]; exact row_U8 i hi
   (repeat show _∧_;first|refine yr ?_|refine yt ?_|refine yf ?_|refine yo ?_)
   refine And.intro (by rw [hsl]; show (enc v).length*1≤140737488355328; omega) ?_
   refine And.intro (fun h=>absurd h (by rw [hsl]; omega)) (fun _=>?_)
   intro c' hc'
   rw [hsl] at hc'
   (repeat show _∧_;first|refine yr ?_|refine yt ?_|refine yf ?_|refine yo ?_)
   refine ⟨(j+n,some (enc v,c')),[0,1,2],⟨⟨rfl,rfl,rfl⟩,?_⟩,⟨by omega,by omega,by omega,hc',f,by omega,hP⟩,by dsimp only; omega⟩
   (repeat first|exact trivial|refine ent1 ?_)
   refine ⟨fun j' hj'=>eqC_bytes (fun i hi=>?_) j',trivial⟩
   rw [hsl]
   exact new_row hrow i hi
  have f1:decide ((v:Int)=65533)=false:=decide_eq_false (by omega)
  (repeat show _∧_;first|refine yr ?_|refine yt ?_|refine yf ?_|refine ya f1 ?_|refine yb f1 ?_|refine yo ?_)
  refine ⟨none,[],[(0,true),(1,true),(2,true),(3,true),(4,true),(5,true),(6,true),(7,true),(8,true),(9,true),(10,true),(11,true),(12,true),(13,true),(14,true),(15,true)],[16,17],by kernel_rfl,?_⟩
  (repeat show _∧_;first|refine yr ?_|refine yt ?_|refine yf ?_|refine yo ?_)
  refine And.intro ⟨by omega,by omega,by rw [U8_len]; omega⟩ ?_
  refine frcN_of (m:=j) (Int.toNat_natCast j) ?_
  refine frcN_of (m:=j+n) (by omega) ?_
  have hsub:((U8 s).drop j).take (j+n-j)=U8 (enc v):=by rw [Nat.add_sub_cancel_left,U8_drop,U8_take,d3]
  have hsl:(((U8 s).drop j).take (j+n-j)).length=(enc v).length:=by rw [hsub,U8_len]
  have hrow:∀ i,i<(enc v).length→SC.w8 ((((U8 s).drop j).take (j+n-j)).getD i 0).toBitVec=.w8 (L (enc v) i):=fun i hi=>by rw [hsub]; exact row_U8 i hi
  (repeat show _∧_;first|refine yr ?_|refine yt ?_|refine yf ?_|refine yo ?_)
  refine And.intro (by rw [hsl]; show (enc v).length*1≤140737488355328; omega) ?_
  refine And.intro (fun h=>absurd h (by rw [hsl]; omega)) (fun _=>?_)
  intro c' hc'
  rw [hsl] at hc'
  (repeat show _∧_;first|refine yr ?_|refine yt ?_|refine yf ?_|refine yo ?_)
  refine ⟨(j+n,some (enc v,c')),[0,1,2],⟨⟨rfl,rfl,rfl⟩,?_⟩,⟨by omega,by omega,by omega,hc',f,by omega,hP⟩,by dsimp only; omega⟩
  (repeat first|exact trivial|refine ent1 ?_)
  refine ⟨fun j' hj'=>eqC_bytes (fun i hi=>?_) j',trivial⟩
  rw [hsl]
  exact new_row hrow i hi
 ·obtain ⟨g1,g2,ga,gc,f,g3,hP⟩:=hx
  dsimp only
  obtain ⟨f,rfl⟩:∃ f',f=f'+1:=⟨f-1,by omega⟩
  refine ⟨none,[],[(0,true),(1,true),(2,true),(3,true),(4,true),(5,true),(6,true),(7,true),(8,true),(9,true)],[],by kernel_rfl,?_⟩
  by_cases hl:j<s.length
  rotate_left
  ·have el:decide ((j:Int)<(((U8 s).length:Nat):Int))=false:=decide_eq_false (by rw [U8_len]; omega)
   (repeat show _∧_;first|refine yr ?_|refine yt ?_|refine yf ?_|refine ya el ?_|refine yb el ?_|refine yo ?_)
   exact ⟨.tup [.c (.str []),.c (.int .i64 3)],_,⟨[0,1],⟨rfl,rfl,rfl⟩,by (repeat first|exact trivial|refine ent1 ?_)⟩,.inr ⟨3,j,by rw [← hP]; exact pt_end (by omega),by decide,by omega,g2,rfl,rfl⟩⟩
  have el:decide ((j:Int)<(((U8 s).length:Nat):Int))=true:=decide_eq_true (by rw [U8_len]; omega)
  (repeat show _∧_;first|refine yr ?_|refine yt ?_|refine yf ?_|refine ya el ?_|refine yb el ?_|refine yo ?_)
  refine ⟨none,[],[(0,true),(1,true),(2,true),(3,true),(4,true),(5,true),(6,true),(7,true),(8,true),(9,true)],[],by kernel_rfl,?_⟩
  (repeat show _∧_;first|refine yr ?_|refine yt ?_|refine yf ?_|refine yo ?_)
  refine And.intro ⟨by omega,by rw [U8_len]; omega⟩ ?_
  rw [show ((U8 s).getD ((j:Int)).toNat 0).toBitVec=L s j from U8_get s j hl]
  obtain ⟨ch,hch⟩:∃ ch,L s j=ch:=⟨_,rfl⟩
  rw [hch]
  by_cases c1:ch=34#8
  ·have e1:decide (ch=34#8)=true:=decide_eq_true c1
   rw [pt_quote hl (hch.trans c1)] at hP
   (repeat show _∧_;first|refine yr ?_|refine yt ?_|refine yf ?_|refine ya e1 ?_|refine yb e1 ?_|refine yo ?_)
   refine And.intro (by simp only [scale]; omega) ?_
   refine ⟨U8 a,⟨U8_len a,fun q hq=>by show bytesF a.length (L a) (q+0)=_; rw [Nat.add_zero,bytesF_lt hq,U8_get a q hq]⟩,?_⟩
   (repeat show _∧_;first|refine yr ?_|refine yt ?_|refine yf ?_|refine yo ?_)
   exact ⟨.tup [.c (.str (U8 a)),.c (.int .i64 0)],_,⟨[0,1],⟨rfl,rfl,rfl⟩,by (repeat first|exact trivial|refine ent1 ?_)⟩,.inl ⟨a,j+1,hP.symm,by omega,by omega,rfl,rfl⟩⟩
  have e1:decide (ch=34#8)=false:=decide_eq_false c1
  by_cases c2:ch.toNat<32
  ·have e2:decide (ch<32#8)=true:=decide_eq_true (by rw [BitVec.lt_def]; exact c2)
   rw [pt_ctl hl (by rw [hch]; exact c1) (by rw [hch]; exact c2)] at hP
   (repeat show _∧_;first|refine yr ?_|refine yt ?_|refine yf ?_|refine ya e1 ?_|refine yb e1 ?_|refine ya e2 ?_|refine yb e2 ?_|refine yo ?_)
   exact ⟨.tup [.c (.str []),.c (.int .i64 4)],_,⟨[0,1],⟨rfl,rfl,rfl⟩,by (repeat first|exact trivial|refine ent1 ?_)⟩,.inr ⟨4,j,hP.symm,by decide,by omega,by omega,rfl,rfl⟩⟩
  have e2:decide (ch<32#8)=false:=decide_eq_false (by rw [BitVec.lt_def]; exact c2)
  by_cases c3:ch=92#8
  ·have e3:decide (ch=92#8)=true:=decide_eq_true c3
   (repeat show _∧_;first|refine yr ?_|refine yt ?_|refine yf ?_|refine ya e1 ?_|refine yb e1 ?_|refine ya e2 ?_|refine yb e2 ?_|refine ya e3 ?_|refine yb e3 ?_|refine yo ?_)
   refine call_same (fn_escape s j hl hs) [1] rfl (by (repeat first|exact trivial|refine ent1 ?_)) (by (repeat first|exact trivial|refine ent1 ?_)) (fun _ _=>trivial) ?_
   rintro x hs' (⟨v,k',q1,q2,q3,rfl,rfl⟩|⟨e,v,k',q1,q0,q2,q3,rfl,rfl⟩)
   rotate_left
   ·have f1:decide (e≠0)=true:=decide_eq_true q0
    rw [pt_escE hl (hch.trans c3) q1] at hP
    (repeat show _∧_;first|refine yr ?_|refine yt ?_|refine yf ?_|refine ya f1 ?_|refine yb f1 ?_|refine yo ?_)
    exact ⟨.tup [.c (.str []),.c (.int .i64 e)],_,⟨[0,1],⟨rfl,rfl,rfl⟩,by (repeat first|exact trivial|refine ent1 ?_)⟩,.inr ⟨e,k',hP.symm,q0,by omega,q3,rfl,rfl⟩⟩
   obtain ⟨hv,hlen⟩:=esc_ok q1
   rw [List.length_drop,List.length_drop] at hlen
   have hel:=enc_len v
   rw [pt_esc hl (hch.trans c3) q1] at hP
   (repeat show _∧_;first|refine yr ?_|refine yt ?_|refine yf ?_|refine yo ?_)
   refine call_same (fn_arune a c (by omega) gc hv) [2] rfl (by (repeat first|exact trivial|refine ent1 ?_)) (by (repeat first|exact trivial|refine ent1 ?_)) (fun _ _=>trivial) ?_
   rintro x hs' ⟨c',r1,rfl,rfl⟩
   refine ⟨(k',some (a++enc v,c')),[0,1,3],⟨⟨rfl,rfl,rfl⟩,?_⟩,⟨by omega,q3,by rw [List.length_append]; omega,r1,f,by omega,hP⟩,by dsimp only; omega⟩
   (repeat first|exact trivial|refine ent1 ?_)
  have e3:decide (ch=92#8)=false:=decide_eq_false c3
  (repeat show _∧_;first|refine yr ?_|refine yt ?_|refine yf ?_|refine ya e1 ?_|refine yb e1 ?_|refine ya e2 ?_|refine yb e2 ?_|refine ya e3 ?_|refine yb e3 ?_|refine yo ?_)
  refine ⟨none,[],[(0,true),(1,true),(2,true),(3,true),(4,true),(5,true),(6,true),(7,true),(8,true),(9,false),(10,true),(11,true),(12,true),(13,true),(14,true)],[],by kernel_rfl,?_⟩
  (repeat show _∧_;first|refine yr ?_|refine yt ?_|refine yf ?_|refine yo ?_)
  refine And.intro ⟨by omega,by rw [U8_len]; omega,by omega⟩ ?_
  have hne:s.drop j≠[]:=by rw [drop_cons s j hl]; exact List.cons_ne_nil _ _
  refine frcN_of (m:=j) (Int.toNat_natCast j) ?_
  refine frcN_of (m:=(U8 s).length) (Int.toNat_natCast _) ?_
  have hsub:((U8 s).drop j).take ((U8 s).length-j)=U8 (s.drop j):=U8_rest s j
  (repeat show _∧_;first|refine yr ?_|refine yt ?_|refine yf ?_|refine yo ?_)
  refine call_same (fn_decode hT hne) [0] rfl (by exact And.intro hsub trivial) (by (repeat first|exact trivial|refine ent1 ?_)) (fun _ _=>trivial) ?_
  rintro x hs' ⟨rfl,rfl⟩
  by_cases c4:(dec (s.drop j)).1=65533∧(dec (s.drop j)).2≤1
  ·have f1:decide (((dec (s.drop j)).1:Int)=65533)=true:=decide_eq_true (by omega)
   have f2:decide (((dec (s.drop j)).2:Int)≤1)=true:=decide_eq_true (by omega)
   rw [pt_bad hl (by rw [hch]; exact c1) (by rw [hch]; exact c2) (by rw [hch]; exact c3) c4] at hP
   (repeat show _∧_;first|refine yr ?_|refine yt ?_|refine yf ?_|refine ya f1 ?_|refine yb f1 ?_|refine ya f2 ?_|refine yb f2 ?_|refine yo ?_)
   exact ⟨.tup [.c (.str []),.c (.int .i64 4)],_,⟨[0,1],⟨rfl,rfl,rfl⟩,by (repeat first|exact trivial|refine ent1 ?_)⟩,.inr ⟨4,j,hP.symm,by decide,by omega,by omega,rfl,rfl⟩⟩
  rw [pt_chr hl (by rw [hch]; exact c1) (by rw [hch]; exact c2) (by rw [hch]; exact c3) c4] at hP
  obtain ⟨d1,d2,d3,d4⟩:=dec_ok hne c4
  rw [List.length_drop] at d4
  obtain ⟨v,hv⟩:∃ v,(dec (s.drop j)).1=v:=⟨_,rfl⟩
  obtain ⟨n,hn⟩:∃ n,(dec (s.drop j)).2=n:=⟨_,rfl⟩
  rw [hv] at c4 d1 d2 d3 ⊢
  rw [hn] at c4 d2 d3 d4 hP ⊢
  rw [d3] at hP
  have hp:=enc_pos v
  have hel:=enc_len v
  by_cases c5:v=65533
  ·have f1:decide ((v:Int)=65533)=true:=decide_eq_true (by omega)
   have f2:decide ((n:Int)≤1)=false:=decide_eq_false (by omega)
   (repeat show _∧_;first|refine yr ?_|refine yt ?_|refine yf ?_|refine ya f1 ?_|refine yb f1 ?_|refine ya f2 ?_|refine yb f2 ?_|refine yo ?_)
   refine ⟨none,[],[(0,true),(1,true),(2,true),(3,true),(4,true),(5,true),(6,true),(7,true),(8,true),(9,true),(10,true),(11,true),(12,true),(13,true),(14,true),(15,true)],[16,17],by kernel_rfl,?_⟩
   (repeat show _∧_;first|refine yr ?_|refine yt ?_|refine yf ?_|refine yo ?_)
   refine And.intro ⟨by omega,by omega,by rw [U8_len]; omega⟩ ?_
   refine frcN_of (m:=j) (Int.toNat_natCast j) ?_
   refine frcN_of (m:=j+n) (by omega) ?_
   have hsub:((U8 s).drop j).take (j+n-j)=U8 (enc v):=by rw [Nat.add_sub_cancel_left,U8_drop,U8_take,d3]
   have hsl:(((U8 s).drop j).take (j+n-j)).length=(enc v).length:=by rw [hsub,U8_len]
   have hrow:∀ i,i<(enc v).length→SC.w8 ((((U8 s).drop j).take (j+n-j)).getD i 0).toBitVec=.w8 (L (enc v) i):=fun i hi=>by rw [hsub]; exact row_U8 i hi
   (repeat show _∧_;first|refine yr ?_|refine yt ?_|refine yf ?_|refine yo ?_)
   refine And.intro ⟨gc,by simp only [scale]; omega,by rw [hsl]; show (a.length+(enc v).length)*1≤140737488355328; omega⟩ ?_
   intro c' hc'
   rw [hsl] at hc'
   (repeat show _∧_;first|refine yr ?_|refine yt ?_|refine yf ?_|refine yo ?_)
   refine ⟨(j+n,some (a++enc v,c')),[0,1,3],⟨⟨rfl,rfl,rfl⟩,?_⟩,⟨by omega,by omega,by rw [List.length_append]; omega,by rw [List.length_append]; exact hc',f,by omega,hP⟩,by dsimp only; omega⟩
   (repeat first|exact trivial|refine ent1 ?_)
   refine And.intro (by rw [hsl,List.length_append]) ?_
   (repeat first|exact trivial|refine ent1 ?_)
   refine ⟨fun j' hj'=>eqC_bytes (fun i hi=>?_) j',trivial⟩
   rw [hsl]
   exact app_row (l:=a) rfl rfl (fun i hi=>bytesF_lt hi) hrow i (by rw [← List.length_append]; exact hi)
  have f1:decide ((v:Int)=65533)=false:=decide_eq_false (by omega)
  (repeat show _∧_;first|refine yr ?_|refine yt ?_|refine yf ?_|refine ya f1 ?_|refine yb f1 ?_|refine yo ?_)
  refine ⟨none,[],[(0,true),(1,true),(2,true),(3,true),(4,true),(5,true),(6,true),(7,true),(8,true),(9,true),(10,true),(11,true),(12,true),(13,true),(14,true),(15,true)],[16,17],by kernel_rfl,?_⟩
  (repeat show _∧_;first|refine yr ?_|refine yt ?_|refine yf ?_|refine yo ?_)
  refine And.intro ⟨by omega,by omega,by rw [U8_len]; omega⟩ ?_
  refine frcN_of (m:=j) (Int.toNat_natCast j) ?_
  refine frcN_of (m:=j+n) (by omega) ?_
  have hsub:((U8 s).drop j).take (j+n-j)=U8 (enc v):=by rw [Nat.add_sub_cancel_left,U8_drop,U8_take,d3]
  have hsl:(((U8 s).drop j).take (j+n-j)).length=(enc v).length:=by rw [hsub,U8_len]
  have hrow:∀ i,i<(enc v).length→SC.w8 ((((U8 s).drop j).take (j+n-j)).getD i 0).toBitVec=.w8 (L (enc v) i):=fun i hi=>by rw [hsub]; exact row_U8 i hi
  (repeat show _∧_;first|refine yr ?_|refine yt ?_|refine yf ?_|refine yo ?_)
  refine And.intro ⟨gc,by simp only [scale]; omega,by rw [hsl]; show (a.length+(enc v).length)*1≤140737488355328; omega⟩ ?_
  intro c' hc'
  rw [hsl] at hc'
  (repeat show _∧_;first|refine yr ?_|refine yt ?_|refine yf ?_|refine yo ?_)
  refine ⟨(j+n,some (a++enc v,c')),[0,1,3],⟨⟨rfl,rfl,rfl⟩,?_⟩,⟨by omega,by omega,by rw [List.length_append]; omega,by rw [List.length_append]; exact hc',f,by omega,hP⟩,by dsimp only; omega⟩
  (repeat first|exact trivial|refine ent1 ?_)
  refine And.intro (by rw [hsl,List.length_append]) ?_
  (repeat first|exact trivial|refine ent1 ?_)
  refine ⟨fun j' hj'=>eqC_bytes (fun i hi=>?_) j',trivial⟩
  rw [hsl]
  exact app_row (l:=a) rfl rfl (fun i hi=>bytesF_lt hi) hrow i (by rw [← List.length_append]; exact hi)
end Sx
end
section
namespace Sx
open Go.RowKit Sha Vi Js

theorem dig_nd {u:Nat} (h:u<18446744073709551616):(dig u).length=Lib.nDigits u:=by
 rw [← Lib.decDigits_length,dig_dec h,U8_len]
theorem dig_le {u:Nat} (h:u<18446744073709551616):(dig u).length≤20:=digs_len 20 u 20 (Nat.lt_of_lt_of_le h (by decide)) (by decide)
theorem dig_pos (u:Nat):1≤(dig u).length:=by
 have:=digs_ne 20 u (by decide)
 unfold dig
 cases h:digs 20 u with
 | nil=>exact absurd h this
 | cons a l=>simp
theorem dig_at {u:Nat} (h:u<18446744073709551616) (d:Nat→SC) (i:Nat) (hi:i<(dig u).length):fmtF (dig u).length u d i=.w8 (L (dig u) i):=by
 have e:=dig_dec h
 rw [Lib.decDigits_eq,← dig_nd h] at e
 have e2:((U8 (dig u)).getD i 0).toBitVec=L (dig u) i:=U8_get _ i hi
 rw [← e2,← e]
 unfold fmtF
 rw [if_pos hi,List.getD_eq_getElem?_getD,List.getElem?_map,List.getElem?_range hi,Option.map_some,Option.getD_some]
 congr 1
theorem fn_small {i:Nat} (h:i<100):Fn Tryd.prog tds 83 [] [.c (.int .i64 (i:Int))] (fun _=>True) (fun y hs=>y=.a (.c (.str (U8 (dig i))))∧hs=[]) :=
 FnR.ofCalls fun w r0 vs ok ha _=>by
  obtain ⟨v,rfl,hv⟩:=ha.one
  obtain rfl:v=.int .i64 (i:Int):=hv
  refine (Tryd.internal_strconv_small i h w).mono ?_
  rintro e w' ⟨rfl,rfl⟩
  exact ⟨_,.a (.c (.str (U8 (dig i)))),rfl,by rw [dig_dec (by omega)]; rfl,Below.refl _ _,rfl,rfl⟩
set_option maxRecDepth 20000 in
set_option maxHeartbeats 8000000 in
theorem fn_iuint0 {W:World} {ms:List Nat} (hT:Tabs W ms) (u:BitVec 64):FnR Tryd.prog tds 76 1 [[.past W ms]] [.c (.slc none 0 0),.c (.w64 u),.c (.int .i64 10)] (fun _=>True)
  (fun x hs=>∃ c',(dig u.toNat).length≤c'∧x=.a (.c (.sl 1 0 0 (dig u.toNat).length c'))∧hs=[[.past W ms],lsC (dig u.toNat) c']):=by
 refine fn_of_body tds_ok follows_ Tryd.func76 rfl (t:=.a (.c (.slc none 0 0))::.a (.c (.w64 u))::.a (.c (.int .i64 10))::anys (Tryd.f76.ntmps-3)) rfl (fun w r0 hr _=>?_)
 obtain ⟨x0,rfl⟩:=len1' hr
 have e1:decide ((10:Int)=10)=true:=rfl
 by_cases h1:u.toNat<100
 ·have e2:decide (u<100#64)=true:=decide_eq_true (by rw [BitVec.lt_def]; exact h1)
  (repeat show _∧_;first|refine yr ?_|refine yt ?_|refine yf ?_|refine ya e1 ?_|refine yb e1 ?_|refine ya e2 ?_|refine yb e2 ?_|refine yo ?_)
  refine call_same (fn_small h1) [] rfl (by exact And.intro rfl trivial) trivial (fun _ _=>trivial) ?_
  rintro y hs ⟨rfl,rfl⟩
  have hl:(U8 (dig u.toNat)).length=(dig u.toNat).length:=U8_len _
  have h20:=dig_le u.isLt
  have h01:=dig_pos u.toNat
  (repeat show _∧_;first|refine yr ?_|refine yt ?_|refine yf ?_|refine yo ?_)
  refine And.intro (by rw [hl]; show _*1≤_; omega) ?_
  refine And.intro (fun hz=>absurd (hl.symm.trans hz) (by omega)) (fun _=>?_)
  intro c' hc'
  refine ⟨.a (.c (.sl 1 0 0 (dig u.toNat).length c')),_,⟨[0,1],⟨rfl,rfl,rfl⟩,?_⟩,c',by rw [← hl]; exact hc',rfl,rfl⟩
  (repeat first|exact trivial|refine ent1 ?_)
  refine ⟨fun j' hj'=>eqC_bytes (fun i hi=>?_) j',by (repeat first|exact trivial|refine ent1 ?_)⟩
  exact new_row (m:=dig u.toNat) (fun i hi=>row_U8 i (by rw [← hl]; exact hi)) i (by rw [hl]; exact hi)
 ·have e2:decide (u<100#64)=false:=decide_eq_false (by rw [BitVec.lt_def]; exact h1)
  (repeat show _∧_;first|refine yr ?_|refine yt ?_|refine yf ?_|refine ya e1 ?_|refine yb e1 ?_|refine ya e2 ?_|refine yb e2 ?_|refine yo ?_)
  refine call_same (fn_numDigits hT u (by omega)) [0] rfl (by exact And.intro rfl trivial) (by (repeat first|exact trivial|refine ent1 ?_)) (fun _ _=>trivial) ?_
  rintro y hs ⟨rfl,rfl⟩
  have h20:=dig_le u.isLt
  have h01:=dig_pos u.toNat
  rw [← dig_nd u.isLt]
  dsimp only
  (repeat show _∧_;first|refine yr ?_|refine yt ?_|refine yf ?_|refine yo ?_)
  refine call_same (fn_fmt (n:=(dig u.toNat).length) (N:=24) (u:=u) (by rw [dig_nd u.isLt]; exact Lib.lt_pow_nDigits _) (by omega) (by omega) (fun _=>.w8 0#8) (fun i _=>⟨_,rfl⟩)) [1] rfl (by exact And.intro rfl (And.intro rfl (And.intro rfl (And.intro rfl trivial)))) (by (repeat first|exact trivial|refine ent1 ?_)) (fun _ _=>trivial) ?_
  rintro y hs ⟨rfl,rfl⟩
  (repeat show _∧_;first|refine yr ?_|refine yt ?_|refine yf ?_|refine yo ?_)
  refine frcN_of (m:=0) rfl ?_
  refine frcN_of (m:=(dig u.toNat).length) (Int.toNat_natCast _) ?_
  dsimp only
  refine frcN_of (m:=0) rfl ?_
  refine frcN_of (m:=(dig u.toNat).length) rfl ?_
  refine frcN_of (m:=24) rfl ?_
  (repeat show _∧_;first|refine yr ?_|refine yt ?_|refine yf ?_|refine yo ?_)
  refine And.intro (show 0+scale (dig u.toNat).length (0+1)≤24 by simp only [scale]; omega) ?_
  refine And.intro ⟨rfl,rfl⟩ ?_
  refine And.intro (by show _*1≤_; omega) ?_
  refine And.intro (fun hz=>absurd hz (by omega)) (fun _=>?_)
  intro c' hc'
  refine ⟨.a (.c (.sl 1 0 0 (dig u.toNat).length c')),_,⟨[0,2],⟨rfl,rfl,rfl⟩,?_⟩,c',hc',rfl,rfl⟩
  (repeat first|exact trivial|refine ent1 ?_)
  refine ⟨fun j' hj'=>eqC_bytes (fun i hi=>?_) j',by (repeat first|exact trivial|refine ent1 ?_)⟩
  exact new_row (m:=dig u.toNat) (fun i hi=>congrArg (SC.mp (bk 2 [1])) (dig_at u.isLt (fun _=>.w8 0#8) i hi)) i hi
set_option maxRecDepth 20000 in
set_option maxHeartbeats 8000000 in
theorem fn_iuint {W:World} {ms:List Nat} (hT:Tabs W ms) (b:Bs) (c:Nat) (hb:b.length≤70368744177664) (hc:b.length≤c) (u:BitVec 64):FnR Tryd.prog tds 76 1 [[.past W ms],lsC b c] [.c (.sl 1 0 0 b.length c),.c (.w64 u),.c (.int .i64 10)] (fun _=>True)
  (fun x hs=>∃ c',(b++dig u.toNat).length≤c'∧x=.a (.c (.sl 2 0 0 (b++dig u.toNat).length c'))∧hs=[[.past W ms],[],lsC (b++dig u.toNat) c']):=by
 refine fn_of_body tds_ok follows_ Tryd.func76 rfl (t:=.a (.c (.sl 1 0 0 b.length c))::.a (.c (.w64 u))::.a (.c (.int .i64 10))::anys (Tryd.f76.ntmps-3)) rfl (fun w r0 hr _=>?_)
 obtain ⟨x0,x1,rfl⟩:=len2' hr
 have e1:decide ((10:Int)=10)=true:=rfl
 by_cases h1:u.toNat<100
 ·have e2:decide (u<100#64)=true:=decide_eq_true (by rw [BitVec.lt_def]; exact h1)
  (repeat show _∧_;first|refine yr ?_|refine yt ?_|refine yf ?_|refine ya e1 ?_|refine yb e1 ?_|refine ya e2 ?_|refine yb e2 ?_|refine yo ?_)
  refine call_same (fn_small h1) [] rfl (by exact And.intro rfl trivial) trivial (fun _ _=>trivial) ?_
  rintro y hs ⟨rfl,rfl⟩
  have hl:(U8 (dig u.toNat)).length=(dig u.toNat).length:=U8_len _
  have h20:=dig_le u.isLt
  have h01:=dig_pos u.toNat
  (repeat show _∧_;first|refine yr ?_|refine yt ?_|refine yf ?_|refine yo ?_)
  refine And.intro ⟨by omega,by simp only [scale]; omega,by rw [hl]; show (b.length+(dig u.toNat).length)*1≤140737488355328; omega⟩ ?_
  intro c' hc'
  refine ⟨.a (.c (.sl 2 0 0 (b++dig u.toNat).length c')),_,⟨[0,1,2],⟨rfl,rfl,rfl⟩,?_⟩,c',by rw [List.length_append,← hl]; exact hc',rfl,rfl⟩
  (repeat first|exact trivial|refine ent1 ?_)
  refine And.intro (by rw [List.length_append,hl]) ?_
  (repeat first|exact trivial|refine ent1 ?_)
  refine ⟨fun j' hj'=>eqC_bytes (fun i hi=>?_) j',by (repeat first|exact trivial|refine ent1 ?_)⟩
  have hi':i<b.length+(dig u.toNat).length:=by rw [List.length_append] at hi; exact hi
  rw [hl]
  refine app_row (l:=b) (n:=b.length) (k:=(dig u.toNat).length) rfl rfl (fun i hi=>bytesF_lt hi) (fun i hi=>row_U8 i hi) i hi'
 ·have e2:decide (u<100#64)=false:=decide_eq_false (by rw [BitVec.lt_def]; exact h1)
  (repeat show _∧_;first|refine yr ?_|refine yt ?_|refine yf ?_|refine ya e1 ?_|refine yb e1 ?_|refine ya e2 ?_|refine yb e2 ?_|refine yo ?_)
  refine call_same (fn_numDigits hT u (by omega)) [0] rfl (by exact And.intro rfl trivial) (by (repeat first|exact trivial|refine ent1 ?_)) (fun _ _=>trivial) ?_
  rintro y hs ⟨rfl,rfl⟩
  have h20:=dig_le u.isLt
  have h01:=dig_pos u.toNat
  rw [← dig_nd u.isLt]
  dsimp only
  (repeat show _∧_;first|refine yr ?_|refine yt ?_|refine yf ?_|refine yo ?_)
  refine call_same (fn_fmt (n:=(dig u.toNat).length) (N:=24) (u:=u) (by rw [dig_nd u.isLt]; exact Lib.lt_pow_nDigits _) (by omega) (by omega) (fun _=>.w8 0#8) (fun i _=>⟨_,rfl⟩)) [2] rfl (by exact And.intro rfl (And.intro rfl (And.intro rfl (And.intro rfl trivial)))) (by (repeat first|exact trivial|refine ent1 ?_)) (fun _ _=>trivial) ?_
  rintro y hs ⟨rfl,rfl⟩
  (repeat show _∧_;first|refine yr ?_|refine yt ?_|refine yf ?_|refine yo ?_)
  refine frcN_of (m:=0) rfl ?_
  refine frcN_of (m:=(dig u.toNat).length) (Int.toNat_natCast _) ?_
  dsimp only
  refine frcN_of (m:=0) rfl ?_
  refine frcN_of (m:=(dig u.toNat).length) rfl ?_
  refine frcN_of (m:=24) rfl ?_
  (repeat show _∧_;first|refine yr ?_|refine yt ?_|refine yf ?_|refine yo ?_)
  refine And.intro (show 0+scale (dig u.toNat).length (0+1)≤24 by simp only [scale]; omega) ?_
  refine And.intro ⟨by omega,by simp only [scale]; omega,by show (b.length+(dig u.toNat).length)*1≤140737488355328; omega⟩ ?_
  intro c' hc'
  refine ⟨.a (.c (.sl 2 0 0 (b++dig u.toNat).length c')),_,⟨[0,1,3],⟨rfl,rfl,rfl⟩,?_⟩,c',by rw [List.length_append]; exact hc',rfl,rfl⟩
  (repeat first|exact trivial|refine ent1 ?_)
  refine And.intro (by rw [List.length_append]) ?_
  (repeat first|exact trivial|refine ent1 ?_)
  refine ⟨fun j' hj'=>eqC_bytes (fun i hi=>?_) j',by (repeat first|exact trivial|refine ent1 ?_)⟩
  have hi':i<b.length+(dig u.toNat).length:=by rw [List.length_append] at hi; exact hi
  refine app_row (l:=b) (n:=b.length) (k:=(dig u.toNat).length) rfl rfl (fun i hi=>bytesF_lt hi) (fun i hi=>congrArg (SC.mp (bk 3 [2])) (dig_at u.isLt (fun _=>.w8 0#8) i hi)) i hi'
set_option maxRecDepth 20000 in
theorem fn_uint0 {W:World} {ms:List Nat} (hT:Tabs W ms) (u:BitVec 64):FnR Tryd.prog tds 62 1 [[.past W ms]] [.c (.slc none 0 0),.c (.w64 u),.c (.int .i64 10)] (fun _=>True)
  (fun x hs=>∃ c',(dig u.toNat).length≤c'∧x=.a (.c (.sl 1 0 0 (dig u.toNat).length c'))∧hs=[[.past W ms],lsC (dig u.toNat) c']):=by
 refine fn_of_body tds_ok follows_ Tryd.func62 rfl (t:=.a (.c (.slc none 0 0))::.a (.c (.w64 u))::.a (.c (.int .i64 10))::anys (Tryd.f62.ntmps-3)) rfl (fun w r0 hr _=>?_)
 obtain ⟨x0,rfl⟩:=len1' hr
 (repeat show _∧_;first|refine yr ?_|refine yt ?_|refine yf ?_|refine yo ?_)
 refine call_same (fn_iuint0 hT u) [0] rfl (by exact And.intro rfl (And.intro rfl (And.intro rfl trivial))) (by (repeat first|exact trivial|refine ent1 ?_)) (fun _ _=>trivial) ?_
 rintro y hs ⟨c',hc',rfl,rfl⟩
 (repeat show _∧_;first|refine yr ?_|refine yt ?_|refine yf ?_|refine yo ?_)
 exact ⟨.a (.c (.sl 1 0 0 (dig u.toNat).length c')),_,⟨[0,1],⟨rfl,rfl,rfl⟩,by (repeat first|exact trivial|refine ent1 ?_)⟩,c',hc',rfl,rfl⟩
set_option maxRecDepth 20000 in
theorem fn_uint {W:World} {ms:List Nat} (hT:Tabs W ms) (b:Bs) (c:Nat) (hb:b.length≤70368744177664) (hc:b.length≤c) (u:BitVec 64):FnR Tryd.prog tds 62 1 [[.past W ms],lsC b c] [.c (.sl 1 0 0 b.length c),.c (.w64 u),.c (.int .i64 10)] (fun _=>True)
  (fun x hs=>∃ c',(b++dig u.toNat).length≤c'∧x=.a (.c (.sl 2 0 0 (b++dig u.toNat).length c'))∧hs=[[.past W ms],[],lsC (b++dig u.toNat) c']):=by
 refine fn_of_body tds_ok follows_ Tryd.func62 rfl (t:=.a (.c (.sl 1 0 0 b.length c))::.a (.c (.w64 u))::.a (.c (.int .i64 10))::anys (Tryd.f62.ntmps-3)) rfl (fun w r0 hr _=>?_)
 obtain ⟨x0,x1,rfl⟩:=len2' hr
 (repeat show _∧_;first|refine yr ?_|refine yt ?_|refine yf ?_|refine yo ?_)
 refine call_same (fn_iuint hT b c hb hc u) [0,1] rfl (by exact And.intro rfl (And.intro rfl (And.intro rfl (And.intro rfl (And.intro rfl trivial))))) (by (repeat first|exact trivial|refine ent1 ?_)) (fun _ _=>trivial) ?_
 rintro y hs ⟨c',hc',rfl,rfl⟩
 (repeat show _∧_;first|refine yr ?_|refine yt ?_|refine yf ?_|refine yo ?_)
 exact ⟨.a (.c (.sl 2 0 0 (b++dig u.toNat).length c')),_,⟨[0,1,2],⟨rfl,rfl,rfl⟩,by (repeat first|exact trivial|refine ent1 ?_)⟩,c',hc',rfl,rfl⟩
end Sx
end
section
namespace Sx
open Go.RowKit Sha Vi Js

theorem sc5 (n:Nat):scale n (4+1)=n*5:=scale_eq _ _
theorem sc1 (n:Nat):scale n (0+1)=n:=by rw [scale_eq]; omega
theorem nthJ_get {l:List SC} {j:Nat} (h:j<l.length):l[j]?=some (nthC l j):=by
 obtain ⟨x,hx⟩:∃ x,l[j]?=some x:=⟨_,List.getElem?_eq_getElem h⟩
 rw [hx,nthC_get? hx]
theorem nthJ_l {l m:List SC} {j:Nat} (h:j<l.length):nthC (l++m) j=nthC l j:=nthC_get? (by
 rw [List.getElem?_append_left h]; exact nthJ_get h)
theorem nthJ_r {l m:List SC} {j:Nat} (h:l.length≤j):nthC (l++m) j=nthC m (j-l.length):=by
 induction l generalizing j with
 | nil=>rfl
 | cons x l ih=>cases j with
  | zero=>simp at h
  | succ j=>rw [List.cons_append,nthC,ih (by simpa using h)]; simp
theorem nthJ_mem {l:List SC} {j:Nat} (h:j<l.length):nthC l j∈l:=List.mem_of_getElem? (nthJ_get h)
theorem nthJ_out:∀ {l:List SC} {j:Nat},l.length≤j→nthC l j=.any
 | [],_,_=>rfl
 | x::l,0,h=>by simp at h
 | x::l,j+1,h=>nthJ_out (l:=l) (by simpa using h)
theorem eqJ_raw {q:List Nat} {x:SC} (h:x.raw=x):eqC q x x True:=by
 cases x with
 | int k b=>cases k <;> exact ⟨rfl,trivial⟩
 | _=>first|exact ⟨rfl,trivial⟩|trivial|(simp only [SC.raw] at h; cases h)
theorem eqJ_cs {q:List Nat} {cs:List SC} (h:∀ x∈cs,x.raw=x) {f:Nat→SC} (hf:∀ j,j<cs.length→f j=nthC cs j) (j:Nat):eqC q (f j) (nthC cs j) True:=by
 rcases Nat.lt_or_ge j cs.length with hj|hj
 ·rw [hf j hj]; exact eqJ_raw (h _ (nthJ_mem hj))
 ·rw [nthJ_out hj]; trivial
theorem mpJ_raw {g:Nat→Nat} {x:SC} (h:x.raw=x):SC.mp g x=x:=by
 cases x <;> simp only [SC.raw] at h <;> first|rfl|cases h
theorem eqJ_csM {q:List Nat} {g:Nat→Nat} {cs:List SC} (h:∀ x∈cs,x.raw=x) (j:Nat):eqC q (SC.mp g (nthC cs j)) (nthC cs j) True :=
 eqJ_cs (f:=fun j=>SC.mp g (nthC cs j)) h (fun j hj=>mpJ_raw (h _ (nthJ_mem hj))) j
theorem appJ_cs {cs new:List SC} {n m sz:Nat} {f g:Nat→SC} (hn:cs.length=n*(sz+1)) (hf:∀ j,j<cs.length→f j=nthC cs j) (hw:new.length=m*(sz+1)) (hg:∀ j,j<new.length→g j=nthC new j) (j:Nat) (hj:j<(cs++new).length):appF f 0 (scale n (sz+1)) (scale m (sz+1)) g j=nthC (cs++new) j:=by
 rw [List.length_append] at hj
 unfold appF
 rw [scale_eq,scale_eq,← hn,← hw]
 by_cases h:j<cs.length
 ·rw [if_pos h,Nat.add_zero,hf j h,nthJ_l h]
 ·rw [if_neg h,if_pos hj,hg _ (by omega),nthJ_r (by omega)]
theorem newJ_cs {new:List SC} {m sz:Nat} {g:Nat→SC} (hw:new.length=m*(sz+1)) (hg:∀ j,j<new.length→g j=nthC new j) (j:Nat) (hj:j<new.length):newF (scale m (sz+1)) g j=nthC new j:=by
 rw [newF_lt (by rw [scale_eq,← hw]; exact hj),hg j hj]
theorem updJ_new {f:Nat→SC} {new:List SC} {m j:Nat} (hj:j<m):updN f 0 m (nthC new) (j+0)=nthC new j:=by
 unfold updN
 rw [if_pos ⟨Nat.zero_le _,by omega⟩]; rfl
theorem rzJ_raw {F:Nat→Bool} {α:Nat→Addr} {x:SC} (h:x.raw=x):(x.rz F α).raw=x:=by
 cases x <;> simp only [SC.raw] at h <;> first|rfl|cases h
theorem RowJ.frz {W0 W:World} {ms0 ms:List Nat} {A:Addr} {F:Nat→Bool} {α:Nat→Addr} {n c d:Nat} {cs:List SC} {l:List JT} {g:Nat→SC} (k:RowJ W0 ms0 d cs l) (hL:Later W0 ms0 W ms) (hg:∀ j,j<cs.length→g j=nthC cs j)
  (h:flat [.row (scale c (4+1)) g]≠[]→ImAt W ms A (((flat [.row (scale c (4+1)) g]).map (SC.rz F α)).map SC.raw)∧(marksOk=false→Unm W ms A)) (hmk:marksOk=false) (hn:l.length=n) (hc:n≤c) (hcap:n≤9223372036854775807) :
  l.length=n∧n≤c∧n≤9223372036854775807∧(some (A.add (0+0))=none→c=0)∧∀ B,some (A.add (0+0))=some B→n≠0→Unm W ms B∧∀ j e,l[j]?=some e→∃ y,ImAt W ms (B.add (j*5)) (flat (jvS e y))∧TAt W ms d e y:=by
 refine ⟨hn,hc,hcap,(fun e=>by cases e),fun B hB hn0=>?_⟩
 injection hB with hB
 subst hB
 have hne:flat [.row (scale c (4+1)) g]≠[]:=by
  intro e
  have:=congrArg List.length e
  simp [flat,sc5] at this
  omega
 obtain ⟨h1,h2⟩:=h hne
 rw [show A.add (0+0)=A from h1.zero]
 refine ⟨h2 hmk,fun j e he=>?_⟩
 obtain ⟨x,x1,x2⟩:=k.elt j e he
 have hj:j<n:=by rw [← hn]; exact (List.getElem?_eq_some_iff.1 he).1
 refine ⟨x,h1.part (j*5) fun i y hy=>?_,x2.later hL⟩
 have hi:i<5:=(List.getElem?_eq_some_iff.1 hy).1
 have hcs:=x1 i y hy
 have hlen:=k.len
 have hjn:j*5+i<scale c (4+1):=by rw [sc5]; omega
 rw [List.getElem?_map,List.getElem?_map]
 simp only [flat,List.append_nil,List.getElem?_map,List.getElem?_range hjn,Option.map_some]
 have hraw:=k.raw y (List.mem_of_getElem? hcs)
 rw [hg _ ((List.getElem?_eq_some_iff.1 hcs).1),nthC_get? hcs,rzJ_raw hraw]
theorem strs_frz {W:World} {ms:List Nat} {A:Addr} {F:Nat→Bool} {α:Nat→Addr} {n c:Nat} {l:List (List UInt8)} {g:Nat→SC} (hg:∀ j,j<(l.map SC.str).length→g j=nthC (l.map SC.str) j) (h:flat [.row (scale c (0+1)) g]≠[]→ImAt W ms A (((flat [.row (scale c (0+1)) g]).map (SC.rz F α)).map SC.raw)) (hn:l.length=n) (hc:n≤c) (hcap:n≤9223372036854775807):StAt W ms (some (A.add (0+0))) n c l :=
 SlAt.frz h rfl hc hcap (by decide) (by rw [List.length_map,hn]; omega) (fun j x e=>by rw [hg j ((List.getElem?_eq_some_iff.1 e).1),nthC_get? e]) (rz_str l)
end Sx
end
section
namespace Js
open Sha
theorem qr_sign {r:Nat} (h:r=34∨r=92):qr r=[92#8,BitVec.ofInt 8 (r:Int)]:=by
 unfold qr; rw [if_pos h,BitVec.ofInt_natCast]; rfl
theorem qr_n:qr 10=[92#8,110#8]:=rfl
theorem qr_t:qr 9=[92#8,116#8]:=rfl
theorem qr_r:qr 13=[92#8,114#8]:=rfl
def hexS:List UInt8:=[48,49,50,51,52,53,54,55,56,57,97,98,99,100,101,102]
theorem qr_ctl {r:Nat} (h0:¬ (r=34∨r=92)) (h1:r≠10) (h2:r≠9) (h3:r≠13) (h4:r<32) :
  qr r=[92#8,117#8,48#8,48#8,(hexS.getD ((r:Int) / 2 ^ 4).toNat 0).toBitVec,(hexS.getD ((((r:Int)).toNat &&& ((15:Int)).toNat:Nat):Int).toNat 0).toBitVec]:=by
 have k1:∀ n:_root_.Fin 32,(hexS.getD ((n.val:Int) / 2 ^ 4).toNat 0).toBitVec=hexd (n.val / 16):=by decide +kernel
 have k2:∀ n:_root_.Fin 32,(hexS.getD ((((n.val:Int)).toNat &&& ((15:Int)).toNat:Nat):Int).toNat 0).toBitVec=hexd (n.val % 16):=by decide +kernel
 have e1:=k1 ⟨r,h4⟩
 have e2:=k2 ⟨r,h4⟩
 dsimp only at e1 e2
 rw [e1,e2]
 unfold qr
 rw [if_neg h0,if_neg h1,if_neg h2,if_neg h3,if_pos h4]
theorem qr_enc {r:Nat} (h0:¬ (r=34∨r=92)) (h1:r≠10) (h2:r≠9) (h3:r≠13) (h4:¬ r<32):qr r=enc r:=by
 unfold qr
 rw [if_neg h0,if_neg h1,if_neg h2,if_neg h3,if_neg h4]
end Js
namespace Sx
open Go.RowKit Sha Vi Js

theorem scal_i {r:Nat} (h:scal r):r≤1114111:=by unfold scal at h; omega
set_option maxRecDepth 20000 in
set_option maxHeartbeats 16000000 in
theorem fn_quote0 {s:Bs} (hu:Utf s) (hb:(quote s).length≤70368744177664):Fn Tryd.prog tds 63 [] [.c (.slc none 0 0),.c (.str (U8 s))] (fun _=>True)
  (fun x hs=>∃ c',(quote s).length≤c'∧x=.a (.c (.sl 0 0 0 (quote s).length c'))∧hs=[lsC (quote s) c']):=by
 refine fn_of_body tds_ok follows_ Tryd.func63 rfl (t:=.a (.c (.slc none 0 0))::.a (.c (.str (U8 s)))::anys (Tryd.f63.ntmps-2)) rfl (fun w r0 hr _=>?_)
 obtain rfl:r0=[]:=List.eq_nil_of_length_eq_zero hr
 obtain ⟨rs,hrs,hs⟩:=hu
 have hq:quote s=34#8::(rs.flatMap qr++[34#8]):=by rw [hs]; exact quote_of hrs
 obtain ⟨T,hTl⟩:∃ T,(rs.flatMap qr).length=T:=⟨_,rfl⟩
 have hql:(quote s).length=T+2:=by rw [hq]; simp only [List.length_cons,List.length_append,hTl,List.length_nil]
 (repeat show _∧_;first|refine yr ?_|refine yt ?_|refine yf ?_|refine yo ?_)
 intro c1 hc1
 (repeat show _∧_;first|refine yr ?_|refine yt ?_|refine yf ?_|refine yo ?_)
 refine .inl ⟨List Nat × List Nat × Bs × Nat,fun x=>match x with|(done,todo,B,c)=>⟨[.a (.c (.sl 0 0 0 B.length c)),.a (.c (.str ((U8 s)))),.any,.any,.a (.c (.slc none 0 0)),.any,.any,.any,.any,.any,.any,.a (.c (.ih 1)),.any,.any,.any,.any,.any,.any,.any,.any,.any,.any,.any,.any,.any,.any,.any,.any,.any,.any,.any,.any,.any,.any,.any,.any,.any,.any,.any,.any,.any,.any,.any,.any,.any,.any,.any,.any,.any,.any,.any,.any,.any,.any,.any,.any,.any,.any,.any,.any,.any,.any,.any],[lsC B c,[.obj (.it (U8 s) ((done.flatMap enc).length))]]⟩,
  fun x=>match x with|(done,todo,B,c)=>rs=done++todo∧B=34#8::done.flatMap qr∧B.length≤c,fun x=>x.2.1.length,⟨([],rs,[34#8],c1),[1,2],⟨⟨rfl,rfl,rfl⟩,?_⟩,rfl,rfl,hc1⟩,fun x hx=>?_⟩
 ·(repeat first|exact trivial|refine ent1 ?_)
  refine ⟨fun j hj=>eqC_bytes (fun i hi=>?_) j,by (repeat first|exact trivial|refine ent1 ?_)⟩
  exact new_row (m:=[34#8]) (fun i hi=>one_row rfl i hi) i hi
 obtain ⟨done,todo,B,c⟩:=x
 obtain ⟨h1,h2,h3⟩:=hx
 dsimp only
 have hBl:B.length=(done.flatMap qr).length+1:=by rw [h2]; simp only [List.length_cons]
 have hsplit:(done.flatMap qr).length+(todo.flatMap qr).length=T:=by rw [← hTl,h1,List.flatMap_append,List.length_append]
 have hsd:s=done.flatMap enc++todo.flatMap enc:=by rw [hs,h1,List.flatMap_append]
 rcases todo with _|⟨r,todo⟩
 ·have hpos:¬ (done.flatMap enc).length<(U8 s).length:=by rw [U8_len,hsd]; simp
  refine And.intro (fun h=>absurd h hpos) (fun _=>?_)
  (repeat show _∧_;first|refine yr ?_|refine yt ?_|refine yf ?_|refine yo ?_)
  refine And.intro ⟨h3,by simp only [scale]; omega,by show (B.length+1)*1≤140737488355328; omega⟩ ?_
  intro c2 hc2
  (repeat show _∧_;first|refine yr ?_|refine yt ?_|refine yf ?_|refine yo ?_)
  have hfull:(quote s)=B++[34#8]:=by
   rw [h2,hq,h1]; simp
  rw [hfull]
  refine ⟨.a (.c (.sl 0 0 0 (B++[34#8]).length c2)),_,⟨[3],⟨rfl,rfl,rfl⟩,?_⟩,c2,by rw [List.length_append]; exact hc2,rfl,rfl⟩
  (repeat first|exact trivial|refine ent1 ?_)
  refine And.intro (show B.length+1=(B++[34#8]).length by rw [List.length_append]; rfl) ?_
  (repeat first|exact trivial|refine ent1 ?_)
  refine ⟨fun j hj=>eqC_bytes (fun i hi=>?_) j,by (repeat first|exact trivial|refine ent1 ?_)⟩
  have hi':i<B.length+1:=by rw [List.length_append] at hi; exact hi
  refine app_row (l:=B) (n:=B.length) (k:=1) rfl ?_ (fun i hi=>bytesF_lt hi) (fun i hi=>?_) i hi'
  ·rfl
  ·exact rowl i (by exact hi) rfl
 have hr:scal r:=hrs r (by rw [h1]; exact List.mem_append_right _ (List.mem_cons_self ..))
 have hri:=scal_i hr
 have hep:=enc_pos r
 have hpos:(done.flatMap enc).length<(U8 s).length:=by rw [U8_len,hsd]; simp only [List.length_append,List.flatMap_cons]; omega
 have hdec:Utf8.decode ⟨(U8 s).toArray⟩ ((done.flatMap enc).length)=(r,(enc r).length):=by
  rw [decode_U8]
  conv=>lhs; rw [hsd]
  rw [List.drop_left,List.flatMap_cons]
  exact dec_enc hr _
 have hstep:rs=(done++[r])++todo:=by rw [h1]; simp
 have hqf:∀ W:Bs,W=B++qr r→W=34#8::(done++[r]).flatMap qr:=fun W h=>by rw [h,h2]; simp
 have hpe:((done++[r]).flatMap enc).length=(done.flatMap enc).length+(enc r).length:=by simp
 rw [List.flatMap_cons,List.length_append] at hsplit
 refine And.intro (fun _=>?_) (fun h=>absurd hpos h)
 rw [show (Utf8.decode ⟨(U8 s).toArray⟩ ((done.flatMap enc).length)).1=r by rw [hdec],show (Utf8.decode ⟨(U8 s).toArray⟩ ((done.flatMap enc).length)).2=(enc r).length by rw [hdec]]
 by_cases a1:r=34
 ·have f1:decide ((r:Int)=34)=true:=decide_eq_true (by omega)
  have hE:=qr_sign (r:=r) (.inl a1)
  have hEl:(qr r).length=2:=by rw [hE]; rfl
  (repeat show _∧_;first|refine yr ?_|refine yt ?_|refine yf ?_|refine yt ?_ (by first|decide|(rw[f1];decide))|refine yf ?_ (by first|decide|(rw[f1];decide))|refine yo ?_)
  refine And.intro ⟨h3,by simp only [scale]; omega,by show (B.length+2)*1≤140737488355328; omega⟩ ?_
  intro c2 hc2
  (repeat show _∧_;first|refine yr ?_|refine yt ?_|refine yf ?_|refine yo ?_)
  refine ⟨(done++[r],todo,B++qr r,c2),[3,1],⟨⟨rfl,rfl,rfl⟩,?_⟩,⟨hstep,hqf _ rfl,by rw [List.length_append,hEl]; exact hc2⟩,by dsimp only; simp⟩
  have hbl:(B++qr r).length=B.length+2:=by rw [List.length_append,hEl]
  dsimp only
  (repeat first|exact trivial|refine ent1 ?_)
  refine ⟨fun j hj=>eqC_bytes (fun i hi=>?_) j,by rw [hpe]; (repeat first|exact trivial|refine ent1 ?_)⟩
  have hi':i<B.length+2:=by rw [hbl] at hi; exact hi
  rw [hE]
  refine app_row (l:=B) (n:=B.length) (k:=2) rfl ?_ (fun i hi=>bytesF_lt hi) (fun i hi=>?_) i hi'
  ·rfl
  ·exact rowl i (by exact hi) rfl
 have f1:decide ((r:Int)=34)=false:=decide_eq_false (by omega)
 by_cases a2:r=92
 ·have f2:decide ((r:Int)=92)=true:=decide_eq_true (by omega)
  have hE:=qr_sign (r:=r) (.inr a2)
  have hEl:(qr r).length=2:=by rw [hE]; rfl
  (repeat show _∧_;first|refine yr ?_|refine yt ?_|refine yf ?_|refine yt ?_ (by first|decide|(rw[f1];decide)|(rw[f2];decide))|refine yf ?_ (by first|decide|(rw[f1];decide)|(rw[f2];decide))|refine yo ?_)
  refine And.intro ⟨h3,by simp only [scale]; omega,by show (B.length+2)*1≤140737488355328; omega⟩ ?_
  intro c2 hc2
  (repeat show _∧_;first|refine yr ?_|refine yt ?_|refine yf ?_|refine yo ?_)
  refine ⟨(done++[r],todo,B++qr r,c2),[3,1],⟨⟨rfl,rfl,rfl⟩,?_⟩,⟨hstep,hqf _ rfl,by rw [List.length_append,hEl]; exact hc2⟩,by dsimp only; simp⟩
  have hbl:(B++qr r).length=B.length+2:=by rw [List.length_append,hEl]
  dsimp only
  (repeat first|exact trivial|refine ent1 ?_)
  refine ⟨fun j hj=>eqC_bytes (fun i hi=>?_) j,by rw [hpe]; (repeat first|exact trivial|refine ent1 ?_)⟩
  have hi':i<B.length+2:=by rw [hbl] at hi; exact hi
  rw [hE]
  refine app_row (l:=B) (n:=B.length) (k:=2) rfl ?_ (fun i hi=>bytesF_lt hi) (fun i hi=>?_) i hi'
  ·rfl
  ·exact rowl i (by exact hi) rfl
 have f2:decide ((r:Int)=92)=false:=decide_eq_false (by omega)
 by_cases b0:r=10
 ·have g0:decide ((r:Int)=10)=true:=decide_eq_true (by omega)
  have hE:=(congrArg qr b0).trans qr_n
  have hEl:(qr r).length=2:=by rw [hE]; rfl
  (repeat show _∧_;first|refine yr ?_|refine yt ?_|refine yf ?_|refine yt ?_ (by first|decide|(rw[f1];decide)|(rw[f2];decide)|(rw[g0];decide))|refine yf ?_ (by first|decide|(rw[f1];decide)|(rw[f2];decide)|(rw[g0];decide))|refine yo ?_)
  refine And.intro ⟨h3,by simp only [scale]; omega,by show (B.length+2)*1≤140737488355328; omega⟩ ?_
  intro c2 hc2
  (repeat show _∧_;first|refine yr ?_|refine yt ?_|refine yf ?_|refine yo ?_)
  refine ⟨(done++[r],todo,B++qr r,c2),[3,1],⟨⟨rfl,rfl,rfl⟩,?_⟩,⟨hstep,hqf _ rfl,by rw [List.length_append,hEl]; exact hc2⟩,by dsimp only; simp⟩
  have hbl:(B++qr r).length=B.length+2:=by rw [List.length_append,hEl]
  dsimp only
  (repeat first|exact trivial|refine ent1 ?_)
  refine ⟨fun j hj=>eqC_bytes (fun i hi=>?_) j,by rw [hpe]; (repeat first|exact trivial|refine ent1 ?_)⟩
  have hi':i<B.length+2:=by rw [hbl] at hi; exact hi
  rw [hE]
  refine app_row (l:=B) (n:=B.length) (k:=2) rfl ?_ (fun i hi=>bytesF_lt hi) (fun i hi=>?_) i hi'
  ·rfl
  ·exact rowl i (by exact hi) rfl
 have g0:decide ((r:Int)=10)=false:=decide_eq_false (by omega)
 by_cases b1:r=9
 ·have g1:decide ((r:Int)=9)=true:=decide_eq_true (by omega)
  have hE:=(congrArg qr b1).trans qr_t
  have hEl:(qr r).length=2:=by rw [hE]; rfl
  (repeat show _∧_;first|refine yr ?_|refine yt ?_|refine yf ?_|refine yt ?_ (by first|decide|(rw[f1];decide)|(rw[f2];decide)|(rw[g0];decide)|(rw[g1];decide))|refine yf ?_ (by first|decide|(rw[f1];decide)|(rw[f2];decide)|(rw[g0];decide)|(rw[g1];decide))|refine yo ?_)
  refine And.intro ⟨h3,by simp only [scale]; omega,by show (B.length+2)*1≤140737488355328; omega⟩ ?_
  intro c2 hc2
  (repeat show _∧_;first|refine yr ?_|refine yt ?_|refine yf ?_|refine yo ?_)
  refine ⟨(done++[r],todo,B++qr r,c2),[3,1],⟨⟨rfl,rfl,rfl⟩,?_⟩,⟨hstep,hqf _ rfl,by rw [List.length_append,hEl]; exact hc2⟩,by dsimp only; simp⟩
  have hbl:(B++qr r).length=B.length+2:=by rw [List.length_append,hEl]
  dsimp only
  (repeat first|exact trivial|refine ent1 ?_)
  refine ⟨fun j hj=>eqC_bytes (fun i hi=>?_) j,by rw [hpe]; (repeat first|exact trivial|refine ent1 ?_)⟩
  have hi':i<B.length+2:=by rw [hbl] at hi; exact hi
  rw [hE]
  refine app_row (l:=B) (n:=B.length) (k:=2) rfl ?_ (fun i hi=>bytesF_lt hi) (fun i hi=>?_) i hi'
  ·rfl
  ·exact rowl i (by exact hi) rfl
 have g1:decide ((r:Int)=9)=false:=decide_eq_false (by omega)
 by_cases b2:r=13
 ·have g2:decide ((r:Int)=13)=true:=decide_eq_true (by omega)
  have hE:=(congrArg qr b2).trans qr_r
  have hEl:(qr r).length=2:=by rw [hE]; rfl
  (repeat show _∧_;first|refine yr ?_|refine yt ?_|refine yf ?_|refine yt ?_ (by first|decide|(rw[f1];decide)|(rw[f2];decide)|(rw[g0];decide)|(rw[g1];decide)|(rw[g2];decide))|refine yf ?_ (by first|decide|(rw[f1];decide)|(rw[f2];decide)|(rw[g0];decide)|(rw[g1];decide)|(rw[g2];decide))|refine yo ?_)
  refine And.intro ⟨h3,by simp only [scale]; omega,by show (B.length+2)*1≤140737488355328; omega⟩ ?_
  intro c2 hc2
  (repeat show _∧_;first|refine yr ?_|refine yt ?_|refine yf ?_|refine yo ?_)
  refine ⟨(done++[r],todo,B++qr r,c2),[3,1],⟨⟨rfl,rfl,rfl⟩,?_⟩,⟨hstep,hqf _ rfl,by rw [List.length_append,hEl]; exact hc2⟩,by dsimp only; simp⟩
  have hbl:(B++qr r).length=B.length+2:=by rw [List.length_append,hEl]
  dsimp only
  (repeat first|exact trivial|refine ent1 ?_)
  refine ⟨fun j hj=>eqC_bytes (fun i hi=>?_) j,by rw [hpe]; (repeat first|exact trivial|refine ent1 ?_)⟩
  have hi':i<B.length+2:=by rw [hbl] at hi; exact hi
  rw [hE]
  refine app_row (l:=B) (n:=B.length) (k:=2) rfl ?_ (fun i hi=>bytesF_lt hi) (fun i hi=>?_) i hi'
  ·rfl
  ·exact rowl i (by exact hi) rfl
 have g2:decide ((r:Int)=13)=false:=decide_eq_false (by omega)
 have hno:¬ (r=34∨r=92):=by omega
 by_cases b3:r<32
 ·have g3:decide ((r:Int)<32)=true:=decide_eq_true (by omega)
  have hE:=qr_ctl hno b0 b1 b2 b3
  have hEl:(qr r).length=6:=by rw [hE]; rfl
  (repeat show _∧_;first|refine yr ?_|refine yt ?_|refine yf ?_|refine yt ?_ (by first|decide|(rw[f1];decide)|(rw[f2];decide)|(rw[g0];decide)|(rw[g1];decide)|(rw[g2];decide)|(rw[g3];decide))|refine yf ?_ (by first|decide|(rw[f1];decide)|(rw[f2];decide)|(rw[g0];decide)|(rw[g1];decide)|(rw[g2];decide)|(rw[g3];decide))|refine yo ?_)
  refine ⟨none,[],[(0,true),(1,true),(2,true),(3,true),(4,true),(5,true),(6,true),(7,false)],[8,9],by kernel_rfl,?_⟩
  (repeat show _∧_;first|refine yr ?_|refine yt ?_|refine yf ?_|refine yo ?_)
  refine And.intro ⟨by show 0≤(r:Int) / 2 ^ 4; omega,by show (r:Int) / 2 ^ 4<16; omega⟩ ?_
  (repeat show _∧_;first|refine yr ?_|refine yt ?_|refine yf ?_|refine yo ?_)
  refine And.intro ⟨by omega,by show (((((r:Int)).toNat &&& ((15:Int)).toNat:Nat):Int))<16; have:=Nat.and_le_right (n:=((r:Int)).toNat) (m:=((15:Int)).toNat); have h15:((15:Int)).toNat=15:=rfl; omega⟩ ?_
  (repeat show _∧_;first|refine yr ?_|refine yt ?_|refine yf ?_|refine yo ?_)
  refine And.intro ⟨h3,by simp only [scale]; omega,by show (B.length+6)*1≤140737488355328; omega⟩ ?_
  intro c2 hc2
  (repeat show _∧_;first|refine yr ?_|refine yt ?_|refine yf ?_|refine yo ?_)
  refine ⟨(done++[r],todo,B++qr r,c2),[3,1],⟨⟨rfl,rfl,rfl⟩,?_⟩,⟨hstep,hqf _ rfl,by rw [List.length_append,hEl]; exact hc2⟩,by dsimp only; simp⟩
  have hbl:(B++qr r).length=B.length+6:=by rw [List.length_append,hEl]
  dsimp only
  (repeat first|exact trivial|refine ent1 ?_)
  refine ⟨fun j hj=>eqC_bytes (fun i hi=>?_) j,by rw [hpe]; (repeat first|exact trivial|refine ent1 ?_)⟩
  have hi':i<B.length+6:=by rw [hbl] at hi; exact hi
  rw [hE]
  refine app_row (l:=B) (n:=B.length) (k:=6) rfl ?_ (fun i hi=>bytesF_lt hi) (fun i hi=>?_) i hi'
  ·rfl
  ·exact rowl i (by exact hi) rfl
 have g3:decide ((r:Int)<32)=false:=decide_eq_false (by omega)
 have hE:=qr_enc hno b0 b1 b2 b3
 rw [hE] at hsplit hqf
 (repeat show _∧_;first|refine yr ?_|refine yt ?_|refine yf ?_|refine yt ?_ (by first|decide|(rw[f1];decide)|(rw[f2];decide)|(rw[g0];decide)|(rw[g1];decide)|(rw[g2];decide)|(rw[g3];decide))|refine yf ?_ (by first|decide|(rw[f1];decide)|(rw[f2];decide)|(rw[g0];decide)|(rw[g1];decide)|(rw[g2];decide)|(rw[g3];decide))|refine yo ?_)
 refine call_same (fn_arune B c (by omega) h3 hr) [0] rfl (by (repeat first|exact trivial|refine ent1 ?_)) (by (repeat first|exact trivial|refine ent1 ?_)) (fun _ _=>trivial) ?_
 rintro x hs' ⟨c2,q1,rfl,rfl⟩
 refine ⟨(done++[r],todo,B++enc r,c2),[2,1],⟨⟨rfl,rfl,rfl⟩,?_⟩,⟨hstep,hqf _ rfl,q1⟩,by dsimp only; simp⟩
 dsimp only
 rw [hpe]
 (repeat first|exact trivial|refine ent1 ?_)
set_option maxRecDepth 20000 in
set_option maxHeartbeats 16000000 in
theorem fn_quote (b:Bs) (c:Nat) (hc:b.length≤c) {s:Bs} (hu:Utf s) (hb:b.length+(quote s).length≤70368744177664):Fn Tryd.prog tds 63 [lsC b c] [.c (.sl 0 0 0 b.length c),.c (.str (U8 s))] (fun _=>True)
  (fun x hs=>∃ c',(b++quote s).length≤c'∧x=.a (.c (.sl 1 0 0 (b++quote s).length c'))∧hs=[[],lsC (b++quote s) c']):=by
 refine fn_of_body tds_ok follows_ Tryd.func63 rfl (t:=.a (.c (.sl 0 0 0 b.length c))::.a (.c (.str (U8 s)))::anys (Tryd.f63.ntmps-2)) rfl (fun w r0 hr _=>?_)
 obtain ⟨x0,rfl⟩:∃ a,r0=[a]:=List.length_eq_one_iff.1 hr
 obtain ⟨rs,hrs,hs⟩:=hu
 have hq:quote s=34#8::(rs.flatMap qr++[34#8]):=by rw [hs]; exact quote_of hrs
 obtain ⟨T,hTl⟩:∃ T,(rs.flatMap qr).length=T:=⟨_,rfl⟩
 have hql:(quote s).length=T+2:=by rw [hq]; simp only [List.length_cons,List.length_append,hTl,List.length_nil]
 (repeat show _∧_;first|refine yr ?_|refine yt ?_|refine yf ?_|refine yo ?_)
 refine And.intro ⟨hc,by simp only [scale]; omega,by show (b.length+1)*1≤140737488355328; omega⟩ ?_
 intro c1 hc1
 (repeat show _∧_;first|refine yr ?_|refine yt ?_|refine yf ?_|refine yo ?_)
 refine .inl ⟨List Nat × List Nat × Bs × Nat,fun x=>match x with|(done,todo,B,c)=>⟨[.a (.c (.sl 1 0 0 B.length c)),.a (.c (.str ((U8 s)))),.any,.any,.a (.c (.slc none 0 0)),.any,.any,.any,.any,.any,.any,.a (.c (.ih 2)),.any,.any,.any,.any,.any,.any,.any,.any,.any,.any,.any,.any,.any,.any,.any,.any,.any,.any,.any,.any,.any,.any,.any,.any,.any,.any,.any,.any,.any,.any,.any,.any,.any,.any,.any,.any,.any,.any,.any,.any,.any,.any,.any,.any,.any,.any,.any,.any,.any,.any,.any],[[],lsC B c,[.obj (.it (U8 s) ((done.flatMap enc).length))]]⟩,
  fun x=>match x with|(done,todo,B,c)=>rs=done++todo∧B=b++34#8::done.flatMap qr∧B.length≤c,fun x=>x.2.1.length,⟨([],rs,b++[34#8],c1),[0,2,3],⟨⟨rfl,rfl,rfl⟩,?_⟩,rfl,rfl,by rw [List.length_append]; exact hc1⟩,fun x hx=>?_⟩
 ·(repeat first|exact trivial|refine ent1 ?_)
  refine And.intro (show b.length+1=(b++[34#8]).length by rw [List.length_append]; rfl) ?_
  (repeat first|exact trivial|refine ent1 ?_)
  refine ⟨fun j hj=>eqC_bytes (fun i hi=>?_) j,by (repeat first|exact trivial|refine ent1 ?_)⟩
  have hi':i<b.length+1:=by rw [List.length_append] at hi; exact hi
  refine app_row (l:=b) (n:=b.length) (k:=1) rfl ?_ (fun i hi=>bytesF_lt hi) (fun i hi=>?_) i hi'
  ·rfl
  ·exact rowl i (by exact hi) rfl
 obtain ⟨done,todo,B,c⟩:=x
 obtain ⟨h1,h2,h3⟩:=hx
 dsimp only
 have hBl:B.length=b.length+(done.flatMap qr).length+1:=by rw [h2]; simp only [List.length_append,List.length_cons]; omega
 have hsplit:(done.flatMap qr).length+(todo.flatMap qr).length=T:=by rw [← hTl,h1,List.flatMap_append,List.length_append]
 have hsd:s=done.flatMap enc++todo.flatMap enc:=by rw [hs,h1,List.flatMap_append]
 rcases todo with _|⟨r,todo⟩
 ·have hpos:¬ (done.flatMap enc).length<(U8 s).length:=by rw [U8_len,hsd]; simp
  refine And.intro (fun h=>absurd h hpos) (fun _=>?_)
  (repeat show _∧_;first|refine yr ?_|refine yt ?_|refine yf ?_|refine yo ?_)
  refine And.intro ⟨h3,by simp only [scale]; omega,by show (B.length+1)*1≤140737488355328; omega⟩ ?_
  intro c2 hc2
  (repeat show _∧_;first|refine yr ?_|refine yt ?_|refine yf ?_|refine yo ?_)
  have hfull:(b++quote s)=B++[34#8]:=by
   rw [h2,hq,h1]; simp
  rw [hfull]
  refine ⟨.a (.c (.sl 1 0 0 (B++[34#8]).length c2)),_,⟨[0,4],⟨rfl,rfl,rfl⟩,?_⟩,c2,by rw [List.length_append]; exact hc2,rfl,rfl⟩
  (repeat first|exact trivial|refine ent1 ?_)
  refine And.intro (show B.length+1=(B++[34#8]).length by rw [List.length_append]; rfl) ?_
  (repeat first|exact trivial|refine ent1 ?_)
  refine ⟨fun j hj=>eqC_bytes (fun i hi=>?_) j,by (repeat first|exact trivial|refine ent1 ?_)⟩
  have hi':i<B.length+1:=by rw [List.length_append] at hi; exact hi
  refine app_row (l:=B) (n:=B.length) (k:=1) rfl ?_ (fun i hi=>bytesF_lt hi) (fun i hi=>?_) i hi'
  ·rfl
  ·exact rowl i (by exact hi) rfl
 have hr:scal r:=hrs r (by rw [h1]; exact List.mem_append_right _ (List.mem_cons_self ..))
 have hri:=scal_i hr
 have hep:=enc_pos r
 have hpos:(done.flatMap enc).length<(U8 s).length:=by rw [U8_len,hsd]; simp only [List.length_append,List.flatMap_cons]; omega
 have hdec:Utf8.decode ⟨(U8 s).toArray⟩ ((done.flatMap enc).length)=(r,(enc r).length):=by
  rw [decode_U8]
  conv=>lhs; rw [hsd]
  rw [List.drop_left,List.flatMap_cons]
  exact dec_enc hr _
 have hstep:rs=(done++[r])++todo:=by rw [h1]; simp
 have hqf:∀ W:Bs,W=B++qr r→W=b++34#8::(done++[r]).flatMap qr:=fun W h=>by rw [h,h2]; simp
 have hpe:((done++[r]).flatMap enc).length=(done.flatMap enc).length+(enc r).length:=by simp
 rw [List.flatMap_cons,List.length_append] at hsplit
 refine And.intro (fun _=>?_) (fun h=>absurd hpos h)
 rw [show (Utf8.decode ⟨(U8 s).toArray⟩ ((done.flatMap enc).length)).1=r by rw [hdec],show (Utf8.decode ⟨(U8 s).toArray⟩ ((done.flatMap enc).length)).2=(enc r).length by rw [hdec]]
 by_cases a1:r=34
 ·have f1:decide ((r:Int)=34)=true:=decide_eq_true (by omega)
  have hE:=qr_sign (r:=r) (.inl a1)
  have hEl:(qr r).length=2:=by rw [hE]; rfl
  (repeat show _∧_;first|refine yr ?_|refine yt ?_|refine yf ?_|refine yt ?_ (by first|decide|(rw[f1];decide))|refine yf ?_ (by first|decide|(rw[f1];decide))|refine yo ?_)
  refine And.intro ⟨h3,by simp only [scale]; omega,by show (B.length+2)*1≤140737488355328; omega⟩ ?_
  intro c2 hc2
  (repeat show _∧_;first|refine yr ?_|refine yt ?_|refine yf ?_|refine yo ?_)
  refine ⟨(done++[r],todo,B++qr r,c2),[0,4,2],⟨⟨rfl,rfl,rfl⟩,?_⟩,⟨hstep,hqf _ rfl,by rw [List.length_append,hEl]; exact hc2⟩,by dsimp only; simp⟩
  have hbl:(B++qr r).length=B.length+2:=by rw [List.length_append,hEl]
  dsimp only
  (repeat first|exact trivial|refine ent1 ?_)
  refine ⟨fun j hj=>eqC_bytes (fun i hi=>?_) j,by rw [hpe]; (repeat first|exact trivial|refine ent1 ?_)⟩
  have hi':i<B.length+2:=by rw [hbl] at hi; exact hi
  rw [hE]
  refine app_row (l:=B) (n:=B.length) (k:=2) rfl ?_ (fun i hi=>bytesF_lt hi) (fun i hi=>?_) i hi'
  ·rfl
  ·exact rowl i (by exact hi) rfl
 have f1:decide ((r:Int)=34)=false:=decide_eq_false (by omega)
 by_cases a2:r=92
 ·have f2:decide ((r:Int)=92)=true:=decide_eq_true (by omega)
  have hE:=qr_sign (r:=r) (.inr a2)
  have hEl:(qr r).length=2:=by rw [hE]; rfl
  (repeat show _∧_;first|refine yr ?_|refine yt ?_|refine yf ?_|refine yt ?_ (by first|decide|(rw[f1];decide)|(rw[f2];decide))|refine yf ?_ (by first|decide|(rw[f1];decide)|(rw[f2];decide))|refine yo ?_)
  refine And.intro ⟨h3,by simp only [scale]; omega,by show (B.length+2)*1≤140737488355328; omega⟩ ?_
  intro c2 hc2
  (repeat show _∧_;first|refine yr ?_|refine yt ?_|refine yf ?_|refine yo ?_)
  refine ⟨(done++[r],todo,B++qr r,c2),[0,4,2],⟨⟨rfl,rfl,rfl⟩,?_⟩,⟨hstep,hqf _ rfl,by rw [List.length_append,hEl]; exact hc2⟩,by dsimp only; simp⟩
  have hbl:(B++qr r).length=B.length+2:=by rw [List.length_append,hEl]
  dsimp only
  (repeat first|exact trivial|refine ent1 ?_)
  refine ⟨fun j hj=>eqC_bytes (fun i hi=>?_) j,by rw [hpe]; (repeat first|exact trivial|refine ent1 ?_)⟩
  have hi':i<B.length+2:=by rw [hbl] at hi; exact hi
  rw [hE]
  refine app_row (l:=B) (n:=B.length) (k:=2) rfl ?_ (fun i hi=>bytesF_lt hi) (fun i hi=>?_) i hi'
  ·rfl
  ·exact rowl i (by exact hi) rfl
 have f2:decide ((r:Int)=92)=false:=decide_eq_false (by omega)
 by_cases b0:r=10
 ·have g0:decide ((r:Int)=10)=true:=decide_eq_true (by omega)
  have hE:=(congrArg qr b0).trans qr_n
  have hEl:(qr r).length=2:=by rw [hE]; rfl
  (repeat show _∧_;first|refine yr ?_|refine yt ?_|refine yf ?_|refine yt ?_ (by first|decide|(rw[f1];decide)|(rw[f2];decide)|(rw[g0];decide))|refine yf ?_ (by first|decide|(rw[f1];decide)|(rw[f2];decide)|(rw[g0];decide))|refine yo ?_)
  refine And.intro ⟨h3,by simp only [scale]; omega,by show (B.length+2)*1≤140737488355328; omega⟩ ?_
  intro c2 hc2
  (repeat show _∧_;first|refine yr ?_|refine yt ?_|refine yf ?_|refine yo ?_)
  refine ⟨(done++[r],todo,B++qr r,c2),[0,4,2],⟨⟨rfl,rfl,rfl⟩,?_⟩,⟨hstep,hqf _ rfl,by rw [List.length_append,hEl]; exact hc2⟩,by dsimp only; simp⟩
  have hbl:(B++qr r).length=B.length+2:=by rw [List.length_append,hEl]
  dsimp only
  (repeat first|exact trivial|refine ent1 ?_)
  refine ⟨fun j hj=>eqC_bytes (fun i hi=>?_) j,by rw [hpe]; (repeat first|exact trivial|refine ent1 ?_)⟩
  have hi':i<B.length+2:=by rw [hbl] at hi; exact hi
  rw [hE]
  refine app_row (l:=B) (n:=B.length) (k:=2) rfl ?_ (fun i hi=>bytesF_lt hi) (fun i hi=>?_) i hi'
  ·rfl
  ·exact rowl i (by exact hi) rfl
 have g0:decide ((r:Int)=10)=false:=decide_eq_false (by omega)
 by_cases b1:r=9
 ·have g1:decide ((r:Int)=9)=true:=decide_eq_true (by omega)
  have hE:=(congrArg qr b1).trans qr_t
  have hEl:(qr r).length=2:=by rw [hE]; rfl
  (repeat show _∧_;first|refine yr ?_|refine yt ?_|refine yf ?_|refine yt ?_ (by first|decide|(rw[f1];decide)|(rw[f2];decide)|(rw[g0];decide)|(rw[g1];decide))|refine yf ?_ (by first|decide|(rw[f1];decide)|(rw[f2];decide)|(rw[g0];decide)|(rw[g1];decide))|refine yo ?_)
  refine And.intro ⟨h3,by simp only [scale]; omega,by show (B.length+2)*1≤140737488355328; omega⟩ ?_
  intro c2 hc2
  (repeat show _∧_;first|refine yr ?_|refine yt ?_|refine yf ?_|refine yo ?_)
  refine ⟨(done++[r],todo,B++qr r,c2),[0,4,2],⟨⟨rfl,rfl,rfl⟩,?_⟩,⟨hstep,hqf _ rfl,by rw [List.length_append,hEl]; exact hc2⟩,by dsimp only; simp⟩
  have hbl:(B++qr r).length=B.length+2:=by rw [List.length_append,hEl]
  dsimp only
  (repeat first|exact trivial|refine ent1 ?_)
  refine ⟨fun j hj=>eqC_bytes (fun i hi=>?_) j,by rw [hpe]; (repeat first|exact trivial|refine ent1 ?_)⟩
  have hi':i<B.length+2:=by rw [hbl] at hi; exact hi
  rw [hE]
  refine app_row (l:=B) (n:=B.length) (k:=2) rfl ?_ (fun i hi=>bytesF_lt hi) (fun i hi=>?_) i hi'
  ·rfl
  ·exact rowl i (by exact hi) rfl
 have g1:decide ((r:Int)=9)=false:=decide_eq_false (by omega)
 by_cases b2:r=13
 ·have g2:decide ((r:Int)=13)=true:=decide_eq_true (by omega)
  have hE:=(congrArg qr b2).trans qr_r
  have hEl:(qr r).length=2:=by rw [hE]; rfl
  (repeat show _∧_;first|refine yr ?_|refine yt ?_|refine yf ?_|refine yt ?_ (by first|decide|(rw[f1];decide)|(rw[f2];decide)|(rw[g0];decide)|(rw[g1];decide)|(rw[g2];decide))|refine yf ?_ (by first|decide|(rw[f1];decide)|(rw[f2];decide)|(rw[g0];decide)|(rw[g1];decide)|(rw[g2];decide))|refine yo ?_)
  refine And.intro ⟨h3,by simp only [scale]; omega,by show (B.length+2)*1≤140737488355328; omega⟩ ?_
  intro c2 hc2
  (repeat show _∧_;first|refine yr ?_|refine yt ?_|refine yf ?_|refine yo ?_)
  refine ⟨(done++[r],todo,B++qr r,c2),[0,4,2],⟨⟨rfl,rfl,rfl⟩,?_⟩,⟨hstep,hqf _ rfl,by rw [List.length_append,hEl]; exact hc2⟩,by dsimp only; simp⟩
  have hbl:(B++qr r).length=B.length+2:=by rw [List.length_append,hEl]
  dsimp only
  (repeat first|exact trivial|refine ent1 ?_)
  refine ⟨fun j hj=>eqC_bytes (fun i hi=>?_) j,by rw [hpe]; (repeat first|exact trivial|refine ent1 ?_)⟩
  have hi':i<B.length+2:=by rw [hbl] at hi; exact hi
  rw [hE]
  refine app_row (l:=B) (n:=B.length) (k:=2) rfl ?_ (fun i hi=>bytesF_lt hi) (fun i hi=>?_) i hi'
  ·rfl
  ·exact rowl i (by exact hi) rfl
 have g2:decide ((r:Int)=13)=false:=decide_eq_false (by omega)
 have hno:¬ (r=34∨r=92):=by omega
 by_cases b3:r<32
 ·have g3:decide ((r:Int)<32)=true:=decide_eq_true (by omega)
  have hE:=qr_ctl hno b0 b1 b2 b3
  have hEl:(qr r).length=6:=by rw [hE]; rfl
  (repeat show _∧_;first|refine yr ?_|refine yt ?_|refine yf ?_|refine yt ?_ (by first|decide|(rw[f1];decide)|(rw[f2];decide)|(rw[g0];decide)|(rw[g1];decide)|(rw[g2];decide)|(rw[g3];decide))|refine yf ?_ (by first|decide|(rw[f1];decide)|(rw[f2];decide)|(rw[g0];decide)|(rw[g1];decide)|(rw[g2];decide)|(rw[g3];decide))|refine yo ?_)
  refine ⟨none,[],[(0,true),(1,true),(2,true),(3,true),(4,true),(5,true),(6,true),(7,false)],[8,9],by kernel_rfl,?_⟩
  (repeat show _∧_;first|refine yr ?_|refine yt ?_|refine yf ?_|refine yo ?_)
  refine And.intro ⟨by show 0≤(r:Int) / 2 ^ 4; omega,by show (r:Int) / 2 ^ 4<16; omega⟩ ?_
  (repeat show _∧_;first|refine yr ?_|refine yt ?_|refine yf ?_|refine yo ?_)
  refine And.intro ⟨by omega,by show (((((r:Int)).toNat &&& ((15:Int)).toNat:Nat):Int))<16; have:=Nat.and_le_right (n:=((r:Int)).toNat) (m:=((15:Int)).toNat); have h15:((15:Int)).toNat=15:=rfl; omega⟩ ?_
  (repeat show _∧_;first|refine yr ?_|refine yt ?_|refine yf ?_|refine yo ?_)
  refine And.intro ⟨h3,by simp only [scale]; omega,by show (B.length+6)*1≤140737488355328; omega⟩ ?_
  intro c2 hc2
  (repeat show _∧_;first|refine yr ?_|refine yt ?_|refine yf ?_|refine yo ?_)
  refine ⟨(done++[r],todo,B++qr r,c2),[0,4,2],⟨⟨rfl,rfl,rfl⟩,?_⟩,⟨hstep,hqf _ rfl,by rw [List.length_append,hEl]; exact hc2⟩,by dsimp only; simp⟩
  have hbl:(B++qr r).length=B.length+6:=by rw [List.length_append,hEl]
  dsimp only
  (repeat first|exact trivial|refine ent1 ?_)
  refine ⟨fun j hj=>eqC_bytes (fun i hi=>?_) j,by rw [hpe]; (repeat first|exact trivial|refine ent1 ?_)⟩
  have hi':i<B.length+6:=by rw [hbl] at hi; exact hi
  rw [hE]
  refine app_row (l:=B) (n:=B.length) (k:=6) rfl ?_ (fun i hi=>bytesF_lt hi) (fun i hi=>?_) i hi'
  ·rfl
  ·exact rowl i (by exact hi) rfl
 have g3:decide ((r:Int)<32)=false:=decide_eq_false (by omega)
 have hE:=qr_enc hno b0 b1 b2 b3
 rw [hE] at hsplit hqf
 (repeat show _∧_;first|refine yr ?_|refine yt ?_|refine yf ?_|refine yt ?_ (by first|decide|(rw[f1];decide)|(rw[f2];decide)|(rw[g0];decide)|(rw[g1];decide)|(rw[g2];decide)|(rw[g3];decide))|refine yf ?_ (by first|decide|(rw[f1];decide)|(rw[f2];decide)|(rw[g0];decide)|(rw[g1];decide)|(rw[g2];decide)|(rw[g3];decide))|refine yo ?_)
 refine call_same (fn_arune B c (by omega) h3 hr) [1] rfl (by (repeat first|exact trivial|refine ent1 ?_)) (by (repeat first|exact trivial|refine ent1 ?_)) (fun _ _=>trivial) ?_
 rintro x hs' ⟨c2,q1,rfl,rfl⟩
 refine ⟨(done++[r],todo,B++enc r,c2),[0,3,2],⟨⟨rfl,rfl,rfl⟩,?_⟩,⟨hstep,hqf _ rfl,q1⟩,by dsimp only; simp⟩
 dsimp only
 rw [hpe]
 (repeat first|exact trivial|refine ent1 ?_)
end Sx
end
section
namespace Js
open Sha
theorem putL_snoc (pv:JT→Bs) (x:JT):∀ (l:List JT),l≠[]→putL pv (l++[x])=putL pv l++44#8::pv x
 | [],h=>absurd rfl h
 | [y],_=>rfl
 | y::z::l,_=>by
  show pv y++44#8::putL pv ((z::l)++[x])=(pv y++44#8::putL pv (z::l))++44#8::pv x
  rw [putL_snoc pv x (z::l) (by simp)]
  simp
theorem putL_one (pv:JT→Bs) (x:JT):putL pv ([]++[x])=pv x:=rfl
theorem putL_le (pv:JT→Bs):∀ (l:List JT) (j:Nat),(putL pv (l.take j)).length≤(putL pv l).length
 | _,0=>by rw [List.take_zero]; exact Nat.zero_le _
 | [],j+1=>by simp
 | [y],j+1=>by simp
 | y::z::l,1=>by simp [putL]
 | y::z::l,j+2=>by
  have:=putL_le pv (z::l) (j+1)
  show (pv y++44#8::putL pv ((z::l).take (j+1))).length≤(pv y++44#8::putL pv (z::l)).length
  rw [List.length_append,List.length_append,List.length_cons,List.length_cons]
  omega
theorem putO_snoc (pv:JT→Bs) (s:Bs) (x:JT):∀ (ns:List Bs) (l:List JT),l≠[]→ns.length=l.length→putO pv (ns++[s]) (l++[x])=putO pv ns l++44#8::(quote s++58#8::pv x)
 | _,[],h,_=>absurd rfl h
 | [],y::l,_,h=>by cases h
 | [t],[y],_,_=>by
  show quote t++58#8::(pv y++44#8::(quote s++58#8::pv x))=(quote t++58#8::pv y)++44#8::(quote s++58#8::pv x)
  simp
 | t::u::ns,y::z::l,_,h=>by
  show quote t++58#8::(pv y++44#8::putO pv ((u::ns)++[s]) ((z::l)++[x]))=(quote t++58#8::(pv y++44#8::putO pv (u::ns) (z::l)))++44#8::(quote s++58#8::pv x)
  rw [putO_snoc pv s x (u::ns) (z::l) (by simp) (by simpa using h)]
  simp
theorem putO_one (pv:JT→Bs) (s:Bs) (x:JT):putO pv ([]++[s]) ([]++[x])=quote s++58#8::pv x:=rfl
theorem putO_le (pv:JT→Bs):∀ (ns:List Bs) (l:List JT) (j:Nat),ns.length=l.length→(putO pv (ns.take j) (l.take j)).length≤(putO pv ns l).length
 | ns,l,0,_=>by rw [List.take_zero,List.take_zero]; exact Nat.zero_le _
 | ns,[],j+1,h=>by
  obtain rfl:ns=[]:=List.eq_nil_of_length_eq_zero h
  simp
 | [],y::l,j+1,h=>by cases h
 | [s],[y],j+1,_=>by simp
 | s::t::ns,y::z::l,1,_=>by simp [putO]
 | s::t::ns,y::z::l,j+2,h=>by
  have:=putO_le pv (t::ns) (z::l) (j+1) (by simpa using h)
  show (quote s++58#8::(pv y++44#8::putO pv ((t::ns).take (j+1)) ((z::l).take (j+1)))).length≤(quote s++58#8::(pv y++44#8::putO pv (t::ns) (z::l))).length
  simp only [List.length_append,List.length_cons] at this ⊢
  omega
 | [_],_::_::_,j+1,h=>by simp at h
 | _::_::_,[_],j+1,h=>by simp at h
theorem putL_step (pv:JT→Bs) (l:List JT) (j:Nat) (h:j<l.length) (b:Bs):b++putL pv (l.take (j+1))=(if j=0 then b else b++putL pv (l.take j)++[44#8])++pv (l[j]):=by
 rw [List.take_add_one,List.getElem?_eq_getElem h,Option.toList_some]
 by_cases h0:j=0
 ·subst h0
  rw [if_pos rfl,List.take_zero,putL_one]
 ·rw [if_neg h0,putL_snoc _ _ _ (by intro e; rw [← List.length_eq_zero_iff,List.length_take] at e; omega)]
  simp
theorem putO_step (pv:JT→Bs) (ns:List Bs) (l:List JT) (j:Nat) (h:j<l.length) (h2:ns.length=l.length) (b:Bs):b++putO pv (ns.take (j+1)) (l.take (j+1))=((if j=0 then b else b++putO pv (ns.take j) (l.take j)++[44#8])++quote (ns[j]'(by omega))++[58#8])++pv (l[j]):=by
 rw [List.take_add_one,List.take_add_one,List.getElem?_eq_getElem h,List.getElem?_eq_getElem (by omega:j<ns.length),Option.toList_some,Option.toList_some]
 by_cases h0:j=0
 ·subst h0
  rw [if_pos rfl,List.take_zero,List.take_zero,putO_one]
  simp
 ·rw [if_neg h0,putO_snoc _ _ _ _ _ (by intro e; rw [← List.length_eq_zero_iff,List.length_take] at e; omega) (by rw [List.length_take,List.length_take,h2])]
  simp
end Js
namespace Sx
open Go.RowKit Sha Vi Js

theorem bytesM_lt {g:Nat→Nat} {n:Nat} {b:Nat→BitVec 8} {i:Nat} (h:i<n):SC.mp g (bytesF n b i)=.w8 (b i):=by rw [bytesF_lt h]; rfl
theorem rowu {l:List UInt8} {m:Bs} (e:l=U8 m) (i:Nat) (hi:i<m.length):SC.w8 (l.getD i 0).toBitVec=.w8 (L m i):=by
 subst e; exact row_U8 i hi
def PutC (d:Nat):Prop:=∀ (W:World) (ms:List Nat) (v:JT) (x:JC) (b:Bs) (c:Nat),Tabs W ms→TAt W ms d v x→norm d v→b.length≤c→b.length+(put d v).length≤70368744177664 →
 FnR Tryd.prog tds 45 1 [[.past W ms],lsC b c] [.agg (jvS v x),.c (.sl 1 0 0 b.length c)] (fun _=>True)
  (fun y hs=>∃ c',(b++put d v).length≤c'∧y=.a (.c (.sl 2 0 0 (b++put d v).length c'))∧hs=[[.past W ms],[],lsC (b++put d v) c'])
set_option maxRecDepth 20000 in
set_option maxHeartbeats 32000000 in
theorem fn_put0 (d:Nat) (hrec:∀ d',d=d'+1→PutC d') {W:World} {ms:List Nat} {v:JT} {x:JC} (hT:Tabs W ms) (hx:TAt W ms d v x) (hn:norm d v) (hl:(put d v).length≤70368744177664) :
  FnR Tryd.prog tds 45 1 [[.past W ms]] [.agg (jvS v x),.c (.slc none 0 0)] (fun _=>True)
  (fun y hs=>∃ c',(put d v).length≤c'∧y=.a (.c (.sl 1 0 0 (put d v).length c'))∧hs=[[.past W ms],lsC (put d v) c']):=by
 refine fn_of_body tds_ok follows_ Tryd.func45 rfl (t:=.a (.agg (jvS v x))::.a (.c (.slc none 0 0))::anys (Tryd.f45.ntmps-2)) rfl (fun w r0 hr0 _=>?_)
 obtain ⟨x0,rfl⟩:=len1' hr0
 obtain ⟨pl,po,hpv,hcs⟩:∃ pl po,put d v=put1 pl po v∧(leaf v∨∃ d',d=d'+1∧pl=putL (put d')∧po=putO (put d')∧v.n=0#64∧v.s=[]∧(∀ x∈v.l,norm d' x)∧((v.k=5#8∧v.ns=[])∨(v.k=6#8∧v.ns.length=v.l.length∧v.ns.Nodup∧∀ s∈v.ns,Utf s))):=by
  cases d with
  | zero=>exact ⟨_,_,rfl,.inl hn⟩
  | succ d=>exact ⟨_,_,rfl,hn.imp_right fun h=>⟨d,rfl,rfl,rfl,h⟩⟩
 by_cases k0:v.k=0#8
 ·have f0:decide (v.k=0#8)=true:=decide_eq_true k0
  have hp:put d v=[110#8,117#8,108#8,108#8]:=by rw [hpv]; unfold put1; rw [if_pos k0]
  rw [hp] at hl ⊢
  (repeat show _∧_;first|refine yr ?_|refine yt ?_|refine yf ?_|refine ya f0 ?_|refine yb f0 ?_|refine yo ?_)
  intro c' hc'
  (repeat show _∧_;first|refine yr ?_|refine yt ?_|refine yf ?_|refine yo ?_)
  refine ⟨.a (.c (.sl 1 0 0 4 c')),_,⟨[0,2],⟨rfl,rfl,rfl⟩,?_⟩,c',hc',rfl,rfl⟩
  (repeat first|exact trivial|refine ent1 ?_)
  refine ⟨fun j' hj'=>eqC_bytes (fun i hi=>?_) j',by (repeat first|exact trivial|refine ent1 ?_)⟩
  exact new_row (m:=[110#8,117#8,108#8,108#8]) (fun i hi=>rowu rfl i (by exact hi)) i hi
 have f0:decide (v.k=0#8)=false:=decide_eq_false k0
 by_cases k1:v.k=1#8
 ·have f1:decide (v.k=1#8)=true:=decide_eq_true k1
  have hp:put d v=[102#8,97#8,108#8,115#8,101#8]:=by rw [hpv]; unfold put1; rw [if_neg k0]; rw [if_pos k1]
  rw [hp] at hl ⊢
  (repeat show _∧_;first|refine yr ?_|refine yt ?_|refine yf ?_|refine ya f0 ?_|refine yb f0 ?_|refine ya f1 ?_|refine yb f1 ?_|refine yo ?_)
  intro c' hc'
  (repeat show _∧_;first|refine yr ?_|refine yt ?_|refine yf ?_|refine yo ?_)
  refine ⟨.a (.c (.sl 1 0 0 5 c')),_,⟨[0,2],⟨rfl,rfl,rfl⟩,?_⟩,c',hc',rfl,rfl⟩
  (repeat first|exact trivial|refine ent1 ?_)
  refine ⟨fun j' hj'=>eqC_bytes (fun i hi=>?_) j',by (repeat first|exact trivial|refine ent1 ?_)⟩
  exact new_row (m:=[102#8,97#8,108#8,115#8,101#8]) (fun i hi=>rowu rfl i (by exact hi)) i hi
 have f1:decide (v.k=1#8)=false:=decide_eq_false k1
 by_cases k2:v.k=2#8
 ·have f2:decide (v.k=2#8)=true:=decide_eq_true k2
  have hp:put d v=[116#8,114#8,117#8,101#8]:=by rw [hpv]; unfold put1; rw [if_neg k0]; rw [if_neg k1]; rw [if_pos k2]
  rw [hp] at hl ⊢
  (repeat show _∧_;first|refine yr ?_|refine yt ?_|refine yf ?_|refine ya f0 ?_|refine yb f0 ?_|refine ya f1 ?_|refine yb f1 ?_|refine ya f2 ?_|refine yb f2 ?_|refine yo ?_)
  intro c' hc'
  (repeat show _∧_;first|refine yr ?_|refine yt ?_|refine yf ?_|refine yo ?_)
  refine ⟨.a (.c (.sl 1 0 0 4 c')),_,⟨[0,2],⟨rfl,rfl,rfl⟩,?_⟩,c',hc',rfl,rfl⟩
  (repeat first|exact trivial|refine ent1 ?_)
  refine ⟨fun j' hj'=>eqC_bytes (fun i hi=>?_) j',by (repeat first|exact trivial|refine ent1 ?_)⟩
  exact new_row (m:=[116#8,114#8,117#8,101#8]) (fun i hi=>rowu rfl i (by exact hi)) i hi
 have f2:decide (v.k=2#8)=false:=decide_eq_false k2
 by_cases k3:v.k=3#8
 ·have f3:decide (v.k=3#8)=true:=decide_eq_true k3
  have hp:put d v=dig v.n.toNat:=by rw [hpv]; unfold put1; rw [if_neg k0,if_neg k1,if_neg k2,if_pos k3]
  rw [hp] at hl ⊢
  (repeat show _∧_;first|refine yr ?_|refine yt ?_|refine yf ?_|refine ya f0 ?_|refine yb f0 ?_|refine ya f1 ?_|refine yb f1 ?_|refine ya f2 ?_|refine yb f2 ?_|refine ya f3 ?_|refine yb f3 ?_|refine yo ?_)
  refine call_same (fn_uint0 hT v.n) [0] rfl (by exact And.intro rfl (And.intro rfl (And.intro rfl trivial))) (by (repeat first|exact trivial|refine ent1 ?_)) (fun _ _=>trivial) ?_
  rintro y hs ⟨c',hc',rfl,rfl⟩
  (repeat show _∧_;first|refine yr ?_|refine yt ?_|refine yf ?_|refine yo ?_)
  exact ⟨.a (.c (.sl 1 0 0 (dig v.n.toNat).length c')),_,⟨[0,2],⟨rfl,rfl,rfl⟩,by (repeat first|exact trivial|refine ent1 ?_)⟩,c',hc',rfl,rfl⟩
 have f3:decide (v.k=3#8)=false:=decide_eq_false k3
 by_cases k4:v.k=4#8
 ·have f4:decide (v.k=4#8)=true:=decide_eq_true k4
  have hp:put d v=quote v.s:=by rw [hpv]; unfold put1; rw [if_neg k0,if_neg k1,if_neg k2,if_neg k3,if_pos k4]
  have hU:Utf v.s:=by
   rcases hcs with hlf|⟨_,_,_,_,_,_,_,h5|h6⟩
   ·exact hlf.2.2.2.2.2
   ·exact absurd (k4.symm.trans h5.1) (by decide)
   ·exact absurd (k4.symm.trans h6.1) (by decide)
  rw [hp] at hl ⊢
  (repeat show _∧_;first|refine yr ?_|refine yt ?_|refine yf ?_|refine ya f0 ?_|refine yb f0 ?_|refine ya f1 ?_|refine yb f1 ?_|refine ya f2 ?_|refine yb f2 ?_|refine ya f3 ?_|refine yb f3 ?_|refine ya f4 ?_|refine yb f4 ?_|refine yo ?_)
  refine call_same (fn_quote0 hU hl) [] rfl (by exact And.intro rfl (And.intro rfl trivial)) trivial (fun _ _=>trivial) ?_
  rintro y hs ⟨c',hc',rfl,rfl⟩
  (repeat show _∧_;first|refine yr ?_|refine yt ?_|refine yf ?_|refine yo ?_)
  exact ⟨.a (.c (.sl 1 0 0 (quote v.s).length c')),_,⟨[0,2],⟨rfl,rfl,rfl⟩,by (repeat first|exact trivial|refine ent1 ?_)⟩,c',hc',rfl,rfl⟩
 have f4:decide (v.k=4#8)=false:=decide_eq_false k4
 rcases hcs with hlf|⟨d',rfl,rfl,rfl,hv1,hv2,hv3,hk⟩
 ·exfalso
  have h1:=hlf.2.2.2.2.1
  have kk:∀ n,n<5→v.k≠BitVec.ofNat 8 n:=by
   intro n hn
   match n,hn with
   | 0,_=>exact k0
   | 1,_=>exact k1
   | 2,_=>exact k2
   | 3,_=>exact k3
   | 4,_=>exact k4
  exact kk v.k.toNat (by omega) (by apply BitVec.eq_of_toNat_eq; simp)
 obtain ⟨⟨g1,g2,g3,g4,g5⟩,hns⟩:=hx
 obtain ⟨xa,xm,xc,xb,xp,xq⟩:=x
 dsimp only at g1 g2 g3 g4 g5 hns
 rcases hk with ⟨k5,hns0⟩|⟨k6,hnl,hnd,hnu⟩
 ·have f5:decide (v.k=5#8)=true:=decide_eq_true k5
  have hp:put (d'+1) v=91#8::(putL (put d') v.l++[93#8]):=by rw [hpv]; unfold put1; rw [if_neg k0,if_neg k1,if_neg k2,if_neg k3,if_neg k4,if_pos k5]
  rw [hp] at hl ⊢
  have hl2:(putL (put d') v.l).length+2≤70368744177664:=by simp only [List.length_cons,List.length_append,List.length_nil] at hl; omega
  (repeat show _∧_;first|refine yr ?_|refine yt ?_|refine yf ?_|refine ya f0 ?_|refine yb f0 ?_|refine ya f1 ?_|refine yb f1 ?_|refine ya f2 ?_|refine yb f2 ?_|refine ya f3 ?_|refine yb f3 ?_|refine ya f4 ?_|refine yb f4 ?_|refine ya f5 ?_|refine yb f5 ?_|refine yo ?_)
  intro c1 hc1
  (repeat show _∧_;first|refine yr ?_|refine yt ?_|refine yf ?_|refine yo ?_)
  refine .inl ⟨Nat × Bs × Nat,fun x=>match x with|(j,B,c)=>⟨[.any,.a (.c (.sl 2 0 0 B.length c)),.a (.c (.p 1 0 0)),.any,.a (.c (.slc none 0 0)),.any,.any,.any,.any,.any,.a (.c (.w8 v.k)),.any,.any,.any,.any,.any,.any,.any,.any,.any,.any,.any,.any,.any,.any,.any,.any,.any,.any,.any,.any,.any,.any,.any,.any,.any,.any,.any,.any,.any,.any,.a (.c (.slc xa xm xc)),.a (.c (.int .i64 (xm))),.a (.c (.int .i64 (((j:Nat):Int)))),.any,.any,.any,.any,.any,.any,.any,.any,.any,.any,.any,.any,.any,.any,.any,.any,.any,.any,.any,.any,.any,.any,.any,.any,.any,.any,.any,.any,.any,.any,.any,.any,.any,.any,.any,.any,.any,.any,.any,.any,.any,.any,.any,.any,.any,.any,.any,.any],[[.past W ms],jvS v ⟨xa,xm,xc,xb,xp,xq⟩,lsC B c]⟩,
   fun x=>match x with|(j,B,c)=>j≤v.l.length∧B=([91#8])++putL (put d') (v.l.take j)∧B.length≤c,fun x=>v.l.length-x.1,⟨(0,([91#8]),c1),[0,1,3],⟨⟨rfl,rfl,rfl⟩,?_⟩,Nat.zero_le _,by rw [List.take_zero]; exact (List.append_nil _).symm,hc1⟩,fun x hx=>?_⟩
  ·(repeat first|exact trivial|refine ent1 ?_)
   refine ⟨fun j hj=>eqC_bytes (fun i hi=>?_) j,by (repeat first|exact trivial|refine ent1 ?_)⟩
   exact new_row (m:=[91#8]) (fun i hi=>one_row rfl i hi) i hi
  obtain ⟨j,B,c2⟩:=x
  obtain ⟨i1,i2,i3⟩:=hx
  dsimp only
  have hBl:B.length=1+(putL (put d') (v.l.take j)).length:=by rw [i2]; simp only [List.length_append,List.length_cons,List.length_nil]; try omega
  have hjl:(putL (put d') (v.l.take j)).length≤(putL (put d') v.l).length:=putL_le _ _ _
  have hBm:B.length+1≤70368744177664:=by omega
  by_cases hj:j<v.l.length
  rotate_left
  ·have e1:decide ((j:Int)<(xm:Int))=false:=decide_eq_false (by omega)
   obtain rfl:j=v.l.length:=by omega
   have hfull:91#8::(putL (put d') v.l++[93#8])=B++[93#8]:=by rw [i2,List.take_length]; simp
   rw [hfull]
   (repeat show _∧_;first|refine yr ?_|refine yt ?_|refine yf ?_|refine ya e1 ?_|refine yb e1 ?_|refine yo ?_)
   refine And.intro ⟨i3,by simp only [scale]; omega,by show (B.length+1)*1≤140737488355328; omega⟩ ?_
   intro c3 hc3
   (repeat show _∧_;first|refine yr ?_|refine yt ?_|refine yf ?_|refine yo ?_)
   refine ⟨.a (.c (.sl 1 0 0 (B++[93#8]).length c3)),_,⟨[0,4],⟨rfl,rfl,rfl⟩,?_⟩,c3,by rw [List.length_append]; exact hc3,rfl,rfl⟩
   (repeat first|exact trivial|refine ent1 ?_)
   refine And.intro (show B.length+1=(B++[93#8]).length by rw [List.length_append]; rfl) ?_
   (repeat first|exact trivial|refine ent1 ?_)
   refine ⟨fun j hj=>eqC_bytes (fun i hi=>?_) j,by (repeat first|exact trivial|refine ent1 ?_)⟩
   have hi':i<B.length+1:=by rw [List.length_append] at hi; exact hi
   refine app_row (l:=B) (n:=B.length) (k:=1) rfl ?_ (fun i hi=>bytesF_lt hi) (fun i hi=>?_) i hi'
   ·rfl
   ·exact rowl i (by exact hi) rfl
  have e1:decide ((j:Int)<(xm:Int))=true:=decide_eq_true (by omega)
  obtain ⟨A,rfl⟩:∃ A,xa=some A:=by
   cases xa with
   | none=>exact absurd (g4 rfl) (by omega)
   | some A=>exact ⟨A,rfl⟩
  obtain ⟨y,y1,y2⟩:=(g5 A rfl (by omega)).2 j v.l[j] (List.getElem?_eq_getElem hj)
  (repeat show _∧_;first|refine yr ?_|refine yt ?_|refine yf ?_|refine ya e1 ?_|refine yb e1 ?_|refine yo ?_)
  refine ⟨jvS v.l[j] y,⟨.past (i:=0) rfl (by exact y1),rfl⟩,?_⟩
  have hle1:(putL (put d') (v.l.take (j+1))).length≤(putL (put d') v.l).length:=putL_le _ _ _
  have hbs:(([91#8]):Bs).length=1:=by simp only [List.length_append,List.length_cons,List.length_nil]
  by_cases h0:j=0
  ·have e2:decide ((0:Int)<(j:Int))=false:=decide_eq_false (by omega)
   (repeat show _∧_;first|refine yr ?_|refine yt ?_|refine yf ?_|refine ya e2 ?_|refine yb e2 ?_|refine yo ?_)
   have hst:([91#8])++putL (put d') (v.l.take (j+1))=B++put d' v.l[j]:=by rw [putL_step (put d') v.l j hj,if_pos h0,show B=([91#8]) from by rw [i2,h0,List.take_zero]; exact List.append_nil _]
   have hln:=congrArg List.length hst
   simp only [List.length_append,List.length_cons,List.length_nil] at hln hbs
   refine call_same (hrec d' rfl W ms v.l[j] y B c2 hT y2 (hv3 _ (List.getElem_mem hj)) i3 (by (try simp only [List.length_append,List.length_cons,List.length_nil]); omega)) [0,2] rfl ?_ ?_ (fun _ _=>trivial) ?_
   ·(repeat first|exact trivial|refine ent1 ?_)
   ·(repeat first|exact trivial|refine ent1 ?_)
   rintro y' hs ⟨c6,hc6,rfl,rfl⟩
   (repeat show _∧_;first|refine yr ?_|refine yt ?_|refine yf ?_|refine yo ?_)
   refine ⟨(j+1,B++put d' v.l[j],c6),[0,1,4],⟨⟨rfl,rfl,rfl⟩,?_⟩,⟨hj,hst.symm,hc6⟩,by dsimp only; omega⟩
   dsimp only
   (repeat first|exact trivial|refine ent1 ?_)
  have e2:decide ((0:Int)<(j:Int))=true:=decide_eq_true (by omega)
  (repeat show _∧_;first|refine yr ?_|refine yt ?_|refine yf ?_|refine ya e2 ?_|refine yb e2 ?_|refine yo ?_)
  refine And.intro ⟨i3,by simp only [scale]; omega,by show (B.length+1)*1≤140737488355328; omega⟩ ?_
  intro c3 hc3
  (repeat show _∧_;first|refine yr ?_|refine yt ?_|refine yf ?_|refine yo ?_)
  have hc3':(B++[44#8]).length≤c3:=by rw [List.length_append]; exact hc3
  have hst:([91#8])++putL (put d') (v.l.take (j+1))=(B++[44#8])++put d' v.l[j]:=by rw [putL_step (put d') v.l j hj,if_neg h0,← i2]
  have hln:=congrArg List.length hst
  simp only [List.length_append,List.length_cons,List.length_nil] at hln hbs
  refine call_same (hrec d' rfl W ms v.l[j] y (B++[44#8]) c3 hT y2 (hv3 _ (List.getElem_mem hj)) hc3' (by (try simp only [List.length_append,List.length_cons,List.length_nil]); omega)) [0,5] rfl ?_ ?_ (fun _ _=>trivial) ?_
  ·(repeat first|exact trivial|refine ent1 ?_)
   exact And.intro (show B.length+1=_ by rw [List.length_append]; rfl) (by (repeat first|exact trivial|refine ent1 ?_))
  ·(repeat first|exact trivial|refine ent1 ?_)
   refine ⟨fun j' hj'=>eqC_bytes (fun i hi=>?_) j',by (repeat first|exact trivial|refine ent1 ?_)⟩
   have hi':i<(B).length+1:=by rw [List.length_append] at hi; exact hi
   refine app_row (l:=B) (n:=(B).length) (k:=1) rfl ?_ (fun i hi=>bytesF_lt hi) (fun i hi=>?_) i hi'
   ·rfl
   ·exact rowl i (by exact hi) rfl
  rintro y' hs ⟨c6,hc6,rfl,rfl⟩
  (repeat show _∧_;first|refine yr ?_|refine yt ?_|refine yf ?_|refine yo ?_)
  refine ⟨(j+1,(B++[44#8])++put d' v.l[j],c6),[0,1,6],⟨⟨rfl,rfl,rfl⟩,?_⟩,⟨hj,hst.symm,hc6⟩,by dsimp only; omega⟩
  dsimp only
  (repeat first|exact trivial|refine ent1 ?_)
 ·have f5:decide (v.k=5#8)=false:=decide_eq_false (by rw [k6]; decide)
  have hp:put (d'+1) v=123#8::(putO (put d') v.ns v.l++[125#8]):=by rw [hpv]; unfold put1; rw [if_neg k0,if_neg k1,if_neg k2,if_neg k3,if_neg k4,if_neg (by rw [k6]; decide)]
  rw [hp] at hl ⊢
  have hl2:(putO (put d') v.ns v.l).length+2≤70368744177664:=by simp only [List.length_cons,List.length_append,List.length_nil] at hl; omega
  (repeat show _∧_;first|refine yr ?_|refine yt ?_|refine yf ?_|refine ya f0 ?_|refine yb f0 ?_|refine ya f1 ?_|refine yb f1 ?_|refine ya f2 ?_|refine yb f2 ?_|refine ya f3 ?_|refine yb f3 ?_|refine ya f4 ?_|refine yb f4 ?_|refine ya f5 ?_|refine yb f5 ?_|refine yo ?_)
  intro c1 hc1
  (repeat show _∧_;first|refine yr ?_|refine yt ?_|refine yf ?_|refine yo ?_)
  refine .inl ⟨Nat × Bs × Nat,fun x=>match x with|(j,B,c)=>⟨[.any,.a (.c (.sl 2 0 0 B.length c)),.a (.c (.p 1 0 0)),.any,.a (.c (.slc none 0 0)),.any,.any,.any,.any,.any,.a (.c (.w8 v.k)),.any,.any,.any,.any,.any,.any,.any,.any,.any,.any,.any,.any,.any,.any,.any,.any,.any,.any,.any,.any,.any,.any,.any,.any,.any,.any,.any,.any,.any,.any,.any,.any,.any,.any,.any,.any,.any,.any,.any,.any,.any,.any,.any,.any,.any,.any,.any,.any,.any,.any,.any,.any,.any,.a (.c (.slc xa xm xc)),.a (.c (.int .i64 (xm))),.a (.c (.int .i64 (((j:Nat):Int)))),.any,.any,.any,.any,.any,.any,.any,.any,.any,.any,.any,.any,.any,.any,.any,.any,.any,.any,.any,.any,.any,.any,.any,.any,.any],[[.past W ms],jvS v ⟨xa,xm,xc,xb,xp,xq⟩,lsC B c]⟩,
   fun x=>match x with|(j,B,c)=>j≤v.l.length∧B=([123#8])++putO (put d') (v.ns.take j) (v.l.take j)∧B.length≤c,fun x=>v.l.length-x.1,⟨(0,([123#8]),c1),[0,1,3],⟨⟨rfl,rfl,rfl⟩,?_⟩,Nat.zero_le _,by rw [List.take_zero,List.take_zero]; exact (List.append_nil _).symm,hc1⟩,fun x hx=>?_⟩
  ·(repeat first|exact trivial|refine ent1 ?_)
   refine ⟨fun j hj=>eqC_bytes (fun i hi=>?_) j,by (repeat first|exact trivial|refine ent1 ?_)⟩
   exact new_row (m:=[123#8]) (fun i hi=>one_row rfl i hi) i hi
  obtain ⟨j,B,c2⟩:=x
  obtain ⟨i1,i2,i3⟩:=hx
  dsimp only
  have hBl:B.length=1+(putO (put d') (v.ns.take j) (v.l.take j)).length:=by rw [i2]; simp only [List.length_append,List.length_cons,List.length_nil]; try omega
  have hjl:(putO (put d') (v.ns.take j) (v.l.take j)).length≤(putO (put d') v.ns v.l).length:=putO_le _ _ _ _ hnl
  have hBm:B.length+1≤70368744177664:=by omega
  by_cases hj:j<v.l.length
  rotate_left
  ·have e1:decide ((j:Int)<(xm:Int))=false:=decide_eq_false (by omega)
   obtain rfl:j=v.l.length:=by omega
   have hfull:123#8::(putO (put d') v.ns v.l++[125#8])=B++[125#8]:=by rw [i2,show v.ns.take v.l.length=v.ns by rw [← hnl,List.take_length],List.take_length]; simp
   rw [hfull]
   (repeat show _∧_;first|refine yr ?_|refine yt ?_|refine yf ?_|refine ya e1 ?_|refine yb e1 ?_|refine yo ?_)
   refine And.intro ⟨i3,by simp only [scale]; omega,by show (B.length+1)*1≤140737488355328; omega⟩ ?_
   intro c3 hc3
   (repeat show _∧_;first|refine yr ?_|refine yt ?_|refine yf ?_|refine yo ?_)
   refine ⟨.a (.c (.sl 1 0 0 (B++[125#8]).length c3)),_,⟨[0,4],⟨rfl,rfl,rfl⟩,?_⟩,c3,by rw [List.length_append]; exact hc3,rfl,rfl⟩
   (repeat first|exact trivial|refine ent1 ?_)
   refine And.intro (show B.length+1=(B++[125#8]).length by rw [List.length_append]; rfl) ?_
   (repeat first|exact trivial|refine ent1 ?_)
   refine ⟨fun j hj=>eqC_bytes (fun i hi=>?_) j,by (repeat first|exact trivial|refine ent1 ?_)⟩
   have hi':i<B.length+1:=by rw [List.length_append] at hi; exact hi
   refine app_row (l:=B) (n:=B.length) (k:=1) rfl ?_ (fun i hi=>bytesF_lt hi) (fun i hi=>?_) i hi'
   ·rfl
   ·exact rowl i (by exact hi) rfl
  have e1:decide ((j:Int)<(xm:Int))=true:=decide_eq_true (by omega)
  obtain ⟨A,rfl⟩:∃ A,xa=some A:=by
   cases xa with
   | none=>exact absurd (g4 rfl) (by omega)
   | some A=>exact ⟨A,rfl⟩
  obtain ⟨y,y1,y2⟩:=(g5 A rfl (by omega)).2 j v.l[j] (List.getElem?_eq_getElem hj)
  obtain ⟨Bn,rfl⟩:∃ Bn,xb=some Bn:=by
   cases xb with
   | none=>exact absurd (show v.ns.length=0 by have h1:=hns.len; simp only [List.length_map] at h1; have h2:=hns.le; have h3:=hns.nil rfl; omega) (by omega)
   | some Bn=>exact ⟨Bn,rfl⟩
  have hjn:j<v.ns.length:=by omega
  have hjp:j<xp:=by have h1:=hns.len; simp only [List.length_map] at h1; omega
  (repeat show _∧_;first|refine yr ?_|refine yt ?_|refine yf ?_|refine ya e1 ?_|refine yb e1 ?_|refine yo ?_)
  refine ⟨jvS v.l[j] y,⟨.past (i:=0) rfl (by exact y1),rfl⟩,?_⟩
  have hle1:(putO (put d') (v.ns.take (j+1)) (v.l.take (j+1))).length≤(putO (put d') v.ns v.l).length:=putO_le _ _ _ _ hnl
  have hbs:(([123#8]):Bs).length=1:=by simp only [List.length_append,List.length_cons,List.length_nil]
  by_cases h0:j=0
  ·have e2:decide ((0:Int)<(j:Int))=false:=decide_eq_false (by omega)
   (repeat show _∧_;first|refine yr ?_|refine yt ?_|refine yf ?_|refine ya e2 ?_|refine yb e2 ?_|refine yo ?_)
   have hst:([123#8])++putO (put d') (v.ns.take (j+1)) (v.l.take (j+1))=(B++quote v.ns[j]++[58#8])++put d' v.l[j]:=by rw [putO_step (put d') v.ns v.l j hj hnl,if_pos h0,show B=([123#8]) from by rw [i2,h0,List.take_zero,List.take_zero]; exact List.append_nil _]
   have hln:=congrArg List.length hst
   simp only [List.length_append,List.length_cons,List.length_nil] at hln hbs
   refine And.intro (show (0:Int)≤(j:Int)∧(j:Int)<(xp:Int) by omega) ?_
   have him:=(hns.im Bn rfl (by have:=hns.le; omega)).one (show ((v.ns.map U8).map SC.str)[j]?=some (.str (U8 v.ns[j])) by simp [hjn])
   refine ⟨[.one (.str (U8 v.ns[j]))],⟨.past (i:=0) rfl (by show ImAt W ms (Bn.add (j*1)) _; rw [Nat.mul_one]; exact him),rfl⟩,?_⟩
   (repeat show _∧_;first|refine yr ?_|refine yt ?_|refine yf ?_|refine yo ?_)
   refine call_same (fn_quote B c2 i3 (hnu _ (List.getElem_mem hjn)) (by (try simp only [List.length_append,List.length_cons,List.length_nil]); omega)) [2] rfl (by exact And.intro rfl (And.intro rfl (And.intro rfl (And.intro rfl trivial)))) ?_ (fun _ _=>trivial) ?_
   ·(repeat first|exact trivial|refine ent1 ?_)
   rintro y' hs ⟨c4,hc4,rfl,rfl⟩
   (repeat show _∧_;first|refine yr ?_|refine yt ?_|refine yf ?_|refine yo ?_)
   refine And.intro ⟨hc4,by simp only [scale]; omega,by show ((B++quote v.ns[j]).length+1)*1≤140737488355328; simp only [List.length_append,List.length_cons,List.length_nil]; omega⟩ ?_
   intro c5 hc5
   (repeat show _∧_;first|refine yr ?_|refine yt ?_|refine yf ?_|refine yo ?_)
   have hc5':((B++quote v.ns[j])++[58#8]).length≤c5:=by rw [List.length_append]; exact hc5
   refine call_same (hrec d' rfl W ms v.l[j] y ((B++quote v.ns[j])++[58#8]) c5 hT y2 (hv3 _ (List.getElem_mem hj)) hc5' (by (try simp only [List.length_append,List.length_cons,List.length_nil]); omega)) [0,6] rfl ?_ ?_ (fun _ _=>trivial) ?_
   ·(repeat first|exact trivial|refine ent1 ?_)
    exact And.intro (show (B++quote v.ns[j]).length+1=_ by simp only [List.length_append,List.length_cons,List.length_nil]) (by (repeat first|exact trivial|refine ent1 ?_))
   ·(repeat first|exact trivial|refine ent1 ?_)
    refine ⟨fun j' hj'=>eqC_bytes (fun i hi=>?_) j',by (repeat first|exact trivial|refine ent1 ?_)⟩
    have hi':i<((B++quote v.ns[j])).length+1:=by rw [List.length_append] at hi; exact hi
    refine app_row (l:=(B++quote v.ns[j])) (n:=((B++quote v.ns[j])).length) (k:=1) rfl ?_ (fun i hi=>bytesM_lt hi) (fun i hi=>?_) i hi'
    ·rfl
    ·exact rowl i (by exact hi) rfl
   rintro y' hs ⟨c6,hc6,rfl,rfl⟩
   (repeat show _∧_;first|refine yr ?_|refine yt ?_|refine yf ?_|refine yo ?_)
   refine ⟨(j+1,((B++quote v.ns[j])++[58#8])++put d' v.l[j],c6),[0,1,7],⟨⟨rfl,rfl,rfl⟩,?_⟩,⟨hj,hst.symm,hc6⟩,by dsimp only; omega⟩
   dsimp only
   (repeat first|exact trivial|refine ent1 ?_)
  have e2:decide ((0:Int)<(j:Int))=true:=decide_eq_true (by omega)
  (repeat show _∧_;first|refine yr ?_|refine yt ?_|refine yf ?_|refine ya e2 ?_|refine yb e2 ?_|refine yo ?_)
  refine And.intro ⟨i3,by simp only [scale]; omega,by show (B.length+1)*1≤140737488355328; omega⟩ ?_
  intro c3 hc3
  (repeat show _∧_;first|refine yr ?_|refine yt ?_|refine yf ?_|refine yo ?_)
  have hc3':(B++[44#8]).length≤c3:=by rw [List.length_append]; exact hc3
  have hst:([123#8])++putO (put d') (v.ns.take (j+1)) (v.l.take (j+1))=((B++[44#8])++quote v.ns[j]++[58#8])++put d' v.l[j]:=by rw [putO_step (put d') v.ns v.l j hj hnl,if_neg h0,← i2]
  have hln:=congrArg List.length hst
  simp only [List.length_append,List.length_cons,List.length_nil] at hln hbs
  refine And.intro (show (0:Int)≤(j:Int)∧(j:Int)<(xp:Int) by omega) ?_
  have him:=(hns.im Bn rfl (by have:=hns.le; omega)).one (show ((v.ns.map U8).map SC.str)[j]?=some (.str (U8 v.ns[j])) by simp [hjn])
  refine ⟨[.one (.str (U8 v.ns[j]))],⟨.past (i:=0) rfl (by show ImAt W ms (Bn.add (j*1)) _; rw [Nat.mul_one]; exact him),rfl⟩,?_⟩
  (repeat show _∧_;first|refine yr ?_|refine yt ?_|refine yf ?_|refine yo ?_)
  refine call_same (fn_quote (B++[44#8]) c3 hc3' (hnu _ (List.getElem_mem hjn)) (by (try simp only [List.length_append,List.length_cons,List.length_nil]); omega)) [5] rfl (by exact And.intro rfl (And.intro (show B.length+1=_ by rw [List.length_append]; rfl) (And.intro rfl (And.intro rfl trivial)))) ?_ (fun _ _=>trivial) ?_
  ·(repeat first|exact trivial|refine ent1 ?_)
   refine ⟨fun j' hj'=>eqC_bytes (fun i hi=>?_) j',by (repeat first|exact trivial|refine ent1 ?_)⟩
   have hi':i<(B).length+1:=by rw [List.length_append] at hi; exact hi
   refine app_row (l:=B) (n:=(B).length) (k:=1) rfl ?_ (fun i hi=>bytesF_lt hi) (fun i hi=>?_) i hi'
   ·rfl
   ·exact rowl i (by exact hi) rfl
  rintro y' hs ⟨c4,hc4,rfl,rfl⟩
  (repeat show _∧_;first|refine yr ?_|refine yt ?_|refine yf ?_|refine yo ?_)
  refine And.intro ⟨hc4,by simp only [scale]; omega,by show (((B++[44#8])++quote v.ns[j]).length+1)*1≤140737488355328; simp only [List.length_append,List.length_cons,List.length_nil]; omega⟩ ?_
  intro c5 hc5
  (repeat show _∧_;first|refine yr ?_|refine yt ?_|refine yf ?_|refine yo ?_)
  have hc5':(((B++[44#8])++quote v.ns[j])++[58#8]).length≤c5:=by rw [List.length_append]; exact hc5
  refine call_same (hrec d' rfl W ms v.l[j] y (((B++[44#8])++quote v.ns[j])++[58#8]) c5 hT y2 (hv3 _ (List.getElem_mem hj)) hc5' (by (try simp only [List.length_append,List.length_cons,List.length_nil]); omega)) [0,8] rfl ?_ ?_ (fun _ _=>trivial) ?_
  ·(repeat first|exact trivial|refine ent1 ?_)
   exact And.intro (show ((B++[44#8])++quote v.ns[j]).length+1=_ by simp only [List.length_append,List.length_cons,List.length_nil]) (by (repeat first|exact trivial|refine ent1 ?_))
  ·(repeat first|exact trivial|refine ent1 ?_)
   refine ⟨fun j' hj'=>eqC_bytes (fun i hi=>?_) j',by (repeat first|exact trivial|refine ent1 ?_)⟩
   have hi':i<(((B++[44#8])++quote v.ns[j])).length+1:=by rw [List.length_append] at hi; exact hi
   refine app_row (l:=((B++[44#8])++quote v.ns[j])) (n:=(((B++[44#8])++quote v.ns[j])).length) (k:=1) rfl ?_ (fun i hi=>bytesM_lt hi) (fun i hi=>?_) i hi'
   ·rfl
   ·exact rowl i (by exact hi) rfl
  rintro y' hs ⟨c6,hc6,rfl,rfl⟩
  (repeat show _∧_;first|refine yr ?_|refine yt ?_|refine yf ?_|refine yo ?_)
  refine ⟨(j+1,(((B++[44#8])++quote v.ns[j])++[58#8])++put d' v.l[j],c6),[0,1,9],⟨⟨rfl,rfl,rfl⟩,?_⟩,⟨hj,hst.symm,hc6⟩,by dsimp only; omega⟩
  dsimp only
  (repeat first|exact trivial|refine ent1 ?_)
set_option maxRecDepth 20000 in
set_option maxHeartbeats 32000000 in
theorem fn_put1 (d:Nat) (hrec:∀ d',d=d'+1→PutC d') {W:World} {ms:List Nat} {v:JT} {x:JC} (b:Bs) (c:Nat) (hT:Tabs W ms) (hx:TAt W ms d v x) (hn:norm d v) (hc:b.length≤c) (hl:b.length+(put d v).length≤70368744177664) :
  FnR Tryd.prog tds 45 1 [[.past W ms],lsC b c] [.agg (jvS v x),.c (.sl 1 0 0 b.length c)] (fun _=>True)
  (fun y hs=>∃ c',(b++put d v).length≤c'∧y=.a (.c (.sl 2 0 0 (b++put d v).length c'))∧hs=[[.past W ms],[],lsC (b++put d v) c']):=by
 refine fn_of_body tds_ok follows_ Tryd.func45 rfl (t:=.a (.agg (jvS v x))::.a (.c (.sl 1 0 0 b.length c))::anys (Tryd.f45.ntmps-2)) rfl (fun w r0 hr0 _=>?_)
 obtain ⟨x0,x1,rfl⟩:=len2' hr0
 obtain ⟨pl,po,hpv,hcs⟩:∃ pl po,put d v=put1 pl po v∧(leaf v∨∃ d',d=d'+1∧pl=putL (put d')∧po=putO (put d')∧v.n=0#64∧v.s=[]∧(∀ x∈v.l,norm d' x)∧((v.k=5#8∧v.ns=[])∨(v.k=6#8∧v.ns.length=v.l.length∧v.ns.Nodup∧∀ s∈v.ns,Utf s))):=by
  cases d with
  | zero=>exact ⟨_,_,rfl,.inl hn⟩
  | succ d=>exact ⟨_,_,rfl,hn.imp_right fun h=>⟨d,rfl,rfl,rfl,h⟩⟩
 by_cases k0:v.k=0#8
 ·have f0:decide (v.k=0#8)=true:=decide_eq_true k0
  have hp:put d v=[110#8,117#8,108#8,108#8]:=by rw [hpv]; unfold put1; rw [if_pos k0]
  rw [hp] at hl ⊢
  have hl2:b.length+4≤70368744177664:=hl
  (repeat show _∧_;first|refine yr ?_|refine yt ?_|refine yf ?_|refine ya f0 ?_|refine yb f0 ?_|refine yo ?_)
  refine And.intro ⟨hc,by simp only [scale]; omega,by show (b.length+4)*1≤140737488355328; omega⟩ ?_
  intro c' hc'
  (repeat show _∧_;first|refine yr ?_|refine yt ?_|refine yf ?_|refine yo ?_)
  refine ⟨.a (.c (.sl 2 0 0 (b++[110#8,117#8,108#8,108#8]).length c')),_,⟨[0,1,3],⟨rfl,rfl,rfl⟩,?_⟩,c',by rw [List.length_append]; exact hc',rfl,rfl⟩
  (repeat first|exact trivial|refine ent1 ?_)
  refine And.intro (show b.length+4=_ by rw [List.length_append]; rfl) ?_
  (repeat first|exact trivial|refine ent1 ?_)
  refine ⟨fun j' hj'=>eqC_bytes (fun i hi=>?_) j',by (repeat first|exact trivial|refine ent1 ?_)⟩
  have hi':i<b.length+4:=by rw [List.length_append] at hi; exact hi
  refine app_row (l:=b) (n:=b.length) (k:=4) rfl ?_ (fun i hi=>bytesF_lt hi) (fun i hi=>?_) i hi'
  ·rfl
  ·exact rowu (m:=[110#8,117#8,108#8,108#8]) rfl i (by exact hi)
 have f0:decide (v.k=0#8)=false:=decide_eq_false k0
 by_cases k1:v.k=1#8
 ·have f1:decide (v.k=1#8)=true:=decide_eq_true k1
  have hp:put d v=[102#8,97#8,108#8,115#8,101#8]:=by rw [hpv]; unfold put1; rw [if_neg k0]; rw [if_pos k1]
  rw [hp] at hl ⊢
  have hl2:b.length+5≤70368744177664:=hl
  (repeat show _∧_;first|refine yr ?_|refine yt ?_|refine yf ?_|refine ya f0 ?_|refine yb f0 ?_|refine ya f1 ?_|refine yb f1 ?_|refine yo ?_)
  refine And.intro ⟨hc,by simp only [scale]; omega,by show (b.length+5)*1≤140737488355328; omega⟩ ?_
  intro c' hc'
  (repeat show _∧_;first|refine yr ?_|refine yt ?_|refine yf ?_|refine yo ?_)
  refine ⟨.a (.c (.sl 2 0 0 (b++[102#8,97#8,108#8,115#8,101#8]).length c')),_,⟨[0,1,3],⟨rfl,rfl,rfl⟩,?_⟩,c',by rw [List.length_append]; exact hc',rfl,rfl⟩
  (repeat first|exact trivial|refine ent1 ?_)
  refine And.intro (show b.length+5=_ by rw [List.length_append]; rfl) ?_
  (repeat first|exact trivial|refine ent1 ?_)
  refine ⟨fun j' hj'=>eqC_bytes (fun i hi=>?_) j',by (repeat first|exact trivial|refine ent1 ?_)⟩
  have hi':i<b.length+5:=by rw [List.length_append] at hi; exact hi
  refine app_row (l:=b) (n:=b.length) (k:=5) rfl ?_ (fun i hi=>bytesF_lt hi) (fun i hi=>?_) i hi'
  ·rfl
  ·exact rowu (m:=[102#8,97#8,108#8,115#8,101#8]) rfl i (by exact hi)
 have f1:decide (v.k=1#8)=false:=decide_eq_false k1
 by_cases k2:v.k=2#8
 ·have f2:decide (v.k=2#8)=true:=decide_eq_true k2
  have hp:put d v=[116#8,114#8,117#8,101#8]:=by rw [hpv]; unfold put1; rw [if_neg k0]; rw [if_neg k1]; rw [if_pos k2]
  rw [hp] at hl ⊢
  have hl2:b.length+4≤70368744177664:=hl
  (repeat show _∧_;first|refine yr ?_|refine yt ?_|refine yf ?_|refine ya f0 ?_|refine yb f0 ?_|refine ya f1 ?_|refine yb f1 ?_|refine ya f2 ?_|refine yb f2 ?_|refine yo ?_)
  refine And.intro ⟨hc,by simp only [scale]; omega,by show (b.length+4)*1≤140737488355328; omega⟩ ?_
  intro c' hc'
  (repeat show _∧_;first|refine yr ?_|refine yt ?_|refine yf ?_|refine yo ?_)
  refine ⟨.a (.c (.sl 2 0 0 (b++[116#8,114#8,117#8,101#8]).length c')),_,⟨[0,1,3],⟨rfl,rfl,rfl⟩,?_⟩,c',by rw [List.length_append]; exact hc',rfl,rfl⟩
  (repeat first|exact trivial|refine ent1 ?_)
  refine And.intro (show b.length+4=_ by rw [List.length_append]; rfl) ?_
  (repeat first|exact trivial|refine ent1 ?_)
  refine ⟨fun j' hj'=>eqC_bytes (fun i hi=>?_) j',by (repeat first|exact trivial|refine ent1 ?_)⟩
  have hi':i<b.length+4:=by rw [List.length_append] at hi; exact hi
  refine app_row (l:=b) (n:=b.length) (k:=4) rfl ?_ (fun i hi=>bytesF_lt hi) (fun i hi=>?_) i hi'
  ·rfl
  ·exact rowu (m:=[116#8,114#8,117#8,101#8]) rfl i (by exact hi)
 have f2:decide (v.k=2#8)=false:=decide_eq_false k2
 by_cases k3:v.k=3#8
 ·have f3:decide (v.k=3#8)=true:=decide_eq_true k3
  have hp:put d v=dig v.n.toNat:=by rw [hpv]; unfold put1; rw [if_neg k0,if_neg k1,if_neg k2,if_pos k3]
  rw [hp] at hl ⊢
  (repeat show _∧_;first|refine yr ?_|refine yt ?_|refine yf ?_|refine ya f0 ?_|refine yb f0 ?_|refine ya f1 ?_|refine yb f1 ?_|refine ya f2 ?_|refine yb f2 ?_|refine ya f3 ?_|refine yb f3 ?_|refine yo ?_)
  refine call_same (fn_uint hT b c (by omega) hc v.n) [0,1] rfl (by exact And.intro rfl (And.intro rfl (And.intro rfl (And.intro rfl (And.intro rfl trivial))))) (by (repeat first|exact trivial|refine ent1 ?_)) (fun _ _=>trivial) ?_
  rintro y hs ⟨c',hc',rfl,rfl⟩
  (repeat show _∧_;first|refine yr ?_|refine yt ?_|refine yf ?_|refine yo ?_)
  exact ⟨.a (.c (.sl 2 0 0 (b++dig v.n.toNat).length c')),_,⟨[0,1,3],⟨rfl,rfl,rfl⟩,by (repeat first|exact trivial|refine ent1 ?_)⟩,c',hc',rfl,rfl⟩
 have f3:decide (v.k=3#8)=false:=decide_eq_false k3
 by_cases k4:v.k=4#8
 ·have f4:decide (v.k=4#8)=true:=decide_eq_true k4
  have hp:put d v=quote v.s:=by rw [hpv]; unfold put1; rw [if_neg k0,if_neg k1,if_neg k2,if_neg k3,if_pos k4]
  have hU:Utf v.s:=by
   rcases hcs with hlf|⟨_,_,_,_,_,_,_,h5|h6⟩
   ·exact hlf.2.2.2.2.2
   ·exact absurd (k4.symm.trans h5.1) (by decide)
   ·exact absurd (k4.symm.trans h6.1) (by decide)
  rw [hp] at hl ⊢
  (repeat show _∧_;first|refine yr ?_|refine yt ?_|refine yf ?_|refine ya f0 ?_|refine yb f0 ?_|refine ya f1 ?_|refine yb f1 ?_|refine ya f2 ?_|refine yb f2 ?_|refine ya f3 ?_|refine yb f3 ?_|refine ya f4 ?_|refine yb f4 ?_|refine yo ?_)
  refine call_same (fn_quote b c hc hU hl) [1] rfl (by exact And.intro rfl (And.intro rfl (And.intro rfl (And.intro rfl trivial)))) (by (repeat first|exact trivial|refine ent1 ?_)) (fun _ _=>trivial) ?_
  rintro y hs ⟨c',hc',rfl,rfl⟩
  (repeat show _∧_;first|refine yr ?_|refine yt ?_|refine yf ?_|refine yo ?_)
  exact ⟨.a (.c (.sl 2 0 0 (b++quote v.s).length c')),_,⟨[0,1,3],⟨rfl,rfl,rfl⟩,by (repeat first|exact trivial|refine ent1 ?_)⟩,c',hc',rfl,rfl⟩
 have f4:decide (v.k=4#8)=false:=decide_eq_false k4
 rcases hcs with hlf|⟨d',rfl,rfl,rfl,hv1,hv2,hv3,hk⟩
 ·exfalso
  have h1:=hlf.2.2.2.2.1
  have kk:∀ n,n<5→v.k≠BitVec.ofNat 8 n:=by
   intro n hn
   match n,hn with
   | 0,_=>exact k0
   | 1,_=>exact k1
   | 2,_=>exact k2
   | 3,_=>exact k3
   | 4,_=>exact k4
  exact kk v.k.toNat (by omega) (by apply BitVec.eq_of_toNat_eq; simp)
 obtain ⟨⟨g1,g2,g3,g4,g5⟩,hns⟩:=hx
 obtain ⟨xa,xm,xc,xb,xp,xq⟩:=x
 dsimp only at g1 g2 g3 g4 g5 hns
 rcases hk with ⟨k5,hns0⟩|⟨k6,hnl,hnd,hnu⟩
 ·have f5:decide (v.k=5#8)=true:=decide_eq_true k5
  have hp:put (d'+1) v=91#8::(putL (put d') v.l++[93#8]):=by rw [hpv]; unfold put1; rw [if_neg k0,if_neg k1,if_neg k2,if_neg k3,if_neg k4,if_pos k5]
  rw [hp] at hl ⊢
  have hl2:b.length+(putL (put d') v.l).length+2≤70368744177664:=by simp only [List.length_cons,List.length_append,List.length_nil] at hl; omega
  (repeat show _∧_;first|refine yr ?_|refine yt ?_|refine yf ?_|refine ya f0 ?_|refine yb f0 ?_|refine ya f1 ?_|refine yb f1 ?_|refine ya f2 ?_|refine yb f2 ?_|refine ya f3 ?_|refine yb f3 ?_|refine ya f4 ?_|refine yb f4 ?_|refine ya f5 ?_|refine yb f5 ?_|refine yo ?_)
  refine And.intro ⟨hc,by simp only [scale]; omega,by show (b.length+1)*1≤140737488355328; omega⟩ ?_
  intro c1 hc1
  (repeat show _∧_;first|refine yr ?_|refine yt ?_|refine yf ?_|refine yo ?_)
  refine .inl ⟨Nat × Bs × Nat,fun x=>match x with|(j,B,c)=>⟨[.any,.a (.c (.sl 3 0 0 B.length c)),.a (.c (.p 2 0 0)),.any,.a (.c (.slc none 0 0)),.any,.any,.any,.any,.any,.a (.c (.w8 v.k)),.any,.any,.any,.any,.any,.any,.any,.any,.any,.any,.any,.any,.any,.any,.any,.any,.any,.any,.any,.any,.any,.any,.any,.any,.any,.any,.any,.any,.any,.any,.a (.c (.slc xa xm xc)),.a (.c (.int .i64 (xm))),.a (.c (.int .i64 (((j:Nat):Int)))),.any,.any,.any,.any,.any,.any,.any,.any,.any,.any,.any,.any,.any,.any,.any,.any,.any,.any,.any,.any,.any,.any,.any,.any,.any,.any,.any,.any,.any,.any,.any,.any,.any,.any,.any,.any,.any,.any,.any,.any,.any,.any,.any,.any,.any,.any,.any,.any],[[.past W ms],[],jvS v ⟨xa,xm,xc,xb,xp,xq⟩,lsC B c]⟩,
   fun x=>match x with|(j,B,c)=>j≤v.l.length∧B=(b++[91#8])++putL (put d') (v.l.take j)∧B.length≤c,fun x=>v.l.length-x.1,⟨(0,(b++[91#8]),c1),[0,1,2,4],⟨⟨rfl,rfl,rfl⟩,?_⟩,Nat.zero_le _,by rw [List.take_zero]; exact (List.append_nil _).symm,by rw [List.length_append]; exact hc1⟩,fun x hx=>?_⟩
  ·(repeat first|exact trivial|refine ent1 ?_)
   refine And.intro (show b.length+1=(b++[91#8]).length by rw [List.length_append]; rfl) ?_
   (repeat first|exact trivial|refine ent1 ?_)
   refine ⟨fun j hj=>eqC_bytes (fun i hi=>?_) j,by (repeat first|exact trivial|refine ent1 ?_)⟩
   have hi':i<b.length+1:=by rw [List.length_append] at hi; exact hi
   refine app_row (l:=b) (n:=b.length) (k:=1) rfl ?_ (fun i hi=>bytesF_lt hi) (fun i hi=>?_) i hi'
   ·rfl
   ·exact rowl i (by exact hi) rfl
  obtain ⟨j,B,c2⟩:=x
  obtain ⟨i1,i2,i3⟩:=hx
  dsimp only
  have hBl:B.length=b.length+1+(putL (put d') (v.l.take j)).length:=by rw [i2]; simp only [List.length_append,List.length_cons,List.length_nil]; try omega
  have hjl:(putL (put d') (v.l.take j)).length≤(putL (put d') v.l).length:=putL_le _ _ _
  have hBm:B.length+1≤70368744177664:=by omega
  by_cases hj:j<v.l.length
  rotate_left
  ·have e1:decide ((j:Int)<(xm:Int))=false:=decide_eq_false (by omega)
   obtain rfl:j=v.l.length:=by omega
   have hfull:b++91#8::(putL (put d') v.l++[93#8])=B++[93#8]:=by rw [i2,List.take_length]; simp
   rw [hfull]
   (repeat show _∧_;first|refine yr ?_|refine yt ?_|refine yf ?_|refine ya e1 ?_|refine yb e1 ?_|refine yo ?_)
   refine And.intro ⟨i3,by simp only [scale]; omega,by show (B.length+1)*1≤140737488355328; omega⟩ ?_
   intro c3 hc3
   (repeat show _∧_;first|refine yr ?_|refine yt ?_|refine yf ?_|refine yo ?_)
   refine ⟨.a (.c (.sl 2 0 0 (B++[93#8]).length c3)),_,⟨[0,1,5],⟨rfl,rfl,rfl⟩,?_⟩,c3,by rw [List.length_append]; exact hc3,rfl,rfl⟩
   (repeat first|exact trivial|refine ent1 ?_)
   refine And.intro (show B.length+1=(B++[93#8]).length by rw [List.length_append]; rfl) ?_
   (repeat first|exact trivial|refine ent1 ?_)
   refine ⟨fun j hj=>eqC_bytes (fun i hi=>?_) j,by (repeat first|exact trivial|refine ent1 ?_)⟩
   have hi':i<B.length+1:=by rw [List.length_append] at hi; exact hi
   refine app_row (l:=B) (n:=B.length) (k:=1) rfl ?_ (fun i hi=>bytesF_lt hi) (fun i hi=>?_) i hi'
   ·rfl
   ·exact rowl i (by exact hi) rfl
  have e1:decide ((j:Int)<(xm:Int))=true:=decide_eq_true (by omega)
  obtain ⟨A,rfl⟩:∃ A,xa=some A:=by
   cases xa with
   | none=>exact absurd (g4 rfl) (by omega)
   | some A=>exact ⟨A,rfl⟩
  obtain ⟨y,y1,y2⟩:=(g5 A rfl (by omega)).2 j v.l[j] (List.getElem?_eq_getElem hj)
  (repeat show _∧_;first|refine yr ?_|refine yt ?_|refine yf ?_|refine ya e1 ?_|refine yb e1 ?_|refine yo ?_)
  refine ⟨jvS v.l[j] y,⟨.past (i:=0) rfl (by exact y1),rfl⟩,?_⟩
  have hle1:(putL (put d') (v.l.take (j+1))).length≤(putL (put d') v.l).length:=putL_le _ _ _
  have hbs:((b++[91#8]):Bs).length=b.length+1:=by simp only [List.length_append,List.length_cons,List.length_nil]
  by_cases h0:j=0
  ·have e2:decide ((0:Int)<(j:Int))=false:=decide_eq_false (by omega)
   (repeat show _∧_;first|refine yr ?_|refine yt ?_|refine yf ?_|refine ya e2 ?_|refine yb e2 ?_|refine yo ?_)
   have hst:(b++[91#8])++putL (put d') (v.l.take (j+1))=B++put d' v.l[j]:=by rw [putL_step (put d') v.l j hj,if_pos h0,show B=(b++[91#8]) from by rw [i2,h0,List.take_zero]; exact List.append_nil _]
   have hln:=congrArg List.length hst
   simp only [List.length_append,List.length_cons,List.length_nil] at hln hbs
   refine call_same (hrec d' rfl W ms v.l[j] y B c2 hT y2 (hv3 _ (List.getElem_mem hj)) i3 (by (try simp only [List.length_append,List.length_cons,List.length_nil]); omega)) [0,3] rfl ?_ ?_ (fun _ _=>trivial) ?_
   ·(repeat first|exact trivial|refine ent1 ?_)
   ·(repeat first|exact trivial|refine ent1 ?_)
   rintro y' hs ⟨c6,hc6,rfl,rfl⟩
   (repeat show _∧_;first|refine yr ?_|refine yt ?_|refine yf ?_|refine yo ?_)
   refine ⟨(j+1,B++put d' v.l[j],c6),[0,1,2,5],⟨⟨rfl,rfl,rfl⟩,?_⟩,⟨hj,hst.symm,hc6⟩,by dsimp only; omega⟩
   dsimp only
   (repeat first|exact trivial|refine ent1 ?_)
  have e2:decide ((0:Int)<(j:Int))=true:=decide_eq_true (by omega)
  (repeat show _∧_;first|refine yr ?_|refine yt ?_|refine yf ?_|refine ya e2 ?_|refine yb e2 ?_|refine yo ?_)
  refine And.intro ⟨i3,by simp only [scale]; omega,by show (B.length+1)*1≤140737488355328; omega⟩ ?_
  intro c3 hc3
  (repeat show _∧_;first|refine yr ?_|refine yt ?_|refine yf ?_|refine yo ?_)
  have hc3':(B++[44#8]).length≤c3:=by rw [List.length_append]; exact hc3
  have hst:(b++[91#8])++putL (put d') (v.l.take (j+1))=(B++[44#8])++put d' v.l[j]:=by rw [putL_step (put d') v.l j hj,if_neg h0,← i2]
  have hln:=congrArg List.length hst
  simp only [List.length_append,List.length_cons,List.length_nil] at hln hbs
  refine call_same (hrec d' rfl W ms v.l[j] y (B++[44#8]) c3 hT y2 (hv3 _ (List.getElem_mem hj)) hc3' (by (try simp only [List.length_append,List.length_cons,List.length_nil]); omega)) [0,6] rfl ?_ ?_ (fun _ _=>trivial) ?_
  ·(repeat first|exact trivial|refine ent1 ?_)
   exact And.intro (show B.length+1=_ by rw [List.length_append]; rfl) (by (repeat first|exact trivial|refine ent1 ?_))
  ·(repeat first|exact trivial|refine ent1 ?_)
   refine ⟨fun j' hj'=>eqC_bytes (fun i hi=>?_) j',by (repeat first|exact trivial|refine ent1 ?_)⟩
   have hi':i<(B).length+1:=by rw [List.length_append] at hi; exact hi
   refine app_row (l:=B) (n:=(B).length) (k:=1) rfl ?_ (fun i hi=>bytesF_lt hi) (fun i hi=>?_) i hi'
   ·rfl
   ·exact rowl i (by exact hi) rfl
  rintro y' hs ⟨c6,hc6,rfl,rfl⟩
  (repeat show _∧_;first|refine yr ?_|refine yt ?_|refine yf ?_|refine yo ?_)
  refine ⟨(j+1,(B++[44#8])++put d' v.l[j],c6),[0,1,2,7],⟨⟨rfl,rfl,rfl⟩,?_⟩,⟨hj,hst.symm,hc6⟩,by dsimp only; omega⟩
  dsimp only
  (repeat first|exact trivial|refine ent1 ?_)
 ·have f5:decide (v.k=5#8)=false:=decide_eq_false (by rw [k6]; decide)
  have hp:put (d'+1) v=123#8::(putO (put d') v.ns v.l++[125#8]):=by rw [hpv]; unfold put1; rw [if_neg k0,if_neg k1,if_neg k2,if_neg k3,if_neg k4,if_neg (by rw [k6]; decide)]
  rw [hp] at hl ⊢
  have hl2:b.length+(putO (put d') v.ns v.l).length+2≤70368744177664:=by simp only [List.length_cons,List.length_append,List.length_nil] at hl; omega
  (repeat show _∧_;first|refine yr ?_|refine yt ?_|refine yf ?_|refine ya f0 ?_|refine yb f0 ?_|refine ya f1 ?_|refine yb f1 ?_|refine ya f2 ?_|refine yb f2 ?_|refine ya f3 ?_|refine yb f3 ?_|refine ya f4 ?_|refine yb f4 ?_|refine ya f5 ?_|refine yb f5 ?_|refine yo ?_)
  refine And.intro ⟨hc,by simp only [scale]; omega,by show (b.length+1)*1≤140737488355328; omega⟩ ?_
  intro c1 hc1
  (repeat show _∧_;first|refine yr ?_|refine yt ?_|refine yf ?_|refine yo ?_)
  refine .inl ⟨Nat × Bs × Nat,fun x=>match x with|(j,B,c)=>⟨[.any,.a (.c (.sl 3 0 0 B.length c)),.a (.c (.p 2 0 0)),.any,.a (.c (.slc none 0 0)),.any,.any,.any,.any,.any,.a (.c (.w8 v.k)),.any,.any,.any,.any,.any,.any,.any,.any,.any,.any,.any,.any,.any,.any,.any,.any,.any,.any,.any,.any,.any,.any,.any,.any,.any,.any,.any,.any,.any,.any,.any,.any,.any,.any,.any,.any,.any,.any,.any,.any,.any,.any,.any,.any,.any,.any,.any,.any,.any,.any,.any,.any,.any,.a (.c (.slc xa xm xc)),.a (.c (.int .i64 (xm))),.a (.c (.int .i64 (((j:Nat):Int)))),.any,.any,.any,.any,.any,.any,.any,.any,.any,.any,.any,.any,.any,.any,.any,.any,.any,.any,.any,.any,.any,.any,.any,.any,.any],[[.past W ms],[],jvS v ⟨xa,xm,xc,xb,xp,xq⟩,lsC B c]⟩,
   fun x=>match x with|(j,B,c)=>j≤v.l.length∧B=(b++[123#8])++putO (put d') (v.ns.take j) (v.l.take j)∧B.length≤c,fun x=>v.l.length-x.1,⟨(0,(b++[123#8]),c1),[0,1,2,4],⟨⟨rfl,rfl,rfl⟩,?_⟩,Nat.zero_le _,by rw [List.take_zero,List.take_zero]; exact (List.append_nil _).symm,by rw [List.length_append]; exact hc1⟩,fun x hx=>?_⟩
  ·(repeat first|exact trivial|refine ent1 ?_)
   refine And.intro (show b.length+1=(b++[123#8]).length by rw [List.length_append]; rfl) ?_
   (repeat first|exact trivial|refine ent1 ?_)
   refine ⟨fun j hj=>eqC_bytes (fun i hi=>?_) j,by (repeat first|exact trivial|refine ent1 ?_)⟩
   have hi':i<b.length+1:=by rw [List.length_append] at hi; exact hi
   refine app_row (l:=b) (n:=b.length) (k:=1) rfl ?_ (fun i hi=>bytesF_lt hi) (fun i hi=>?_) i hi'
   ·rfl
   ·exact rowl i (by exact hi) rfl
  obtain ⟨j,B,c2⟩:=x
  obtain ⟨i1,i2,i3⟩:=hx
  dsimp only
  have hBl:B.length=b.length+1+(putO (put d') (v.ns.take j) (v.l.take j)).length:=by rw [i2]; simp only [List.length_append,List.length_cons,List.length_nil]; try omega
  have hjl:(putO (put d') (v.ns.take j) (v.l.take j)).length≤(putO (put d') v.ns v.l).length:=putO_le _ _ _ _ hnl
  have hBm:B.length+1≤70368744177664:=by omega
  by_cases hj:j<v.l.length
  rotate_left
  ·have e1:decide ((j:Int)<(xm:Int))=false:=decide_eq_false (by omega)
   obtain rfl:j=v.l.length:=by omega
   have hfull:b++123#8::(putO (put d') v.ns v.l++[125#8])=B++[125#8]:=by rw [i2,show v.ns.take v.l.length=v.ns by rw [← hnl,List.take_length],List.take_length]; simp
   rw [hfull]
   (repeat show _∧_;first|refine yr ?_|refine yt ?_|refine yf ?_|refine ya e1 ?_|refine yb e1 ?_|refine yo ?_)
   refine And.intro ⟨i3,by simp only [scale]; omega,by show (B.length+1)*1≤140737488355328; omega⟩ ?_
   intro c3 hc3
   (repeat show _∧_;first|refine yr ?_|refine yt ?_|refine yf ?_|refine yo ?_)
   refine ⟨.a (.c (.sl 2 0 0 (B++[125#8]).length c3)),_,⟨[0,1,5],⟨rfl,rfl,rfl⟩,?_⟩,c3,by rw [List.length_append]; exact hc3,rfl,rfl⟩
   (repeat first|exact trivial|refine ent1 ?_)
   refine And.intro (show B.length+1=(B++[125#8]).length by rw [List.length_append]; rfl) ?_
   (repeat first|exact trivial|refine ent1 ?_)
   refine ⟨fun j hj=>eqC_bytes (fun i hi=>?_) j,by (repeat first|exact trivial|refine ent1 ?_)⟩
   have hi':i<B.length+1:=by rw [List.length_append] at hi; exact hi
   refine app_row (l:=B) (n:=B.length) (k:=1) rfl ?_ (fun i hi=>bytesF_lt hi) (fun i hi=>?_) i hi'
   ·rfl
   ·exact rowl i (by exact hi) rfl
  have e1:decide ((j:Int)<(xm:Int))=true:=decide_eq_true (by omega)
  obtain ⟨A,rfl⟩:∃ A,xa=some A:=by
   cases xa with
   | none=>exact absurd (g4 rfl) (by omega)
   | some A=>exact ⟨A,rfl⟩
  obtain ⟨y,y1,y2⟩:=(g5 A rfl (by omega)).2 j v.l[j] (List.getElem?_eq_getElem hj)
  obtain ⟨Bn,rfl⟩:∃ Bn,xb=some Bn:=by
   cases xb with
   | none=>exact absurd (show v.ns.length=0 by have h1:=hns.len; simp only [List.length_map] at h1; have h2:=hns.le; have h3:=hns.nil rfl; omega) (by omega)
   | some Bn=>exact ⟨Bn,rfl⟩
  have hjn:j<v.ns.length:=by omega
  have hjp:j<xp:=by have h1:=hns.len; simp only [List.length_map] at h1; omega
  (repeat show _∧_;first|refine yr ?_|refine yt ?_|refine yf ?_|refine ya e1 ?_|refine yb e1 ?_|refine yo ?_)
  refine ⟨jvS v.l[j] y,⟨.past (i:=0) rfl (by exact y1),rfl⟩,?_⟩
  have hle1:(putO (put d') (v.ns.take (j+1)) (v.l.take (j+1))).length≤(putO (put d') v.ns v.l).length:=putO_le _ _ _ _ hnl
  have hbs:((b++[123#8]):Bs).length=b.length+1:=by simp only [List.length_append,List.length_cons,List.length_nil]
  by_cases h0:j=0
  ·have e2:decide ((0:Int)<(j:Int))=false:=decide_eq_false (by omega)
   (repeat show _∧_;first|refine yr ?_|refine yt ?_|refine yf ?_|refine ya e2 ?_|refine yb e2 ?_|refine yo ?_)
   have hst:(b++[123#8])++putO (put d') (v.ns.take (j+1)) (v.l.take (j+1))=(B++quote v.ns[j]++[58#8])++put d' v.l[j]:=by rw [putO_step (put d') v.ns v.l j hj hnl,if_pos h0,show B=(b++[123#8]) from by rw [i2,h0,List.take_zero,List.take_zero]; exact List.append_nil _]
   have hln:=congrArg List.length hst
   simp only [List.length_append,List.length_cons,List.length_nil] at hln hbs
   refine And.intro (show (0:Int)≤(j:Int)∧(j:Int)<(xp:Int) by omega) ?_
   have him:=(hns.im Bn rfl (by have:=hns.le; omega)).one (show ((v.ns.map U8).map SC.str)[j]?=some (.str (U8 v.ns[j])) by simp [hjn])
   refine ⟨[.one (.str (U8 v.ns[j]))],⟨.past (i:=0) rfl (by show ImAt W ms (Bn.add (j*1)) _; rw [Nat.mul_one]; exact him),rfl⟩,?_⟩
   (repeat show _∧_;first|refine yr ?_|refine yt ?_|refine yf ?_|refine yo ?_)
   refine call_same (fn_quote B c2 i3 (hnu _ (List.getElem_mem hjn)) (by (try simp only [List.length_append,List.length_cons,List.length_nil]); omega)) [3] rfl (by exact And.intro rfl (And.intro rfl (And.intro rfl (And.intro rfl trivial)))) ?_ (fun _ _=>trivial) ?_
   ·(repeat first|exact trivial|refine ent1 ?_)
   rintro y' hs ⟨c4,hc4,rfl,rfl⟩
   (repeat show _∧_;first|refine yr ?_|refine yt ?_|refine yf ?_|refine yo ?_)
   refine And.intro ⟨hc4,by simp only [scale]; omega,by show ((B++quote v.ns[j]).length+1)*1≤140737488355328; simp only [List.length_append,List.length_cons,List.length_nil]; omega⟩ ?_
   intro c5 hc5
   (repeat show _∧_;first|refine yr ?_|refine yt ?_|refine yf ?_|refine yo ?_)
   have hc5':((B++quote v.ns[j])++[58#8]).length≤c5:=by rw [List.length_append]; exact hc5
   refine call_same (hrec d' rfl W ms v.l[j] y ((B++quote v.ns[j])++[58#8]) c5 hT y2 (hv3 _ (List.getElem_mem hj)) hc5' (by (try simp only [List.length_append,List.length_cons,List.length_nil]); omega)) [0,7] rfl ?_ ?_ (fun _ _=>trivial) ?_
   ·(repeat first|exact trivial|refine ent1 ?_)
    exact And.intro (show (B++quote v.ns[j]).length+1=_ by simp only [List.length_append,List.length_cons,List.length_nil]) (by (repeat first|exact trivial|refine ent1 ?_))
   ·(repeat first|exact trivial|refine ent1 ?_)
    refine ⟨fun j' hj'=>eqC_bytes (fun i hi=>?_) j',by (repeat first|exact trivial|refine ent1 ?_)⟩
    have hi':i<((B++quote v.ns[j])).length+1:=by rw [List.length_append] at hi; exact hi
    refine app_row (l:=(B++quote v.ns[j])) (n:=((B++quote v.ns[j])).length) (k:=1) rfl ?_ (fun i hi=>bytesM_lt hi) (fun i hi=>?_) i hi'
    ·rfl
    ·exact rowl i (by exact hi) rfl
   rintro y' hs ⟨c6,hc6,rfl,rfl⟩
   (repeat show _∧_;first|refine yr ?_|refine yt ?_|refine yf ?_|refine yo ?_)
   refine ⟨(j+1,((B++quote v.ns[j])++[58#8])++put d' v.l[j],c6),[0,1,2,8],⟨⟨rfl,rfl,rfl⟩,?_⟩,⟨hj,hst.symm,hc6⟩,by dsimp only; omega⟩
   dsimp only
   (repeat first|exact trivial|refine ent1 ?_)
  have e2:decide ((0:Int)<(j:Int))=true:=decide_eq_true (by omega)
  (repeat show _∧_;first|refine yr ?_|refine yt ?_|refine yf ?_|refine ya e2 ?_|refine yb e2 ?_|refine yo ?_)
  refine And.intro ⟨i3,by simp only [scale]; omega,by show (B.length+1)*1≤140737488355328; omega⟩ ?_
  intro c3 hc3
  (repeat show _∧_;first|refine yr ?_|refine yt ?_|refine yf ?_|refine yo ?_)
  have hc3':(B++[44#8]).length≤c3:=by rw [List.length_append]; exact hc3
  have hst:(b++[123#8])++putO (put d') (v.ns.take (j+1)) (v.l.take (j+1))=((B++[44#8])++quote v.ns[j]++[58#8])++put d' v.l[j]:=by rw [putO_step (put d') v.ns v.l j hj hnl,if_neg h0,← i2]
  have hln:=congrArg List.length hst
  simp only [List.length_append,List.length_cons,List.length_nil] at hln hbs
  refine And.intro (show (0:Int)≤(j:Int)∧(j:Int)<(xp:Int) by omega) ?_
  have him:=(hns.im Bn rfl (by have:=hns.le; omega)).one (show ((v.ns.map U8).map SC.str)[j]?=some (.str (U8 v.ns[j])) by simp [hjn])
  refine ⟨[.one (.str (U8 v.ns[j]))],⟨.past (i:=0) rfl (by show ImAt W ms (Bn.add (j*1)) _; rw [Nat.mul_one]; exact him),rfl⟩,?_⟩
  (repeat show _∧_;first|refine yr ?_|refine yt ?_|refine yf ?_|refine yo ?_)
  refine call_same (fn_quote (B++[44#8]) c3 hc3' (hnu _ (List.getElem_mem hjn)) (by (try simp only [List.length_append,List.length_cons,List.length_nil]); omega)) [6] rfl (by exact And.intro rfl (And.intro (show B.length+1=_ by rw [List.length_append]; rfl) (And.intro rfl (And.intro rfl trivial)))) ?_ (fun _ _=>trivial) ?_
  ·(repeat first|exact trivial|refine ent1 ?_)
   refine ⟨fun j' hj'=>eqC_bytes (fun i hi=>?_) j',by (repeat first|exact trivial|refine ent1 ?_)⟩
   have hi':i<(B).length+1:=by rw [List.length_append] at hi; exact hi
   refine app_row (l:=B) (n:=(B).length) (k:=1) rfl ?_ (fun i hi=>bytesF_lt hi) (fun i hi=>?_) i hi'
   ·rfl
   ·exact rowl i (by exact hi) rfl
  rintro y' hs ⟨c4,hc4,rfl,rfl⟩
  (repeat show _∧_;first|refine yr ?_|refine yt ?_|refine yf ?_|refine yo ?_)
  refine And.intro ⟨hc4,by simp only [scale]; omega,by show (((B++[44#8])++quote v.ns[j]).length+1)*1≤140737488355328; simp only [List.length_append,List.length_cons,List.length_nil]; omega⟩ ?_
  intro c5 hc5
  (repeat show _∧_;first|refine yr ?_|refine yt ?_|refine yf ?_|refine yo ?_)
  have hc5':(((B++[44#8])++quote v.ns[j])++[58#8]).length≤c5:=by rw [List.length_append]; exact hc5
  refine call_same (hrec d' rfl W ms v.l[j] y (((B++[44#8])++quote v.ns[j])++[58#8]) c5 hT y2 (hv3 _ (List.getElem_mem hj)) hc5' (by (try simp only [List.length_append,List.length_cons,List.length_nil]); omega)) [0,9] rfl ?_ ?_ (fun _ _=>trivial) ?_
  ·(repeat first|exact trivial|refine ent1 ?_)
   exact And.intro (show ((B++[44#8])++quote v.ns[j]).length+1=_ by simp only [List.length_append,List.length_cons,List.length_nil]) (by (repeat first|exact trivial|refine ent1 ?_))
  ·(repeat first|exact trivial|refine ent1 ?_)
   refine ⟨fun j' hj'=>eqC_bytes (fun i hi=>?_) j',by (repeat first|exact trivial|refine ent1 ?_)⟩
   have hi':i<(((B++[44#8])++quote v.ns[j])).length+1:=by rw [List.length_append] at hi; exact hi
   refine app_row (l:=((B++[44#8])++quote v.ns[j])) (n:=(((B++[44#8])++quote v.ns[j])).length) (k:=1) rfl ?_ (fun i hi=>bytesM_lt hi) (fun i hi=>?_) i hi'
   ·rfl
   ·exact rowl i (by exact hi) rfl
  rintro y' hs ⟨c6,hc6,rfl,rfl⟩
  (repeat show _∧_;first|refine yr ?_|refine yt ?_|refine yf ?_|refine yo ?_)
  refine ⟨(j+1,(((B++[44#8])++quote v.ns[j])++[58#8])++put d' v.l[j],c6),[0,1,2,10],⟨⟨rfl,rfl,rfl⟩,?_⟩,⟨hj,hst.symm,hc6⟩,by dsimp only; omega⟩
  dsimp only
  (repeat first|exact trivial|refine ent1 ?_)
end Sx
end
section
namespace Js
open Sha
theorem isDig_iff (c:BitVec 8):isDig c=(decide (48#8≤c) && decide (c≤57#8)):=by
 revert c; decide +kernel
theorem dig_toNat:∀ c:BitVec 8,isDig c=true→(c-48#8).toNat=c.toNat-48∧c.toNat-48≤9:=by decide +kernel
theorem pnum_stop {n:Nat} {s:Bs} {j:Nat} (h:isDig (L s j)=false):pnum n (s.drop j)=some (n,s.drop j):=by
 rcases Nat.lt_or_ge j s.length with hj|hj
 ·rw [drop_cons s j hj,pnum,if_neg (by rw [h]; decide)]
 ·rw [List.drop_eq_nil_of_le hj]; rfl
theorem dig_lt {s:Bs} {j:Nat} (h:isDig (L s j)=true):j<s.length:=by
 apply Classical.byContradiction
 intro hc
 rw [L_ge (by omega)] at h
 revert h; decide
theorem pnum_step {n:Nat} {s:Bs} {j:Nat} (h:isDig (L s j)=true):pnum n (s.drop j)=if 18446744073709551616≤n*10+((L s j).toNat-48) then none else pnum (n*10+((L s j).toNat-48)) (s.drop (j+1)):=by
 rw [drop_cons s j (dig_lt h),pnum,if_pos h]
theorem w64_mul10 {n d:Nat} (h:n*10+d<18446744073709551616):BitVec.ofNat 64 n*10#64+BitVec.ofNat 64 d=BitVec.ofNat 64 (n*10+d):=by
 apply BitVec.eq_of_toNat_eq
 simp only [BitVec.toNat_add,BitVec.toNat_mul,BitVec.toNat_ofNat]
 omega
theorem big_dec {n d:Nat} (hn:n<18446744073709551616) (hd:d≤9):decide ((18446744073709551615#64-BitVec.ofNat 64 d) / 10#64<BitVec.ofNat 64 n)=decide (18446744073709551616≤n*10+d):=by
 refine decide_eq_decide.2 ?_
 rw [BitVec.lt_def,BitVec.toNat_udiv,BitVec.toNat_sub_of_le (by rw [BitVec.le_def]; simp only [BitVec.toNat_ofNat]; omega)]
 simp only [BitVec.toNat_ofNat]
 rw [show (18446744073709551615:Nat) % 2 ^ 64=18446744073709551615 by decide,show (10:Nat) % 2 ^ 64=10 by decide,Nat.mod_eq_of_lt (show d<2 ^ 64 by omega),Nat.mod_eq_of_lt (show n<2 ^ 64 by omega)]
 omega
theorem set_dig {c:BitVec 8} (h:isDig c=true):(c-48#8).setWidth 64=BitVec.ofNat 64 (c.toNat-48):=by
 apply BitVec.eq_of_toNat_eq
 have:=dig_toNat c h
 rw [BitVec.toNat_setWidth,this.1,BitVec.toNat_ofNat]
end Js
namespace Sx
open Go.RowKit Sha Vi Js

def NumA (s:Bs) (k:Nat) (r:R Nat) (y:SV) (hs:List (List Seg)):Prop :=
 (∃ n k',r=.ok n (s.drop k')∧k≤k'∧k'≤s.length∧y=.tup [.c (.w64 (BitVec.ofNat 64 n)),.c (.int .i64 0)]∧hs=[psr s k']) ∨
 (∃ e v k',r=.bad e∧e≠0∧k≤k'∧k'≤s.length∧y=.tup [.c (.w64 v),.c (.int .i64 e)]∧hs=[psr s k'])
set_option maxRecDepth 20000 in
set_option maxHeartbeats 8000000 in
theorem fn_number' (s:Bs) (k:Nat) (hk:isDig (L s k)=true) (hs:s.length≤1048576):Fn Tryd.prog tds 55 [psr s k] [.c (.p 0 0 0)] (fun _=>True) (NumA s k (number (s.drop k))):=by
 have hkl:=dig_lt hk
 refine fn_of_body tds_ok follows_ Tryd.func55 rfl (t:=.a (.c (.p 0 0 0))::anys (Tryd.f55.ntmps-1)) rfl (fun w r0 hr0 _=>?_)
 obtain ⟨x0,rfl⟩:=len1' hr0
 (repeat show _∧_;first|refine yr ?_|refine yt ?_|refine yf ?_|refine yo ?_)
 refine call_same (fn_peek s k) [0] rfl (by (repeat first|exact trivial|refine ent1 ?_)) (by (repeat first|exact trivial|refine ent1 ?_)) (fun _ _=>trivial) ?_
 rintro x hs' ⟨rfl,rfl⟩
 refine .inl ⟨Nat × Nat,fun (j,n)=>⟨[.a (.c (.p 0 0 0)),.any,.a (.c (.w64 (0#64))),.a (.c (.int .i64 (0))),.a (.c (.int .i64 ((k:Int)))),.a (.c (.w64 ((BitVec.ofNat 64 n)))),.a (.c (.w8 ((L s j)))),.any,.any,.any,.any,.any,.any,.any,.any,.any,.any,.any,.any,.any,.any,.any,.any,.any,.any,.any,.any,.any,.any,.any,.any,.any,.any,.any,.any,.any,.any,.any,.any,.any,.any,.any,.any,.any,.any,.any,.any,.any,.any,.any,.any,.any,.any,.any,.any,.any,.any,.any],[psr s j]⟩,fun (j,n)=>k≤j∧j≤s.length∧n<18446744073709551616∧pnum 0 (s.drop k)=pnum n (s.drop j),fun (j,_)=>s.length-j,⟨(k,0),[0],⟨⟨rfl,rfl,rfl⟩,by (repeat first|exact trivial|refine ent1 ?_)⟩,Nat.le_refl _,by omega,by decide,rfl⟩,fun (j,n) hj=>?_⟩
 obtain ⟨g1,g2,g3,g4⟩:=hj
 have hD:=isDig_iff (L s j)
 dsimp only
 by_cases hd:isDig (L s j)=true
 ·have hjl:=dig_lt hd
  rw [hd] at hD
  have hD:=hD.symm
  rw [Bool.and_eq_true] at hD
  obtain ⟨e1,e2⟩:=hD
  have hst:=pnum_step (n:=n) hd
  obtain ⟨d1,d2⟩:=dig_toNat _ hd
  obtain ⟨d,hdd⟩:∃ d,(L s j).toNat-48=d:=⟨_,rfl⟩
  have hsw:=set_dig hd
  rw [hdd] at hst d2 hsw
  have hbig:=big_dec (d:=d) g3 d2
  rw [← hsw] at hbig
  by_cases hb:18446744073709551616≤n*10+d
  ·rw [decide_eq_true hb] at hbig
   rw [if_pos hb] at hst
   (repeat show _∧_;first|refine yr ?_|refine yt ?_|refine yf ?_|refine ya e1 ?_|refine yb e1 ?_|refine ya e2 ?_|refine yb e2 ?_|refine ya hbig ?_|refine yb hbig ?_|refine yo ?_)
   refine ⟨.tup [.c (.w64 0#64),.c (.int .i64 2)],_,⟨[0],⟨rfl,rfl,rfl⟩,by (repeat first|exact trivial|refine ent1 ?_)⟩,.inr ⟨2,0#64,j,?_,by decide,g1,g2,rfl,rfl⟩⟩
   unfold number
   rw [g4,hst]
  ·rw [decide_eq_false hb] at hbig
   rw [if_neg hb] at hst
   (repeat show _∧_;first|refine yr ?_|refine yt ?_|refine yf ?_|refine ya e1 ?_|refine yb e1 ?_|refine ya e2 ?_|refine yb e2 ?_|refine ya hbig ?_|refine yb hbig ?_|refine yo ?_)
   refine call_same (fn_peek s (j+1)) [0] rfl (by (repeat first|exact trivial|refine ent1 ?_)) (by (repeat first|exact trivial|refine ent1 ?_)) (fun _ _=>trivial) ?_
   rintro x hs' ⟨rfl,rfl⟩
   refine ⟨(j+1,n*10+d),[0],⟨⟨rfl,rfl,rfl⟩,?_⟩,⟨by omega,by omega,by omega,g4.trans hst⟩,by dsimp only; omega⟩
   (repeat first|exact trivial|refine ent1 ?_)
   refine And.intro (by rw [hsw]; exact w64_mul10 (by omega)) ?_
   (repeat first|exact trivial|refine ent1 ?_)
 ·rw [Bool.not_eq_true] at hd
  rw [hd] at hD
  have hD:=hD.symm
  have hst:=pnum_stop (n:=n) hd
  have hN:number (s.drop k)=if 1<(s.drop k).length-(s.drop j).length∧(s.drop k).head?=some 48#8 then .bad 4 else .ok n (s.drop j):=by
   unfold number
   rw [g4,hst]
  have hlen:(s.drop k).length-(s.drop j).length=j-k:=by rw [List.length_drop,List.length_drop]; omega
  have hhead:(s.drop k).head?=some (L s k):=by rw [drop_cons s k hkl]; rfl
  rw [hlen,hhead] at hN
  rcases e1:decide (48#8≤L s j) with _|_
  ·by_cases c1:(k:Int)+1<(j:Int)
   ·have f1:decide ((k:Int)+1<(j:Int))=true:=decide_eq_true c1
    by_cases c2:L s k=48#8
    ·have f2:decide (L s k=48#8)=true:=decide_eq_true c2
     rw [if_pos ⟨by omega,congrArg some c2⟩] at hN
     (repeat show _∧_;first|refine yr ?_|refine yt ?_|refine yf ?_|refine ya e1 ?_|refine yb e1 ?_|refine ya f1 ?_|refine yb f1 ?_|refine yo ?_)
     refine And.intro ⟨by omega,by rw [U8_len]; omega⟩ ?_
     rw [show ((U8 s).getD ((k:Int)).toNat 0).toBitVec=L s k from U8_get s k hkl]
     (repeat show _∧_;first|refine yr ?_|refine yt ?_|refine yf ?_|refine ya f1 ?_|refine yb f1 ?_|refine ya f2 ?_|refine yb f2 ?_|refine yo ?_)
     exact ⟨.tup [.c (.w64 0#64),.c (.int .i64 4)],_,⟨[0],⟨rfl,rfl,rfl⟩,by (repeat first|exact trivial|refine ent1 ?_)⟩,.inr ⟨4,0#64,j,hN,by decide,g1,g2,rfl,rfl⟩⟩
    ·have f2:decide (L s k=48#8)=false:=decide_eq_false c2
     rw [if_neg (fun h=>c2 (Option.some.inj h.2))] at hN
     (repeat show _∧_;first|refine yr ?_|refine yt ?_|refine yf ?_|refine ya e1 ?_|refine yb e1 ?_|refine ya f1 ?_|refine yb f1 ?_|refine yo ?_)
     refine And.intro ⟨by omega,by rw [U8_len]; omega⟩ ?_
     rw [show ((U8 s).getD ((k:Int)).toNat 0).toBitVec=L s k from U8_get s k hkl]
     (repeat show _∧_;first|refine yr ?_|refine yt ?_|refine yf ?_|refine ya f1 ?_|refine yb f1 ?_|refine ya f2 ?_|refine yb f2 ?_|refine yo ?_)
     exact ⟨.tup [.c (.w64 (BitVec.ofNat 64 n)),.c (.int .i64 0)],_,⟨[0],⟨rfl,rfl,rfl⟩,by (repeat first|exact trivial|refine ent1 ?_)⟩,.inl ⟨n,j,hN,g1,g2,rfl,rfl⟩⟩
   ·have f1:decide ((k:Int)+1<(j:Int))=false:=decide_eq_false c1
    rw [if_neg (fun h=>c1 (by omega))] at hN
    (repeat show _∧_;first|refine yr ?_|refine yt ?_|refine yf ?_|refine ya e1 ?_|refine yb e1 ?_|refine ya f1 ?_|refine yb f1 ?_|refine yo ?_)
    exact ⟨.tup [.c (.w64 (BitVec.ofNat 64 n)),.c (.int .i64 0)],_,⟨[0],⟨rfl,rfl,rfl⟩,by (repeat first|exact trivial|refine ent1 ?_)⟩,.inl ⟨n,j,hN,g1,g2,rfl,rfl⟩⟩
  ·rw [e1] at hD
   have e2:decide (L s j≤57#8)=false:=hD
   by_cases c1:(k:Int)+1<(j:Int)
   ·have f1:decide ((k:Int)+1<(j:Int))=true:=decide_eq_true c1
    by_cases c2:L s k=48#8
    ·have f2:decide (L s k=48#8)=true:=decide_eq_true c2
     rw [if_pos ⟨by omega,congrArg some c2⟩] at hN
     (repeat show _∧_;first|refine yr ?_|refine yt ?_|refine yf ?_|refine ya e1 ?_|refine yb e1 ?_|refine ya e2 ?_|refine yb e2 ?_|refine ya f1 ?_|refine yb f1 ?_|refine yo ?_)
     refine And.intro ⟨by omega,by rw [U8_len]; omega⟩ ?_
     rw [show ((U8 s).getD ((k:Int)).toNat 0).toBitVec=L s k from U8_get s k hkl]
     (repeat show _∧_;first|refine yr ?_|refine yt ?_|refine yf ?_|refine ya f1 ?_|refine yb f1 ?_|refine ya f2 ?_|refine yb f2 ?_|refine yo ?_)
     exact ⟨.tup [.c (.w64 0#64),.c (.int .i64 4)],_,⟨[0],⟨rfl,rfl,rfl⟩,by (repeat first|exact trivial|refine ent1 ?_)⟩,.inr ⟨4,0#64,j,hN,by decide,g1,g2,rfl,rfl⟩⟩
    ·have f2:decide (L s k=48#8)=false:=decide_eq_false c2
     rw [if_neg (fun h=>c2 (Option.some.inj h.2))] at hN
     (repeat show _∧_;first|refine yr ?_|refine yt ?_|refine yf ?_|refine ya e1 ?_|refine yb e1 ?_|refine ya e2 ?_|refine yb e2 ?_|refine ya f1 ?_|refine yb f1 ?_|refine yo ?_)
     refine And.intro ⟨by omega,by rw [U8_len]; omega⟩ ?_
     rw [show ((U8 s).getD ((k:Int)).toNat 0).toBitVec=L s k from U8_get s k hkl]
     (repeat show _∧_;first|refine yr ?_|refine yt ?_|refine yf ?_|refine ya f1 ?_|refine yb f1 ?_|refine ya f2 ?_|refine yb f2 ?_|refine yo ?_)
     exact ⟨.tup [.c (.w64 (BitVec.ofNat 64 n)),.c (.int .i64 0)],_,⟨[0],⟨rfl,rfl,rfl⟩,by (repeat first|exact trivial|refine ent1 ?_)⟩,.inl ⟨n,j,hN,g1,g2,rfl,rfl⟩⟩
   ·have f1:decide ((k:Int)+1<(j:Int))=false:=decide_eq_false c1
    rw [if_neg (fun h=>c1 (by omega))] at hN
    (repeat show _∧_;first|refine yr ?_|refine yt ?_|refine yf ?_|refine ya e1 ?_|refine yb e1 ?_|refine ya e2 ?_|refine yb e2 ?_|refine ya f1 ?_|refine yb f1 ?_|refine yo ?_)
    exact ⟨.tup [.c (.w64 (BitVec.ofNat 64 n)),.c (.int .i64 0)],_,⟨[0],⟨rfl,rfl,rfl⟩,by (repeat first|exact trivial|refine ent1 ?_)⟩,.inl ⟨n,j,hN,g1,g2,rfl,rfl⟩⟩
end Sx
end
end Go.Proofs.YtnehmcpkeamghaaDoor
