/-
  Texts of this claim, part 6: JsX, Shg, JsN, JsV, JsB, JsC, JsD, JsF, JsNa, JsI, JsL, JsS, JsG, JsH, JsJ, JsO, JsK, JsW, JsY, JsZ, QjB, EoC, EoD, VwB, EoE. No condition of its own.
-/
import Derived.Test.YtnehmcpkeamghaaDoorRows
import Derived.Shelf.Strconv.Itoa2
import Derived.Test.YtnehmcpkeamghaaDoorG5
namespace Go.Proofs.YtnehmcpkeamghaaDoor
set_option linter.unusedVariables false
section
namespace Sx
open Go.RowKit Sha Vi Js

theorem FnR.ofCalls {P:Program} {T:List (Nat × TD)} {f:FuncId} {n:Nat} {h0:List (List Seg)} {args:List SA} {raw:World→Prop} {Res:SV→List (List Seg)→Prop}
  (h:∀ (w:World) (r0:Rho) (vs:List Value),HeapOk (cx0 P T w r0 n h0) h0 r0 w→IsAs r0 args vs→raw w→Calls P f vs.toArray w fun e w'=>∃ v x,e=.returned v∧SV.Is r0 x v∧Below w.heap.size w w'∧Res x h0):FnR P T f n h0 args raw Res:=fun w r0 vs ok ha hr=>(h w r0 vs ok ha hr).mono (by
 rintro e w' ⟨v,x,rfl,hx,hb,hres⟩
 exact ⟨v,x,h0,r0,rfl,hx,ok.ext0 ⟨hb.os,hb.tape,hb.output,hb.size,fun k hk _=>hb.block k hk⟩,hres⟩)
theorem IsAs.one {r:Rho} {x:SA} {vs:List Value} (h:IsAs r [x] vs):∃ v,vs=[v]∧x.Is r v:=by
 obtain ⟨hl,h⟩:=h
 obtain ⟨v,e,hv⟩:=h 0 x rfl
 match vs,hl,e with
 | [u],_,e=>injection e with e; subst e; exact ⟨_,rfl,hv⟩
theorem IsAs.two {r:Rho} {x y:SA} {vs:List Value} (h:IsAs r [x,y] vs):∃ v u,vs=[v,u]∧x.Is r v∧y.Is r u:=by
 obtain ⟨hl,h⟩:=h
 obtain ⟨v,e,hv⟩:=h 0 x rfl
 obtain ⟨u,e2,hu⟩:=h 1 y rfl
 match vs,hl,e,e2 with
 | [a,b],_,e,e2=>injection e with e; injection e2 with e2; subst e; subst e2; exact ⟨_,_,rfl,hv,hu⟩
structure Tabs (W:World) (ms:List Nat):Prop where
 u8:Lib.Utf8Tabs 0 1 W
 p10:Lib.TabIs Tryd.prog W p10n .u64 Lib.pow10Tab
 lt:6≤W.heap.size
 nin:∀ B,B<6→B ∉ ms
theorem p10_glob:Tryd.prog.globalNamed p10n=some 3:=by kernel_rfl
theorem Tabs.ext {W w:World} {ms:List Nat} (h:Tabs W ms) (k:Ext ms W w):Lib.Utf8Tabs 0 1 w∧Lib.TabIs Tryd.prog w p10n .u64 Lib.pow10Tab:=by
 have hb:∀ B,B<6→w.heap[B]?=W.heap[B]?:=fun B hB=>k.block B (Nat.lt_of_lt_of_le hB h.lt) (h.nin B hB)
 refine ⟨⟨fun c hc=>(World.cell?_of_block (hb 0 (by decide))).trans (h.u8.1 c hc),fun i hi=>⟨(World.cell?_of_block (hb 1 (by decide))).trans (h.u8.2 i hi).1,(World.cell?_of_block (hb 1 (by decide))).trans (h.u8.2 i hi).2⟩⟩,?_⟩
 have:=h.p10
 unfold Lib.TabIs World.var? at this ⊢
 rw [p10_glob] at this ⊢
 simp only [Option.bind_some] at this ⊢
 rw [hb 3 (by decide)]
 exact this
theorem Tabs.later {W W':World} {ms ms':List Nat} (h:Tabs W ms) (k:Later W ms W' ms'):Tabs W' ms' :=
 ⟨(h.ext k.1).1,(h.ext k.1).2,Nat.le_trans h.lt k.1.size,fun B hB=>k.2 B (Nat.lt_of_lt_of_le hB h.lt) (h.nin B hB)⟩
theorem past_ext {P:Program} {T:List (Nat × TD)} {w:World} {r0:Rho} {n:Nat} {h0:List (List Seg)} {W:World} {ms:List Nat} (ok:HeapOk (cx0 P T w r0 n h0) h0 r0 w) {i:Nat} (h:h0[i]?=some [.past W ms]):Ext ms W w:=(ok.past i W ms h).1
theorem fn_valid {W:World} {ms:List Nat} (hT:Tabs W ms) {s:Bs} (hs:Utf s) (hl:s.length≤9223372036854775807):FnR Tryd.prog tds 65 1 [[.past W ms]] [.c (.str (U8 s))] (fun _=>True) (fun y hs=>y=.a (.c (.bool true))∧hs=[[.past W ms]]) :=
 FnR.ofCalls fun w r0 vs ok ha _=>by
  obtain ⟨v,rfl,hv⟩:=ha.one
  obtain rfl:v=.string ⟨(U8 s).toArray⟩:=hv
  refine (Tryd.utf8_ValidString ⟨(U8 s).toArray⟩ w (by rw [size_U8]; exact hl) (hT.ext (past_ext ok (i:=0) rfl)).1).mono ?_
  rintro e w' ⟨rfl,hb⟩
  refine ⟨_,.a (.c (.bool true)),rfl,?_,hb,rfl,rfl⟩
  show Value.bool _=.bool true
  congr 1
  exact valid_U8 hs
theorem fn_numDigits {W:World} {ms:List Nat} (hT:Tabs W ms) (u:BitVec 64) (hu:1≤u.toNat):FnR Tryd.prog tds 84 1 [[.past W ms]] [.c (.w64 u)] (fun _=>True) (fun y hs=>y=.a (.c (.int .i64 (Lib.nDigits u.toNat:Int)))∧hs=[[.past W ms]]) :=
 FnR.ofCalls fun w r0 vs ok ha _=>by
  obtain ⟨v,rfl,hv⟩:=ha.one
  obtain rfl:v=.int .u64 (u.toNat:Int):=hv
  refine (Tryd.internal_strconv_numDigits u.toNat hu u.isLt w (hT.ext (past_ext ok (i:=0) rfl)).2).mono ?_
  rintro e w' ⟨rfl,rfl⟩
  exact ⟨_,.a (.c (.int .i64 (Lib.nDigits u.toNat:Int))),rfl,rfl,Below.refl _ _,rfl,rfl⟩
end Sx
end
end Go.Proofs.YtnehmcpkeamghaaDoor
section
namespace Go.Proofs
open Go.Shelf
def Tryd.lays285_ren:Go.Shelf.Ren:=⟨fun|285=>85|n=>n,fun|37=>25|51=>147|53=>23|0=>0|3=>3|4=>4|5=>5|9=>9|n=>n,fun|n=>n⟩
theorem Tryd.lays285:Go.Proofs.Lays.n285 Tryd.prog Tryd.lays285_ren:={
 mixed:=by kernel_rfl
 f285:=Tryd.func85.trans (congrArg some (by kernel_rfl))
 t0:=Tryd.underlying0
 a0:=Tryd.isAgg0
 z0:=Tryd.sizeOf0
 v0:=Tryd.zeroValue0
 t3:=Tryd.underlying3
 a3:=Tryd.isAgg3
 z3:=Tryd.sizeOf3
 v3:=Tryd.zeroValue3
 t4:=Tryd.underlying4
 a4:=Tryd.isAgg4
 z4:=Tryd.sizeOf4
 v4:=Tryd.zeroValue4
 t5:=Tryd.underlying5
 a5:=Tryd.isAgg5
 z5:=Tryd.sizeOf5
 v5:=Tryd.zeroValue5
 t9:=Tryd.underlying9
 a9:=Tryd.isAgg9
 z9:=Tryd.sizeOf9
 v9:=Tryd.zeroValue9
 t37:=Tryd.underlying25
 a37:=Tryd.isAgg25
 z37:=Tryd.sizeOf25
 v37:=Tryd.zeroValue25
 t51:=Tryd.underlying147
 a51:=Tryd.isAgg147
 z51:=Tryd.sizeOf147
 v51:=Tryd.zeroValue147
 t53:=Tryd.underlying23
 a53:=Tryd.isAgg23
 z53:=Tryd.sizeOf23
 v53:=Tryd.zeroValue23 }
open Go.Shelf Go.RowKit Go.Sort Go.Lib in
theorem Tryd.internal_strconv_formatBase10 (blk off cap:Nat) (u:Nat) (d:Array UInt8) (w:World) (hH:Holds (fun (b:UInt8)=>Value.int .u8 (b.toNat:Int)) w blk off d) (hu:u<10 ^ d.size) (hu64:u<18446744073709551616) (hsz:d.size<4611686018427387904) :
  Calls Tryd.prog 85 #[.slice (some ⟨blk,off,none⟩) d.size cap,.int .u64 u] w fun e w' =>
   e=.returned (.tuple #[])∧∃ (n v':Nat) (dk:Array UInt8),w'=(putRow (fun (b:UInt8)=>Value.int .u8 (b.toNat:Int)) w blk off dk).drewN n∧FmtInv d.size u 0 v' dk :=
 Any.internal_strconv_formatBase10 Tryd.lays285 blk off cap u d w hH hu hu64 hsz
end Go.Proofs
end
namespace Go.Proofs.YtnehmcpkeamghaaDoor
set_option linter.unusedVariables false
section
namespace Sx
open Go.RowKit Sha Vi Js

def setL (c:Array Value) (o:Nat):List Value→Array Value
 | []=>c
 | v::vs=>setL (c.setIfInBounds o v) (o+1) vs
theorem setCells_map (B:Nat):∀ (vs:List Value) (o:Nat) (w:World),w.setCells B o vs=Go.Sort.mapBlock w B (fun c=>setL c o vs)
 | [],o,w=>(Go.Sort.mapBlock_id w B _ fun c e fr h=>rfl).symm
 | v::vs,o,w=>by
  rw [World.setCells,setCells_map B vs (o+1),Go.Sort.setCell_eq,Go.Sort.mapBlock_mapBlock]
  rfl
theorem setL_at:∀ (vs:List Value) (o:Nat) (c:Array Value) (k:Nat),(setL c o vs)[k]?=if o≤k∧k<o+vs.length then (c[k]?).bind fun _=>vs[k-o]? else c[k]?
 | [],o,c,k=>by rw [if_neg (by simp <;> omega)]; rfl
 | v::vs,o,c,k=>by
  rw [setL,setL_at vs (o+1)]
  by_cases h1:o=k
  ·subst h1
   rw [if_neg (by omega),if_pos ⟨Nat.le_refl _,by simp⟩]
   simp only [Array.getElem?_setIfInBounds,if_true,Nat.sub_self,List.getElem?_cons_zero]
   by_cases hc:o<c.size
   ·rw [if_pos hc,Array.getElem?_eq_getElem hc]; rfl
   ·rw [if_neg hc,Array.getElem?_eq_none (by omega)]; rfl
  ·have e:(c.setIfInBounds o v)[k]?=c[k]?:=by rw [Array.getElem?_setIfInBounds,if_neg h1]
   rw [e]
   by_cases h2:o+1≤k∧k<o+1+vs.length
   ·rw [if_pos h2,if_pos ⟨by omega,by simp; omega⟩,show k-o=(k-(o+1))+1 by omega]
    rfl
   ·rw [if_neg h2,if_neg (by simp; omega)]
theorem putRow_cells (w:World) (B o:Nat) (d:Array UInt8):Go.Sort.putRow (fun (b:UInt8)=>Value.int .u8 (b.toNat:Int)) w B o d=w.setCells B o (d.toList.map fun b=>Value.int .u8 (b.toNat:Int)):=by
 rw [setCells_map]
 refine Go.Sort.mapBlock_congr _ _ _ _ fun c e fr _=>?_
 apply Array.ext_getElem?
 intro k
 rw [setL_at]
 simp only [Go.Sort.putCells,Array.getElem?_mapIdx,List.length_map,Array.length_toList]
 by_cases h:o≤k∧k<o+d.size
 ·rw [if_pos h]
  cases c[k]? with
  | none=>rfl
  | some x =>
   simp only [Option.map_some,Option.bind_some]
   rw [if_pos h,List.getElem?_map,Array.getElem?_toList,Array.getElem?_eq_getElem (show k-o<d.size by omega),Option.map_some,getElem!_pos d (k-o) (by omega)]
 ·rw [if_neg h]
  cases c[k]? with
  | none=>rfl
  | some x=>rw [Option.map_some,if_neg h]
theorem HeapOk.drewN {C:Cx} {h:List (List Seg)} {r:Rho} {w:World} (ok:HeapOk C h r w) (n:Nat):HeapOk C h r (w.drewN n) :=
 ok.ext0 ⟨rfl,rfl,rfl,Nat.le_refl _,fun _ _ _=>rfl⟩
def fmtF (n u:Nat) (d:Nat→SC) (i:Nat):SC:=if i<n then .w8 (b8 (48+u / 10 ^ (n-1-i) % 10)) else d i
theorem dg_b8 (u j:Nat):((Lib.dg u j).toNat:Int)=((b8 (48+u / 10 ^ j % 10)).toNat:Int):=by
 unfold Lib.dg b8
 simp
theorem fn_fmt {n N:Nat} {u:BitVec 64} (hu:u.toNat<10 ^ n) (hn:n≤N) (hn2:n<4611686018427387904) (d:Nat→SC) (hd:∀ i,i<n→∃ x,d i=.w8 x) :
  Fn Tryd.prog tds 85 [[.row N d]] [.c (.sl 0 0 0 n N),.c (.w64 u)] (fun _=>True) (fun y hs=>y=.tup []∧hs=[[.row N (fmtF n u.toNat d)]]):=fun w r0 vs ok ha _=>by
 obtain ⟨v1,v2,rfl,h1,h2⟩:=ha.two
 obtain ⟨B,f,hr,rfl⟩:=h1
 obtain rfl:v2=.int .u64 (u.toNat:Int):=h2
 rw [show f+(0+0)=f by omega]
 have hA:=ok.chunks 0 _ B f rfl hr
 have hcell:∀ j,j<n→∃ x:BitVec 8,d j=.w8 x∧w.cell? ⟨B,f+j,none⟩=some (.int .u8 (x.toNat:Int))∧w.frozen? ⟨B,f+j,none⟩=false:=fun j hj=>by
  obtain ⟨x,hx⟩:=hd j hj
  obtain ⟨v,e1,e2,e3⟩:=hA j (d j) (flat_row_lt N d [] (by omega))
  rw [hx] at e2
  obtain rfl:v=.int .u8 (x.toNat:Int):=e2
  exact ⟨x,hx,e1,(e3 rfl).fr e1⟩
 have hdd:∃ dd:Array UInt8,dd.size=n∧Go.Sort.Holds (fun (b:UInt8)=>Value.int .u8 (b.toNat:Int)) w B f dd:=by
  refine ⟨Array.ofFn fun i:_root_.Fin n=>UInt8.ofBitVec (match d i.val with|.w8 x=>x|_=>0),by simp,fun j hj=>?_⟩
  rw [Array.size_ofFn] at hj
  obtain ⟨x,hx,e1,e2⟩:=hcell j hj
  refine ⟨?_,e2⟩
  rw [e1,getElem!_pos _ j (by simpa using hj),Array.getElem_ofFn]
  simp only [hx]
  rfl
 obtain ⟨dd,hds,hH⟩:=hdd
 have hc:=Tryd.internal_strconv_formatBase10 B f N u.toNat dd w hH (by rw [hds]; exact hu) u.isLt (by rw [hds]; exact hn2)
 rw [hds] at hc
 refine hc.mono ?_
 rintro e w' ⟨rfl,k,v',dk,rfl,hF⟩
 rw [putRow_cells]
 have hput:=ok.put (i:=0) (B:=B) (f:=f) hr (ch:=[.row N d]) (l':=[.row N (fmtF n u.toNat d)]) (new:=[.row n (fmtF n u.toNat d)]) (at_:=0) rfl (by simp) ?_ (vs:=dk.toList.map fun b=>Value.int .u8 (b.toNat:Int)) ?_ (Nat.le_refl _) rfl
 ·exact ⟨_,.tup [],_,r0,rfl,⟨[],rfl,rfl,fun j x e=>by cases e⟩,hput.drewN k,rfl,rfl⟩
 ·refine ⟨by rw [flat_len_row,flat_len_row]; simp [flat]; omega,by rw [flat_len_row,flat_len_row],fun j=>?_⟩
  rw [flat_len_row]
  by_cases hj:0≤j∧j<0+(n+(flat []).length)
  ·have hj':j<n:=by simp [flat] at hj; omega
   rw [if_pos hj,flat_row_lt _ _ _ (by omega),flat_row_lt _ _ _ (by omega)]
   rfl
  ·have hj':n≤j:=by simp [flat] at hj; omega
   rw [if_neg hj]
   by_cases hN:j<N
   ·rw [flat_row_lt _ _ _ hN,flat_row_lt _ _ _ hN]
    unfold fmtF
    rw [if_neg (by omega)]
   ·rw [flat_row_ge _ _ _ (by omega),flat_row_ge _ _ _ (by omega)]
 ·have hsz:dk.size=n:=hF.size
  refine ⟨by rw [flat_len_row]; simp [flat,hsz],fun j x e=>?_⟩
  have hj:j<n:=by
   rcases Nat.lt_or_ge j n with h|h
   ·exact h
   ·rw [flat_row_ge _ _ _ h] at e; cases e
  rw [flat_row_lt _ _ _ hj] at e
  injection e with e
  subst e
  refine ⟨.int .u8 (dk[j]!.toNat:Int),?_,?_⟩
  ·rw [List.getElem?_map,Array.getElem?_toList,Array.getElem?_eq_getElem (show j<dk.size by omega),Option.map_some,getElem!_pos dk j (by omega)]
  ·unfold fmtF
   rw [if_pos hj,hF.done j (Nat.zero_le _) hj]
   exact congrArg (Value.int .u8) (dg_b8 u.toNat (n-1-j))
end Sx
end
section
namespace Js
open Sha

end Js
end
section
namespace Sx
open Go.RowKit Sha Vi Js

end Sx
end
section
namespace Sx
open Go.RowKit Sha Vi Js

end Sx
end
section
namespace Sx
open Go.RowKit Sha Vi Js

end Sx
end
section
namespace Js
open Sha
theorem drop_cons (s:Bs) (j:Nat) (h:j<s.length):s.drop j=L s j::s.drop (j+1):=by
 rw [List.drop_eq_getElem_cons h,← L_lt h]
end Js
namespace Sx
open Go.RowKit Sha Vi Js

theorem row_U8 {m:Bs} (i:Nat) (hi:i<m.length):SC.w8 ((U8 m).getD i 0).toBitVec=.w8 (L m i):=congrArg SC.w8 (U8_get m i hi)
end Sx
end
section
namespace Sx
open Go.RowKit Sha Vi Js

theorem dig_nd {u:Nat} (h:u<18446744073709551616):(dig u).length=Lib.nDigits u:=by
 rw [← Lib.decDigits_length,dig_dec h,U8_len]
theorem dig_le {u:Nat} (h:u<18446744073709551616):(dig u).length≤20:=digs_len 20 u 20 (Nat.lt_of_lt_of_le h (by decide)) (by decide)
theorem dig_pos (u:Nat):1≤(dig u).length:=by
 have:=digs_ne 20 u (by decide)
 unfold dig
 cases h:digs 20 u with
 | nil=>exact absurd h this
 | cons a l=>simp
theorem dig_at {u:Nat} (h:u<18446744073709551616) (d:Nat→SC) (i:Nat) (hi:i<(dig u).length):fmtF (dig u).length u d i=.w8 (L (dig u) i):=by
 have e:=dig_dec h
 rw [Lib.decDigits_eq,← dig_nd h] at e
 have e2:((U8 (dig u)).getD i 0).toBitVec=L (dig u) i:=U8_get _ i hi
 rw [← e2,← e]
 unfold fmtF
 rw [if_pos hi,List.getD_eq_getElem?_getD,List.getElem?_map,List.getElem?_range hi,Option.map_some,Option.getD_some]
 congr 1
theorem fn_small {i:Nat} (h:i<100):Fn Tryd.prog tds 83 [] [.c (.int .i64 (i:Int))] (fun _=>True) (fun y hs=>y=.a (.c (.str (U8 (dig i))))∧hs=[]) :=
 FnR.ofCalls fun w r0 vs ok ha _=>by
  obtain ⟨v,rfl,hv⟩:=ha.one
  obtain rfl:v=.int .i64 (i:Int):=hv
  refine (Tryd.internal_strconv_small i h w).mono ?_
  rintro e w' ⟨rfl,rfl⟩
  exact ⟨_,.a (.c (.str (U8 (dig i)))),rfl,by rw [dig_dec (by omega)]; rfl,Below.refl _ _,rfl,rfl⟩
set_option maxRecDepth 20000 in
set_option maxHeartbeats 8000000 in
theorem fn_iuint0 {W:World} {ms:List Nat} (hT:Tabs W ms) (u:BitVec 64):FnR Tryd.prog tds 76 1 [[.past W ms]] [.c (.slc none 0 0),.c (.w64 u),.c (.int .i64 10)] (fun _=>True)
  (fun x hs=>∃ c',(dig u.toNat).length≤c'∧x=.a (.c (.sl 1 0 0 (dig u.toNat).length c'))∧hs=[[.past W ms],lsC (dig u.toNat) c']):=by
 refine fn_of_body tds_ok follows_ Tryd.func76 rfl (t:=.a (.c (.slc none 0 0))::.a (.c (.w64 u))::.a (.c (.int .i64 10))::anys (Tryd.f76.ntmps-3)) rfl (fun w r0 hr _=>?_)
 obtain ⟨x0,rfl⟩:=len1' hr
 have e1:decide ((10:Int)=10)=true:=rfl
 by_cases h1:u.toNat<100
 ·have e2:decide (u<100#64)=true:=decide_eq_true (by rw [BitVec.lt_def]; exact h1)
  (repeat show _∧_;first|refine yr ?_|refine yt ?_|refine yf ?_|refine ya e1 ?_|refine yb e1 ?_|refine ya e2 ?_|refine yb e2 ?_|refine yo ?_)
  refine call_same (fn_small h1) [] rfl (by exact And.intro rfl trivial) trivial (fun _ _=>trivial) ?_
  rintro y hs ⟨rfl,rfl⟩
  have hl:(U8 (dig u.toNat)).length=(dig u.toNat).length:=U8_len _
  have h20:=dig_le u.isLt
  have h01:=dig_pos u.toNat
  (repeat show _∧_;first|refine yr ?_|refine yt ?_|refine yf ?_|refine yo ?_)
  refine And.intro (by rw [hl]; show _*1≤_; omega) ?_
  refine And.intro (fun hz=>absurd (hl.symm.trans hz) (by omega)) (fun _=>?_)
  intro c' hc'
  refine ⟨.a (.c (.sl 1 0 0 (dig u.toNat).length c')),_,⟨[0,1],⟨rfl,rfl,rfl⟩,?_⟩,c',by rw [← hl]; exact hc',rfl,rfl⟩
  (repeat first|exact trivial|refine ent1 ?_)
  refine ⟨fun j' hj'=>eqC_bytes (fun i hi=>?_) j',by (repeat first|exact trivial|refine ent1 ?_)⟩
  exact new_row (m:=dig u.toNat) (fun i hi=>row_U8 i (by rw [← hl]; exact hi)) i (by rw [hl]; exact hi)
 ·have e2:decide (u<100#64)=false:=decide_eq_false (by rw [BitVec.lt_def]; exact h1)
  (repeat show _∧_;first|refine yr ?_|refine yt ?_|refine yf ?_|refine ya e1 ?_|refine yb e1 ?_|refine ya e2 ?_|refine yb e2 ?_|refine yo ?_)
  refine call_same (fn_numDigits hT u (by omega)) [0] rfl (by exact And.intro rfl trivial) (by (repeat first|exact trivial|refine ent1 ?_)) (fun _ _=>trivial) ?_
  rintro y hs ⟨rfl,rfl⟩
  have h20:=dig_le u.isLt
  have h01:=dig_pos u.toNat
  rw [← dig_nd u.isLt]
  dsimp only
  (repeat show _∧_;first|refine yr ?_|refine yt ?_|refine yf ?_|refine yo ?_)
  refine call_same (fn_fmt (n:=(dig u.toNat).length) (N:=24) (u:=u) (by rw [dig_nd u.isLt]; exact Lib.lt_pow_nDigits _) (by omega) (by omega) (fun _=>.w8 0#8) (fun i _=>⟨_,rfl⟩)) [1] rfl (by exact And.intro rfl (And.intro rfl (And.intro rfl (And.intro rfl trivial)))) (by (repeat first|exact trivial|refine ent1 ?_)) (fun _ _=>trivial) ?_
  rintro y hs ⟨rfl,rfl⟩
  (repeat show _∧_;first|refine yr ?_|refine yt ?_|refine yf ?_|refine yo ?_)
  refine frcN_of (m:=0) rfl ?_
  refine frcN_of (m:=(dig u.toNat).length) (Int.toNat_natCast _) ?_
  dsimp only
  refine frcN_of (m:=0) rfl ?_
  refine frcN_of (m:=(dig u.toNat).length) rfl ?_
  refine frcN_of (m:=24) rfl ?_
  (repeat show _∧_;first|refine yr ?_|refine yt ?_|refine yf ?_|refine yo ?_)
  refine And.intro (show 0+scale (dig u.toNat).length (0+1)≤24 by simp only [scale]; omega) ?_
  refine And.intro ⟨rfl,rfl⟩ ?_
  refine And.intro (by show _*1≤_; omega) ?_
  refine And.intro (fun hz=>absurd hz (by omega)) (fun _=>?_)
  intro c' hc'
  refine ⟨.a (.c (.sl 1 0 0 (dig u.toNat).length c')),_,⟨[0,2],⟨rfl,rfl,rfl⟩,?_⟩,c',hc',rfl,rfl⟩
  (repeat first|exact trivial|refine ent1 ?_)
  refine ⟨fun j' hj'=>eqC_bytes (fun i hi=>?_) j',by (repeat first|exact trivial|refine ent1 ?_)⟩
  exact new_row (m:=dig u.toNat) (fun i hi=>congrArg (SC.mp (bk 2 [1])) (dig_at u.isLt (fun _=>.w8 0#8) i hi)) i hi
set_option maxRecDepth 20000 in
set_option maxHeartbeats 8000000 in
theorem fn_iuint {W:World} {ms:List Nat} (hT:Tabs W ms) (b:Bs) (c:Nat) (hb:b.length≤70368744177664) (hc:b.length≤c) (u:BitVec 64):FnR Tryd.prog tds 76 1 [[.past W ms],lsC b c] [.c (.sl 1 0 0 b.length c),.c (.w64 u),.c (.int .i64 10)] (fun _=>True)
  (fun x hs=>∃ c',(b++dig u.toNat).length≤c'∧x=.a (.c (.sl 2 0 0 (b++dig u.toNat).length c'))∧hs=[[.past W ms],[],lsC (b++dig u.toNat) c']):=by
 refine fn_of_body tds_ok follows_ Tryd.func76 rfl (t:=.a (.c (.sl 1 0 0 b.length c))::.a (.c (.w64 u))::.a (.c (.int .i64 10))::anys (Tryd.f76.ntmps-3)) rfl (fun w r0 hr _=>?_)
 obtain ⟨x0,x1,rfl⟩:=len2' hr
 have e1:decide ((10:Int)=10)=true:=rfl
 by_cases h1:u.toNat<100
 ·have e2:decide (u<100#64)=true:=decide_eq_true (by rw [BitVec.lt_def]; exact h1)
  (repeat show _∧_;first|refine yr ?_|refine yt ?_|refine yf ?_|refine ya e1 ?_|refine yb e1 ?_|refine ya e2 ?_|refine yb e2 ?_|refine yo ?_)
  refine call_same (fn_small h1) [] rfl (by exact And.intro rfl trivial) trivial (fun _ _=>trivial) ?_
  rintro y hs ⟨rfl,rfl⟩
  have hl:(U8 (dig u.toNat)).length=(dig u.toNat).length:=U8_len _
  have h20:=dig_le u.isLt
  have h01:=dig_pos u.toNat
  (repeat show _∧_;first|refine yr ?_|refine yt ?_|refine yf ?_|refine yo ?_)
  refine And.intro ⟨by omega,by simp only [scale]; omega,by rw [hl]; show (b.length+(dig u.toNat).length)*1≤140737488355328; omega⟩ ?_
  intro c' hc'
  refine ⟨.a (.c (.sl 2 0 0 (b++dig u.toNat).length c')),_,⟨[0,1,2],⟨rfl,rfl,rfl⟩,?_⟩,c',by rw [List.length_append,← hl]; exact hc',rfl,rfl⟩
  (repeat first|exact trivial|refine ent1 ?_)
  refine And.intro (by rw [List.length_append,hl]) ?_
  (repeat first|exact trivial|refine ent1 ?_)
  refine ⟨fun j' hj'=>eqC_bytes (fun i hi=>?_) j',by (repeat first|exact trivial|refine ent1 ?_)⟩
  have hi':i<b.length+(dig u.toNat).length:=by rw [List.length_append] at hi; exact hi
  rw [hl]
  refine app_row (l:=b) (n:=b.length) (k:=(dig u.toNat).length) rfl rfl (fun i hi=>bytesF_lt hi) (fun i hi=>row_U8 i hi) i hi'
 ·have e2:decide (u<100#64)=false:=decide_eq_false (by rw [BitVec.lt_def]; exact h1)
  (repeat show _∧_;first|refine yr ?_|refine yt ?_|refine yf ?_|refine ya e1 ?_|refine yb e1 ?_|refine ya e2 ?_|refine yb e2 ?_|refine yo ?_)
  refine call_same (fn_numDigits hT u (by omega)) [0] rfl (by exact And.intro rfl trivial) (by (repeat first|exact trivial|refine ent1 ?_)) (fun _ _=>trivial) ?_
  rintro y hs ⟨rfl,rfl⟩
  have h20:=dig_le u.isLt
  have h01:=dig_pos u.toNat
  rw [← dig_nd u.isLt]
  dsimp only
  (repeat show _∧_;first|refine yr ?_|refine yt ?_|refine yf ?_|refine yo ?_)
  refine call_same (fn_fmt (n:=(dig u.toNat).length) (N:=24) (u:=u) (by rw [dig_nd u.isLt]; exact Lib.lt_pow_nDigits _) (by omega) (by omega) (fun _=>.w8 0#8) (fun i _=>⟨_,rfl⟩)) [2] rfl (by exact And.intro rfl (And.intro rfl (And.intro rfl (And.intro rfl trivial)))) (by (repeat first|exact trivial|refine ent1 ?_)) (fun _ _=>trivial) ?_
  rintro y hs ⟨rfl,rfl⟩
  (repeat show _∧_;first|refine yr ?_|refine yt ?_|refine yf ?_|refine yo ?_)
  refine frcN_of (m:=0) rfl ?_
  refine frcN_of (m:=(dig u.toNat).length) (Int.toNat_natCast _) ?_
  dsimp only
  refine frcN_of (m:=0) rfl ?_
  refine frcN_of (m:=(dig u.toNat).length) rfl ?_
  refine frcN_of (m:=24) rfl ?_
  (repeat show _∧_;first|refine yr ?_|refine yt ?_|refine yf ?_|refine yo ?_)
  refine And.intro (show 0+scale (dig u.toNat).length (0+1)≤24 by simp only [scale]; omega) ?_
  refine And.intro ⟨by omega,by simp only [scale]; omega,by show (b.length+(dig u.toNat).length)*1≤140737488355328; omega⟩ ?_
  intro c' hc'
  refine ⟨.a (.c (.sl 2 0 0 (b++dig u.toNat).length c')),_,⟨[0,1,3],⟨rfl,rfl,rfl⟩,?_⟩,c',by rw [List.length_append]; exact hc',rfl,rfl⟩
  (repeat first|exact trivial|refine ent1 ?_)
  refine And.intro (by rw [List.length_append]) ?_
  (repeat first|exact trivial|refine ent1 ?_)
  refine ⟨fun j' hj'=>eqC_bytes (fun i hi=>?_) j',by (repeat first|exact trivial|refine ent1 ?_)⟩
  have hi':i<b.length+(dig u.toNat).length:=by rw [List.length_append] at hi; exact hi
  refine app_row (l:=b) (n:=b.length) (k:=(dig u.toNat).length) rfl rfl (fun i hi=>bytesF_lt hi) (fun i hi=>congrArg (SC.mp (bk 3 [2])) (dig_at u.isLt (fun _=>.w8 0#8) i hi)) i hi'
set_option maxRecDepth 20000 in
theorem fn_uint0 {W:World} {ms:List Nat} (hT:Tabs W ms) (u:BitVec 64):FnR Tryd.prog tds 62 1 [[.past W ms]] [.c (.slc none 0 0),.c (.w64 u),.c (.int .i64 10)] (fun _=>True)
  (fun x hs=>∃ c',(dig u.toNat).length≤c'∧x=.a (.c (.sl 1 0 0 (dig u.toNat).length c'))∧hs=[[.past W ms],lsC (dig u.toNat) c']):=by
 refine fn_of_body tds_ok follows_ Tryd.func62 rfl (t:=.a (.c (.slc none 0 0))::.a (.c (.w64 u))::.a (.c (.int .i64 10))::anys (Tryd.f62.ntmps-3)) rfl (fun w r0 hr _=>?_)
 obtain ⟨x0,rfl⟩:=len1' hr
 (repeat show _∧_;first|refine yr ?_|refine yt ?_|refine yf ?_|refine yo ?_)
 refine call_same (fn_iuint0 hT u) [0] rfl (by exact And.intro rfl (And.intro rfl (And.intro rfl trivial))) (by (repeat first|exact trivial|refine ent1 ?_)) (fun _ _=>trivial) ?_
 rintro y hs ⟨c',hc',rfl,rfl⟩
 (repeat show _∧_;first|refine yr ?_|refine yt ?_|refine yf ?_|refine yo ?_)
 exact ⟨.a (.c (.sl 1 0 0 (dig u.toNat).length c')),_,⟨[0,1],⟨rfl,rfl,rfl⟩,by (repeat first|exact trivial|refine ent1 ?_)⟩,c',hc',rfl,rfl⟩
set_option maxRecDepth 20000 in
theorem fn_uint {W:World} {ms:List Nat} (hT:Tabs W ms) (b:Bs) (c:Nat) (hb:b.length≤70368744177664) (hc:b.length≤c) (u:BitVec 64):FnR Tryd.prog tds 62 1 [[.past W ms],lsC b c] [.c (.sl 1 0 0 b.length c),.c (.w64 u),.c (.int .i64 10)] (fun _=>True)
  (fun x hs=>∃ c',(b++dig u.toNat).length≤c'∧x=.a (.c (.sl 2 0 0 (b++dig u.toNat).length c'))∧hs=[[.past W ms],[],lsC (b++dig u.toNat) c']):=by
 refine fn_of_body tds_ok follows_ Tryd.func62 rfl (t:=.a (.c (.sl 1 0 0 b.length c))::.a (.c (.w64 u))::.a (.c (.int .i64 10))::anys (Tryd.f62.ntmps-3)) rfl (fun w r0 hr _=>?_)
 obtain ⟨x0,x1,rfl⟩:=len2' hr
 (repeat show _∧_;first|refine yr ?_|refine yt ?_|refine yf ?_|refine yo ?_)
 refine call_same (fn_iuint hT b c hb hc u) [0,1] rfl (by exact And.intro rfl (And.intro rfl (And.intro rfl (And.intro rfl (And.intro rfl trivial))))) (by (repeat first|exact trivial|refine ent1 ?_)) (fun _ _=>trivial) ?_
 rintro y hs ⟨c',hc',rfl,rfl⟩
 (repeat show _∧_;first|refine yr ?_|refine yt ?_|refine yf ?_|refine yo ?_)
 exact ⟨.a (.c (.sl 2 0 0 (b++dig u.toNat).length c')),_,⟨[0,1,2],⟨rfl,rfl,rfl⟩,by (repeat first|exact trivial|refine ent1 ?_)⟩,c',hc',rfl,rfl⟩
end Sx
end
section
namespace Sx
open Go.RowKit Sha Vi Js

theorem sc5 (n:Nat):scale n (4+1)=n*5:=scale_eq _ _
theorem sc1 (n:Nat):scale n (0+1)=n:=by rw [scale_eq]; omega
theorem nthJ_get {l:List SC} {j:Nat} (h:j<l.length):l[j]?=some (nthC l j):=by
 obtain ⟨x,hx⟩:∃ x,l[j]?=some x:=⟨_,List.getElem?_eq_getElem h⟩
 rw [hx,nthC_get? hx]
theorem nthJ_l {l m:List SC} {j:Nat} (h:j<l.length):nthC (l++m) j=nthC l j:=nthC_get? (by
 rw [List.getElem?_append_left h]; exact nthJ_get h)
theorem nthJ_r {l m:List SC} {j:Nat} (h:l.length≤j):nthC (l++m) j=nthC m (j-l.length):=by
 induction l generalizing j with
 | nil=>rfl
 | cons x l ih=>cases j with
  | zero=>simp at h
  | succ j=>rw [List.cons_append,nthC,ih (by simpa using h)]; simp
theorem nthJ_mem {l:List SC} {j:Nat} (h:j<l.length):nthC l j∈l:=List.mem_of_getElem? (nthJ_get h)
theorem nthJ_out:∀ {l:List SC} {j:Nat},l.length≤j→nthC l j=.any
 | [],_,_=>rfl
 | x::l,0,h=>by simp at h
 | x::l,j+1,h=>nthJ_out (l:=l) (by simpa using h)
theorem eqJ_raw {q:List Nat} {x:SC} (h:x.raw=x):eqC q x x True:=by
 cases x with
 | int k b=>cases k <;> exact ⟨rfl,trivial⟩
 | _=>first|exact ⟨rfl,trivial⟩|trivial|(simp only [SC.raw] at h; cases h)
theorem eqJ_cs {q:List Nat} {cs:List SC} (h:∀ x∈cs,x.raw=x) {f:Nat→SC} (hf:∀ j,j<cs.length→f j=nthC cs j) (j:Nat):eqC q (f j) (nthC cs j) True:=by
 rcases Nat.lt_or_ge j cs.length with hj|hj
 ·rw [hf j hj]; exact eqJ_raw (h _ (nthJ_mem hj))
 ·rw [nthJ_out hj]; trivial
theorem mpJ_raw {g:Nat→Nat} {x:SC} (h:x.raw=x):SC.mp g x=x:=by
 cases x <;> simp only [SC.raw] at h <;> first|rfl|cases h
theorem eqJ_csM {q:List Nat} {g:Nat→Nat} {cs:List SC} (h:∀ x∈cs,x.raw=x) (j:Nat):eqC q (SC.mp g (nthC cs j)) (nthC cs j) True :=
 eqJ_cs (f:=fun j=>SC.mp g (nthC cs j)) h (fun j hj=>mpJ_raw (h _ (nthJ_mem hj))) j
theorem appJ_cs {cs new:List SC} {n m sz:Nat} {f g:Nat→SC} (hn:cs.length=n*(sz+1)) (hf:∀ j,j<cs.length→f j=nthC cs j) (hw:new.length=m*(sz+1)) (hg:∀ j,j<new.length→g j=nthC new j) (j:Nat) (hj:j<(cs++new).length):appF f 0 (scale n (sz+1)) (scale m (sz+1)) g j=nthC (cs++new) j:=by
 rw [List.length_append] at hj
 unfold appF
 rw [scale_eq,scale_eq,← hn,← hw]
 by_cases h:j<cs.length
 ·rw [if_pos h,Nat.add_zero,hf j h,nthJ_l h]
 ·rw [if_neg h,if_pos hj,hg _ (by omega),nthJ_r (by omega)]
theorem newJ_cs {new:List SC} {m sz:Nat} {g:Nat→SC} (hw:new.length=m*(sz+1)) (hg:∀ j,j<new.length→g j=nthC new j) (j:Nat) (hj:j<new.length):newF (scale m (sz+1)) g j=nthC new j:=by
 rw [newF_lt (by rw [scale_eq,← hw]; exact hj),hg j hj]
theorem updJ_new {f:Nat→SC} {new:List SC} {m j:Nat} (hj:j<m):updN f 0 m (nthC new) (j+0)=nthC new j:=by
 unfold updN
 rw [if_pos ⟨Nat.zero_le _,by omega⟩]; rfl
theorem rzJ_raw {F:Nat→Bool} {α:Nat→Addr} {x:SC} (h:x.raw=x):(x.rz F α).raw=x:=by
 cases x <;> simp only [SC.raw] at h <;> first|rfl|cases h
theorem strs_frz {W:World} {ms:List Nat} {A:Addr} {F:Nat→Bool} {α:Nat→Addr} {n c:Nat} {l:List (List UInt8)} {g:Nat→SC} (hg:∀ j,j<(l.map SC.str).length→g j=nthC (l.map SC.str) j) (h:flat [.row (scale c (0+1)) g]≠[]→ImAt W ms A (((flat [.row (scale c (0+1)) g]).map (SC.rz F α)).map SC.raw)) (hn:l.length=n) (hc:n≤c) (hcap:n≤9223372036854775807):StAt W ms (some (A.add (0+0))) n c l :=
 SlAt.frz h rfl hc hcap (by decide) (by rw [List.length_map,hn]; omega) (fun j x e=>by rw [hg j ((List.getElem?_eq_some_iff.1 e).1),nthC_get? e]) (rz_str l)
end Sx
end
section
namespace Js
open Sha
theorem qr_sign {r:Nat} (h:r=34∨r=92):qr r=[92#8,BitVec.ofInt 8 (r:Int)]:=by
 unfold qr; rw [if_pos h,BitVec.ofInt_natCast]; rfl
theorem qr_n:qr 10=[92#8,110#8]:=rfl
theorem qr_t:qr 9=[92#8,116#8]:=rfl
theorem qr_r:qr 13=[92#8,114#8]:=rfl
def hexS:List UInt8:=[48,49,50,51,52,53,54,55,56,57,97,98,99,100,101,102]
theorem qr_ctl {r:Nat} (h0:¬ (r=34∨r=92)) (h1:r≠10) (h2:r≠9) (h3:r≠13) (h4:r<32) :
  qr r=[92#8,117#8,48#8,48#8,(hexS.getD ((r:Int) / 2 ^ 4).toNat 0).toBitVec,(hexS.getD ((((r:Int)).toNat &&& ((15:Int)).toNat:Nat):Int).toNat 0).toBitVec]:=by
 have k1:∀ n:_root_.Fin 32,(hexS.getD ((n.val:Int) / 2 ^ 4).toNat 0).toBitVec=hexd (n.val / 16):=by decide +kernel
 have k2:∀ n:_root_.Fin 32,(hexS.getD ((((n.val:Int)).toNat &&& ((15:Int)).toNat:Nat):Int).toNat 0).toBitVec=hexd (n.val % 16):=by decide +kernel
 have e1:=k1 ⟨r,h4⟩
 have e2:=k2 ⟨r,h4⟩
 dsimp only at e1 e2
 rw [e1,e2]
 unfold qr
 rw [if_neg h0,if_neg h1,if_neg h2,if_neg h3,if_pos h4]
theorem qr_enc {r:Nat} (h0:¬ (r=34∨r=92)) (h1:r≠10) (h2:r≠9) (h3:r≠13) (h4:¬ r<32):qr r=enc r:=by
 unfold qr
 rw [if_neg h0,if_neg h1,if_neg h2,if_neg h3,if_neg h4]
end Js
namespace Sx
open Go.RowKit Sha Vi Js

theorem scal_i {r:Nat} (h:scal r):r≤1114111:=by unfold scal at h; omega
set_option maxRecDepth 20000 in
set_option maxHeartbeats 16000000 in
theorem fn_quote0 {s:Bs} (hu:Utf s) (hb:(quote s).length≤70368744177664):Fn Tryd.prog tds 63 [] [.c (.slc none 0 0),.c (.str (U8 s))] (fun _=>True)
  (fun x hs=>∃ c',(quote s).length≤c'∧x=.a (.c (.sl 0 0 0 (quote s).length c'))∧hs=[lsC (quote s) c']):=by
 refine fn_of_body tds_ok follows_ Tryd.func63 rfl (t:=.a (.c (.slc none 0 0))::.a (.c (.str (U8 s)))::anys (Tryd.f63.ntmps-2)) rfl (fun w r0 hr _=>?_)
 obtain rfl:r0=[]:=List.eq_nil_of_length_eq_zero hr
 obtain ⟨rs,hrs,hs⟩:=hu
 have hq:quote s=34#8::(rs.flatMap qr++[34#8]):=by rw [hs]; exact quote_of hrs
 obtain ⟨T,hTl⟩:∃ T,(rs.flatMap qr).length=T:=⟨_,rfl⟩
 have hql:(quote s).length=T+2:=by rw [hq]; simp only [List.length_cons,List.length_append,hTl,List.length_nil]
 (repeat show _∧_;first|refine yr ?_|refine yt ?_|refine yf ?_|refine yo ?_)
 intro c1 hc1
 (repeat show _∧_;first|refine yr ?_|refine yt ?_|refine yf ?_|refine yo ?_)
 refine .inl ⟨List Nat × List Nat × Bs × Nat,fun x=>match x with|(done,todo,B,c)=>⟨[.a (.c (.sl 0 0 0 B.length c)),.a (.c (.str ((U8 s)))),.any,.any,.a (.c (.slc none 0 0)),.any,.any,.any,.any,.any,.any,.a (.c (.ih 1)),.any,.any,.any,.any,.any,.any,.any,.any,.any,.any,.any,.any,.any,.any,.any,.any,.any,.any,.any,.any,.any,.any,.any,.any,.any,.any,.any,.any,.any,.any,.any,.any,.any,.any,.any,.any,.any,.any,.any,.any,.any,.any,.any,.any,.any,.any,.any,.any,.any,.any,.any],[lsC B c,[.obj (.it (U8 s) ((done.flatMap enc).length))]]⟩,
  fun x=>match x with|(done,todo,B,c)=>rs=done++todo∧B=34#8::done.flatMap qr∧B.length≤c,fun x=>x.2.1.length,⟨([],rs,[34#8],c1),[1,2],⟨⟨rfl,rfl,rfl⟩,?_⟩,rfl,rfl,hc1⟩,fun x hx=>?_⟩
 ·(repeat first|exact trivial|refine ent1 ?_)
  refine ⟨fun j hj=>eqC_bytes (fun i hi=>?_) j,by (repeat first|exact trivial|refine ent1 ?_)⟩
  exact new_row (m:=[34#8]) (fun i hi=>one_row rfl i hi) i hi
 obtain ⟨done,todo,B,c⟩:=x
 obtain ⟨h1,h2,h3⟩:=hx
 dsimp only
 have hBl:B.length=(done.flatMap qr).length+1:=by rw [h2]; simp only [List.length_cons]
 have hsplit:(done.flatMap qr).length+(todo.flatMap qr).length=T:=by rw [← hTl,h1,List.flatMap_append,List.length_append]
 have hsd:s=done.flatMap enc++todo.flatMap enc:=by rw [hs,h1,List.flatMap_append]
 rcases todo with _|⟨r,todo⟩
 ·have hpos:¬ (done.flatMap enc).length<(U8 s).length:=by rw [U8_len,hsd]; simp
  refine And.intro (fun h=>absurd h hpos) (fun _=>?_)
  (repeat show _∧_;first|refine yr ?_|refine yt ?_|refine yf ?_|refine yo ?_)
  refine And.intro ⟨h3,by simp only [scale]; omega,by show (B.length+1)*1≤140737488355328; omega⟩ ?_
  intro c2 hc2
  (repeat show _∧_;first|refine yr ?_|refine yt ?_|refine yf ?_|refine yo ?_)
  have hfull:(quote s)=B++[34#8]:=by
   rw [h2,hq,h1]; simp
  rw [hfull]
  refine ⟨.a (.c (.sl 0 0 0 (B++[34#8]).length c2)),_,⟨[3],⟨rfl,rfl,rfl⟩,?_⟩,c2,by rw [List.length_append]; exact hc2,rfl,rfl⟩
  (repeat first|exact trivial|refine ent1 ?_)
  refine And.intro (show B.length+1=(B++[34#8]).length by rw [List.length_append]; rfl) ?_
  (repeat first|exact trivial|refine ent1 ?_)
  refine ⟨fun j hj=>eqC_bytes (fun i hi=>?_) j,by (repeat first|exact trivial|refine ent1 ?_)⟩
  have hi':i<B.length+1:=by rw [List.length_append] at hi; exact hi
  refine app_row (l:=B) (n:=B.length) (k:=1) rfl ?_ (fun i hi=>bytesF_lt hi) (fun i hi=>?_) i hi'
  ·rfl
  ·exact rowl i (by exact hi) rfl
 have hr:scal r:=hrs r (by rw [h1]; exact List.mem_append_right _ (List.mem_cons_self ..))
 have hri:=scal_i hr
 have hep:=enc_pos r
 have hpos:(done.flatMap enc).length<(U8 s).length:=by rw [U8_len,hsd]; simp only [List.length_append,List.flatMap_cons]; omega
 have hdec:Utf8.decode ⟨(U8 s).toArray⟩ ((done.flatMap enc).length)=(r,(enc r).length):=by
  rw [decode_U8]
  conv=>lhs; rw [hsd]
  rw [List.drop_left,List.flatMap_cons]
  exact dec_enc hr _
 have hstep:rs=(done++[r])++todo:=by rw [h1]; simp
 have hqf:∀ W:Bs,W=B++qr r→W=34#8::(done++[r]).flatMap qr:=fun W h=>by rw [h,h2]; simp
 have hpe:((done++[r]).flatMap enc).length=(done.flatMap enc).length+(enc r).length:=by simp
 rw [List.flatMap_cons,List.length_append] at hsplit
 refine And.intro (fun _=>?_) (fun h=>absurd hpos h)
 rw [show (Utf8.decode ⟨(U8 s).toArray⟩ ((done.flatMap enc).length)).1=r by rw [hdec],show (Utf8.decode ⟨(U8 s).toArray⟩ ((done.flatMap enc).length)).2=(enc r).length by rw [hdec]]
 by_cases a1:r=34
 ·have f1:decide ((r:Int)=34)=true:=decide_eq_true (by omega)
  have hE:=qr_sign (r:=r) (.inl a1)
  have hEl:(qr r).length=2:=by rw [hE]; rfl
  (repeat show _∧_;first|refine yr ?_|refine yt ?_|refine yf ?_|refine yt ?_ (by first|decide|(rw[f1];decide))|refine yf ?_ (by first|decide|(rw[f1];decide))|refine yo ?_)
  refine And.intro ⟨h3,by simp only [scale]; omega,by show (B.length+2)*1≤140737488355328; omega⟩ ?_
  intro c2 hc2
  (repeat show _∧_;first|refine yr ?_|refine yt ?_|refine yf ?_|refine yo ?_)
  refine ⟨(done++[r],todo,B++qr r,c2),[3,1],⟨⟨rfl,rfl,rfl⟩,?_⟩,⟨hstep,hqf _ rfl,by rw [List.length_append,hEl]; exact hc2⟩,by dsimp only; simp⟩
  have hbl:(B++qr r).length=B.length+2:=by rw [List.length_append,hEl]
  dsimp only
  (repeat first|exact trivial|refine ent1 ?_)
  refine ⟨fun j hj=>eqC_bytes (fun i hi=>?_) j,by rw [hpe]; (repeat first|exact trivial|refine ent1 ?_)⟩
  have hi':i<B.length+2:=by rw [hbl] at hi; exact hi
  rw [hE]
  refine app_row (l:=B) (n:=B.length) (k:=2) rfl ?_ (fun i hi=>bytesF_lt hi) (fun i hi=>?_) i hi'
  ·rfl
  ·exact rowl i (by exact hi) rfl
 have f1:decide ((r:Int)=34)=false:=decide_eq_false (by omega)
 by_cases a2:r=92
 ·have f2:decide ((r:Int)=92)=true:=decide_eq_true (by omega)
  have hE:=qr_sign (r:=r) (.inr a2)
  have hEl:(qr r).length=2:=by rw [hE]; rfl
  (repeat show _∧_;first|refine yr ?_|refine yt ?_|refine yf ?_|refine yt ?_ (by first|decide|(rw[f1];decide)|(rw[f2];decide))|refine yf ?_ (by first|decide|(rw[f1];decide)|(rw[f2];decide))|refine yo ?_)
  refine And.intro ⟨h3,by simp only [scale]; omega,by show (B.length+2)*1≤140737488355328; omega⟩ ?_
  intro c2 hc2
  (repeat show _∧_;first|refine yr ?_|refine yt ?_|refine yf ?_|refine yo ?_)
  refine ⟨(done++[r],todo,B++qr r,c2),[3,1],⟨⟨rfl,rfl,rfl⟩,?_⟩,⟨hstep,hqf _ rfl,by rw [List.length_append,hEl]; exact hc2⟩,by dsimp only; simp⟩
  have hbl:(B++qr r).length=B.length+2:=by rw [List.length_append,hEl]
  dsimp only
  (repeat first|exact trivial|refine ent1 ?_)
  refine ⟨fun j hj=>eqC_bytes (fun i hi=>?_) j,by rw [hpe]; (repeat first|exact trivial|refine ent1 ?_)⟩
  have hi':i<B.length+2:=by rw [hbl] at hi; exact hi
  rw [hE]
  refine app_row (l:=B) (n:=B.length) (k:=2) rfl ?_ (fun i hi=>bytesF_lt hi) (fun i hi=>?_) i hi'
  ·rfl
  ·exact rowl i (by exact hi) rfl
 have f2:decide ((r:Int)=92)=false:=decide_eq_false (by omega)
 by_cases b0:r=10
 ·have g0:decide ((r:Int)=10)=true:=decide_eq_true (by omega)
  have hE:=(congrArg qr b0).trans qr_n
  have hEl:(qr r).length=2:=by rw [hE]; rfl
  (repeat show _∧_;first|refine yr ?_|refine yt ?_|refine yf ?_|refine yt ?_ (by first|decide|(rw[f1];decide)|(rw[f2];decide)|(rw[g0];decide))|refine yf ?_ (by first|decide|(rw[f1];decide)|(rw[f2];decide)|(rw[g0];decide))|refine yo ?_)
  refine And.intro ⟨h3,by simp only [scale]; omega,by show (B.length+2)*1≤140737488355328; omega⟩ ?_
  intro c2 hc2
  (repeat show _∧_;first|refine yr ?_|refine yt ?_|refine yf ?_|refine yo ?_)
  refine ⟨(done++[r],todo,B++qr r,c2),[3,1],⟨⟨rfl,rfl,rfl⟩,?_⟩,⟨hstep,hqf _ rfl,by rw [List.length_append,hEl]; exact hc2⟩,by dsimp only; simp⟩
  have hbl:(B++qr r).length=B.length+2:=by rw [List.length_append,hEl]
  dsimp only
  (repeat first|exact trivial|refine ent1 ?_)
  refine ⟨fun j hj=>eqC_bytes (fun i hi=>?_) j,by rw [hpe]; (repeat first|exact trivial|refine ent1 ?_)⟩
  have hi':i<B.length+2:=by rw [hbl] at hi; exact hi
  rw [hE]
  refine app_row (l:=B) (n:=B.length) (k:=2) rfl ?_ (fun i hi=>bytesF_lt hi) (fun i hi=>?_) i hi'
  ·rfl
  ·exact rowl i (by exact hi) rfl
 have g0:decide ((r:Int)=10)=false:=decide_eq_false (by omega)
 by_cases b1:r=9
 ·have g1:decide ((r:Int)=9)=true:=decide_eq_true (by omega)
  have hE:=(congrArg qr b1).trans qr_t
  have hEl:(qr r).length=2:=by rw [hE]; rfl
  (repeat show _∧_;first|refine yr ?_|refine yt ?_|refine yf ?_|refine yt ?_ (by first|decide|(rw[f1];decide)|(rw[f2];decide)|(rw[g0];decide)|(rw[g1];decide))|refine yf ?_ (by first|decide|(rw[f1];decide)|(rw[f2];decide)|(rw[g0];decide)|(rw[g1];decide))|refine yo ?_)
  refine And.intro ⟨h3,by simp only [scale]; omega,by show (B.length+2)*1≤140737488355328; omega⟩ ?_
  intro c2 hc2
  (repeat show _∧_;first|refine yr ?_|refine yt ?_|refine yf ?_|refine yo ?_)
  refine ⟨(done++[r],todo,B++qr r,c2),[3,1],⟨⟨rfl,rfl,rfl⟩,?_⟩,⟨hstep,hqf _ rfl,by rw [List.length_append,hEl]; exact hc2⟩,by dsimp only; simp⟩
  have hbl:(B++qr r).length=B.length+2:=by rw [List.length_append,hEl]
  dsimp only
  (repeat first|exact trivial|refine ent1 ?_)
  refine ⟨fun j hj=>eqC_bytes (fun i hi=>?_) j,by rw [hpe]; (repeat first|exact trivial|refine ent1 ?_)⟩
  have hi':i<B.length+2:=by rw [hbl] at hi; exact hi
  rw [hE]
  refine app_row (l:=B) (n:=B.length) (k:=2) rfl ?_ (fun i hi=>bytesF_lt hi) (fun i hi=>?_) i hi'
  ·rfl
  ·exact rowl i (by exact hi) rfl
 have g1:decide ((r:Int)=9)=false:=decide_eq_false (by omega)
 by_cases b2:r=13
 ·have g2:decide ((r:Int)=13)=true:=decide_eq_true (by omega)
  have hE:=(congrArg qr b2).trans qr_r
  have hEl:(qr r).length=2:=by rw [hE]; rfl
  (repeat show _∧_;first|refine yr ?_|refine yt ?_|refine yf ?_|refine yt ?_ (by first|decide|(rw[f1];decide)|(rw[f2];decide)|(rw[g0];decide)|(rw[g1];decide)|(rw[g2];decide))|refine yf ?_ (by first|decide|(rw[f1];decide)|(rw[f2];decide)|(rw[g0];decide)|(rw[g1];decide)|(rw[g2];decide))|refine yo ?_)
  refine And.intro ⟨h3,by simp only [scale]; omega,by show (B.length+2)*1≤140737488355328; omega⟩ ?_
  intro c2 hc2
  (repeat show _∧_;first|refine yr ?_|refine yt ?_|refine yf ?_|refine yo ?_)
  refine ⟨(done++[r],todo,B++qr r,c2),[3,1],⟨⟨rfl,rfl,rfl⟩,?_⟩,⟨hstep,hqf _ rfl,by rw [List.length_append,hEl]; exact hc2⟩,by dsimp only; simp⟩
  have hbl:(B++qr r).length=B.length+2:=by rw [List.length_append,hEl]
  dsimp only
  (repeat first|exact trivial|refine ent1 ?_)
  refine ⟨fun j hj=>eqC_bytes (fun i hi=>?_) j,by rw [hpe]; (repeat first|exact trivial|refine ent1 ?_)⟩
  have hi':i<B.length+2:=by rw [hbl] at hi; exact hi
  rw [hE]
  refine app_row (l:=B) (n:=B.length) (k:=2) rfl ?_ (fun i hi=>bytesF_lt hi) (fun i hi=>?_) i hi'
  ·rfl
  ·exact rowl i (by exact hi) rfl
 have g2:decide ((r:Int)=13)=false:=decide_eq_false (by omega)
 have hno:¬ (r=34∨r=92):=by omega
 by_cases b3:r<32
 ·have g3:decide ((r:Int)<32)=true:=decide_eq_true (by omega)
  have hE:=qr_ctl hno b0 b1 b2 b3
  have hEl:(qr r).length=6:=by rw [hE]; rfl
  (repeat show _∧_;first|refine yr ?_|refine yt ?_|refine yf ?_|refine yt ?_ (by first|decide|(rw[f1];decide)|(rw[f2];decide)|(rw[g0];decide)|(rw[g1];decide)|(rw[g2];decide)|(rw[g3];decide))|refine yf ?_ (by first|decide|(rw[f1];decide)|(rw[f2];decide)|(rw[g0];decide)|(rw[g1];decide)|(rw[g2];decide)|(rw[g3];decide))|refine yo ?_)
  refine ⟨none,[],[(0,true),(1,true),(2,true),(3,true),(4,true),(5,true),(6,true),(7,false)],[8,9],by kernel_rfl,?_⟩
  (repeat show _∧_;first|refine yr ?_|refine yt ?_|refine yf ?_|refine yo ?_)
  refine And.intro ⟨by show 0≤(r:Int) / 2 ^ 4; omega,by show (r:Int) / 2 ^ 4<16; omega⟩ ?_
  (repeat show _∧_;first|refine yr ?_|refine yt ?_|refine yf ?_|refine yo ?_)
  refine And.intro ⟨by omega,by show (((((r:Int)).toNat &&& ((15:Int)).toNat:Nat):Int))<16; have:=Nat.and_le_right (n:=((r:Int)).toNat) (m:=((15:Int)).toNat); have h15:((15:Int)).toNat=15:=rfl; omega⟩ ?_
  (repeat show _∧_;first|refine yr ?_|refine yt ?_|refine yf ?_|refine yo ?_)
  refine And.intro ⟨h3,by simp only [scale]; omega,by show (B.length+6)*1≤140737488355328; omega⟩ ?_
  intro c2 hc2
  (repeat show _∧_;first|refine yr ?_|refine yt ?_|refine yf ?_|refine yo ?_)
  refine ⟨(done++[r],todo,B++qr r,c2),[3,1],⟨⟨rfl,rfl,rfl⟩,?_⟩,⟨hstep,hqf _ rfl,by rw [List.length_append,hEl]; exact hc2⟩,by dsimp only; simp⟩
  have hbl:(B++qr r).length=B.length+6:=by rw [List.length_append,hEl]
  dsimp only
  (repeat first|exact trivial|refine ent1 ?_)
  refine ⟨fun j hj=>eqC_bytes (fun i hi=>?_) j,by rw [hpe]; (repeat first|exact trivial|refine ent1 ?_)⟩
  have hi':i<B.length+6:=by rw [hbl] at hi; exact hi
  rw [hE]
  refine app_row (l:=B) (n:=B.length) (k:=6) rfl ?_ (fun i hi=>bytesF_lt hi) (fun i hi=>?_) i hi'
  ·rfl
  ·exact rowl i (by exact hi) rfl
 have g3:decide ((r:Int)<32)=false:=decide_eq_false (by omega)
 have hE:=qr_enc hno b0 b1 b2 b3
 rw [hE] at hsplit hqf
 (repeat show _∧_;first|refine yr ?_|refine yt ?_|refine yf ?_|refine yt ?_ (by first|decide|(rw[f1];decide)|(rw[f2];decide)|(rw[g0];decide)|(rw[g1];decide)|(rw[g2];decide)|(rw[g3];decide))|refine yf ?_ (by first|decide|(rw[f1];decide)|(rw[f2];decide)|(rw[g0];decide)|(rw[g1];decide)|(rw[g2];decide)|(rw[g3];decide))|refine yo ?_)
 refine call_same (fn_arune B c (by omega) h3 hr) [0] rfl (by (repeat first|exact trivial|refine ent1 ?_)) (by (repeat first|exact trivial|refine ent1 ?_)) (fun _ _=>trivial) ?_
 rintro x hs' ⟨c2,q1,rfl,rfl⟩
 refine ⟨(done++[r],todo,B++enc r,c2),[2,1],⟨⟨rfl,rfl,rfl⟩,?_⟩,⟨hstep,hqf _ rfl,q1⟩,by dsimp only; simp⟩
 dsimp only
 rw [hpe]
 (repeat first|exact trivial|refine ent1 ?_)
set_option maxRecDepth 20000 in
set_option maxHeartbeats 16000000 in
theorem fn_quote (b:Bs) (c:Nat) (hc:b.length≤c) {s:Bs} (hu:Utf s) (hb:b.length+(quote s).length≤70368744177664):Fn Tryd.prog tds 63 [lsC b c] [.c (.sl 0 0 0 b.length c),.c (.str (U8 s))] (fun _=>True)
  (fun x hs=>∃ c',(b++quote s).length≤c'∧x=.a (.c (.sl 1 0 0 (b++quote s).length c'))∧hs=[[],lsC (b++quote s) c']):=by
 refine fn_of_body tds_ok follows_ Tryd.func63 rfl (t:=.a (.c (.sl 0 0 0 b.length c))::.a (.c (.str (U8 s)))::anys (Tryd.f63.ntmps-2)) rfl (fun w r0 hr _=>?_)
 obtain ⟨x0,rfl⟩:∃ a,r0=[a]:=List.length_eq_one_iff.1 hr
 obtain ⟨rs,hrs,hs⟩:=hu
 have hq:quote s=34#8::(rs.flatMap qr++[34#8]):=by rw [hs]; exact quote_of hrs
 obtain ⟨T,hTl⟩:∃ T,(rs.flatMap qr).length=T:=⟨_,rfl⟩
 have hql:(quote s).length=T+2:=by rw [hq]; simp only [List.length_cons,List.length_append,hTl,List.length_nil]
 (repeat show _∧_;first|refine yr ?_|refine yt ?_|refine yf ?_|refine yo ?_)
 refine And.intro ⟨hc,by simp only [scale]; omega,by show (b.length+1)*1≤140737488355328; omega⟩ ?_
 intro c1 hc1
 (repeat show _∧_;first|refine yr ?_|refine yt ?_|refine yf ?_|refine yo ?_)
 refine .inl ⟨List Nat × List Nat × Bs × Nat,fun x=>match x with|(done,todo,B,c)=>⟨[.a (.c (.sl 1 0 0 B.length c)),.a (.c (.str ((U8 s)))),.any,.any,.a (.c (.slc none 0 0)),.any,.any,.any,.any,.any,.any,.a (.c (.ih 2)),.any,.any,.any,.any,.any,.any,.any,.any,.any,.any,.any,.any,.any,.any,.any,.any,.any,.any,.any,.any,.any,.any,.any,.any,.any,.any,.any,.any,.any,.any,.any,.any,.any,.any,.any,.any,.any,.any,.any,.any,.any,.any,.any,.any,.any,.any,.any,.any,.any,.any,.any],[[],lsC B c,[.obj (.it (U8 s) ((done.flatMap enc).length))]]⟩,
  fun x=>match x with|(done,todo,B,c)=>rs=done++todo∧B=b++34#8::done.flatMap qr∧B.length≤c,fun x=>x.2.1.length,⟨([],rs,b++[34#8],c1),[0,2,3],⟨⟨rfl,rfl,rfl⟩,?_⟩,rfl,rfl,by rw [List.length_append]; exact hc1⟩,fun x hx=>?_⟩
 ·(repeat first|exact trivial|refine ent1 ?_)
  refine And.intro (show b.length+1=(b++[34#8]).length by rw [List.length_append]; rfl) ?_
  (repeat first|exact trivial|refine ent1 ?_)
  refine ⟨fun j hj=>eqC_bytes (fun i hi=>?_) j,by (repeat first|exact trivial|refine ent1 ?_)⟩
  have hi':i<b.length+1:=by rw [List.length_append] at hi; exact hi
  refine app_row (l:=b) (n:=b.length) (k:=1) rfl ?_ (fun i hi=>bytesF_lt hi) (fun i hi=>?_) i hi'
  ·rfl
  ·exact rowl i (by exact hi) rfl
 obtain ⟨done,todo,B,c⟩:=x
 obtain ⟨h1,h2,h3⟩:=hx
 dsimp only
 have hBl:B.length=b.length+(done.flatMap qr).length+1:=by rw [h2]; simp only [List.length_append,List.length_cons]; omega
 have hsplit:(done.flatMap qr).length+(todo.flatMap qr).length=T:=by rw [← hTl,h1,List.flatMap_append,List.length_append]
 have hsd:s=done.flatMap enc++todo.flatMap enc:=by rw [hs,h1,List.flatMap_append]
 rcases todo with _|⟨r,todo⟩
 ·have hpos:¬ (done.flatMap enc).length<(U8 s).length:=by rw [U8_len,hsd]; simp
  refine And.intro (fun h=>absurd h hpos) (fun _=>?_)
  (repeat show _∧_;first|refine yr ?_|refine yt ?_|refine yf ?_|refine yo ?_)
  refine And.intro ⟨h3,by simp only [scale]; omega,by show (B.length+1)*1≤140737488355328; omega⟩ ?_
  intro c2 hc2
  (repeat show _∧_;first|refine yr ?_|refine yt ?_|refine yf ?_|refine yo ?_)
  have hfull:(b++quote s)=B++[34#8]:=by
   rw [h2,hq,h1]; simp
  rw [hfull]
  refine ⟨.a (.c (.sl 1 0 0 (B++[34#8]).length c2)),_,⟨[0,4],⟨rfl,rfl,rfl⟩,?_⟩,c2,by rw [List.length_append]; exact hc2,rfl,rfl⟩
  (repeat first|exact trivial|refine ent1 ?_)
  refine And.intro (show B.length+1=(B++[34#8]).length by rw [List.length_append]; rfl) ?_
  (repeat first|exact trivial|refine ent1 ?_)
  refine ⟨fun j hj=>eqC_bytes (fun i hi=>?_) j,by (repeat first|exact trivial|refine ent1 ?_)⟩
  have hi':i<B.length+1:=by rw [List.length_append] at hi; exact hi
  refine app_row (l:=B) (n:=B.length) (k:=1) rfl ?_ (fun i hi=>bytesF_lt hi) (fun i hi=>?_) i hi'
  ·rfl
  ·exact rowl i (by exact hi) rfl
 have hr:scal r:=hrs r (by rw [h1]; exact List.mem_append_right _ (List.mem_cons_self ..))
 have hri:=scal_i hr
 have hep:=enc_pos r
 have hpos:(done.flatMap enc).length<(U8 s).length:=by rw [U8_len,hsd]; simp only [List.length_append,List.flatMap_cons]; omega
 have hdec:Utf8.decode ⟨(U8 s).toArray⟩ ((done.flatMap enc).length)=(r,(enc r).length):=by
  rw [decode_U8]
  conv=>lhs; rw [hsd]
  rw [List.drop_left,List.flatMap_cons]
  exact dec_enc hr _
 have hstep:rs=(done++[r])++todo:=by rw [h1]; simp
 have hqf:∀ W:Bs,W=B++qr r→W=b++34#8::(done++[r]).flatMap qr:=fun W h=>by rw [h,h2]; simp
 have hpe:((done++[r]).flatMap enc).length=(done.flatMap enc).length+(enc r).length:=by simp
 rw [List.flatMap_cons,List.length_append] at hsplit
 refine And.intro (fun _=>?_) (fun h=>absurd hpos h)
 rw [show (Utf8.decode ⟨(U8 s).toArray⟩ ((done.flatMap enc).length)).1=r by rw [hdec],show (Utf8.decode ⟨(U8 s).toArray⟩ ((done.flatMap enc).length)).2=(enc r).length by rw [hdec]]
 by_cases a1:r=34
 ·have f1:decide ((r:Int)=34)=true:=decide_eq_true (by omega)
  have hE:=qr_sign (r:=r) (.inl a1)
  have hEl:(qr r).length=2:=by rw [hE]; rfl
  (repeat show _∧_;first|refine yr ?_|refine yt ?_|refine yf ?_|refine yt ?_ (by first|decide|(rw[f1];decide))|refine yf ?_ (by first|decide|(rw[f1];decide))|refine yo ?_)
  refine And.intro ⟨h3,by simp only [scale]; omega,by show (B.length+2)*1≤140737488355328; omega⟩ ?_
  intro c2 hc2
  (repeat show _∧_;first|refine yr ?_|refine yt ?_|refine yf ?_|refine yo ?_)
  refine ⟨(done++[r],todo,B++qr r,c2),[0,4,2],⟨⟨rfl,rfl,rfl⟩,?_⟩,⟨hstep,hqf _ rfl,by rw [List.length_append,hEl]; exact hc2⟩,by dsimp only; simp⟩
  have hbl:(B++qr r).length=B.length+2:=by rw [List.length_append,hEl]
  dsimp only
  (repeat first|exact trivial|refine ent1 ?_)
  refine ⟨fun j hj=>eqC_bytes (fun i hi=>?_) j,by rw [hpe]; (repeat first|exact trivial|refine ent1 ?_)⟩
  have hi':i<B.length+2:=by rw [hbl] at hi; exact hi
  rw [hE]
  refine app_row (l:=B) (n:=B.length) (k:=2) rfl ?_ (fun i hi=>bytesF_lt hi) (fun i hi=>?_) i hi'
  ·rfl
  ·exact rowl i (by exact hi) rfl
 have f1:decide ((r:Int)=34)=false:=decide_eq_false (by omega)
 by_cases a2:r=92
 ·have f2:decide ((r:Int)=92)=true:=decide_eq_true (by omega)
  have hE:=qr_sign (r:=r) (.inr a2)
  have hEl:(qr r).length=2:=by rw [hE]; rfl
  (repeat show _∧_;first|refine yr ?_|refine yt ?_|refine yf ?_|refine yt ?_ (by first|decide|(rw[f1];decide)|(rw[f2];decide))|refine yf ?_ (by first|decide|(rw[f1];decide)|(rw[f2];decide))|refine yo ?_)
  refine And.intro ⟨h3,by simp only [scale]; omega,by show (B.length+2)*1≤140737488355328; omega⟩ ?_
  intro c2 hc2
  (repeat show _∧_;first|refine yr ?_|refine yt ?_|refine yf ?_|refine yo ?_)
  refine ⟨(done++[r],todo,B++qr r,c2),[0,4,2],⟨⟨rfl,rfl,rfl⟩,?_⟩,⟨hstep,hqf _ rfl,by rw [List.length_append,hEl]; exact hc2⟩,by dsimp only; simp⟩
  have hbl:(B++qr r).length=B.length+2:=by rw [List.length_append,hEl]
  dsimp only
  (repeat first|exact trivial|refine ent1 ?_)
  refine ⟨fun j hj=>eqC_bytes (fun i hi=>?_) j,by rw [hpe]; (repeat first|exact trivial|refine ent1 ?_)⟩
  have hi':i<B.length+2:=by rw [hbl] at hi; exact hi
  rw [hE]
  refine app_row (l:=B) (n:=B.length) (k:=2) rfl ?_ (fun i hi=>bytesF_lt hi) (fun i hi=>?_) i hi'
  ·rfl
  ·exact rowl i (by exact hi) rfl
 have f2:decide ((r:Int)=92)=false:=decide_eq_false (by omega)
 by_cases b0:r=10
 ·have g0:decide ((r:Int)=10)=true:=decide_eq_true (by omega)
  have hE:=(congrArg qr b0).trans qr_n
  have hEl:(qr r).length=2:=by rw [hE]; rfl
  (repeat show _∧_;first|refine yr ?_|refine yt ?_|refine yf ?_|refine yt ?_ (by first|decide|(rw[f1];decide)|(rw[f2];decide)|(rw[g0];decide))|refine yf ?_ (by first|decide|(rw[f1];decide)|(rw[f2];decide)|(rw[g0];decide))|refine yo ?_)
  refine And.intro ⟨h3,by simp only [scale]; omega,by show (B.length+2)*1≤140737488355328; omega⟩ ?_
  intro c2 hc2
  (repeat show _∧_;first|refine yr ?_|refine yt ?_|refine yf ?_|refine yo ?_)
  refine ⟨(done++[r],todo,B++qr r,c2),[0,4,2],⟨⟨rfl,rfl,rfl⟩,?_⟩,⟨hstep,hqf _ rfl,by rw [List.length_append,hEl]; exact hc2⟩,by dsimp only; simp⟩
  have hbl:(B++qr r).length=B.length+2:=by rw [List.length_append,hEl]
  dsimp only
  (repeat first|exact trivial|refine ent1 ?_)
  refine ⟨fun j hj=>eqC_bytes (fun i hi=>?_) j,by rw [hpe]; (repeat first|exact trivial|refine ent1 ?_)⟩
  have hi':i<B.length+2:=by rw [hbl] at hi; exact hi
  rw [hE]
  refine app_row (l:=B) (n:=B.length) (k:=2) rfl ?_ (fun i hi=>bytesF_lt hi) (fun i hi=>?_) i hi'
  ·rfl
  ·exact rowl i (by exact hi) rfl
 have g0:decide ((r:Int)=10)=false:=decide_eq_false (by omega)
 by_cases b1:r=9
 ·have g1:decide ((r:Int)=9)=true:=decide_eq_true (by omega)
  have hE:=(congrArg qr b1).trans qr_t
  have hEl:(qr r).length=2:=by rw [hE]; rfl
  (repeat show _∧_;first|refine yr ?_|refine yt ?_|refine yf ?_|refine yt ?_ (by first|decide|(rw[f1];decide)|(rw[f2];decide)|(rw[g0];decide)|(rw[g1];decide))|refine yf ?_ (by first|decide|(rw[f1];decide)|(rw[f2];decide)|(rw[g0];decide)|(rw[g1];decide))|refine yo ?_)
  refine And.intro ⟨h3,by simp only [scale]; omega,by show (B.length+2)*1≤140737488355328; omega⟩ ?_
  intro c2 hc2
  (repeat show _∧_;first|refine yr ?_|refine yt ?_|refine yf ?_|refine yo ?_)
  refine ⟨(done++[r],todo,B++qr r,c2),[0,4,2],⟨⟨rfl,rfl,rfl⟩,?_⟩,⟨hstep,hqf _ rfl,by rw [List.length_append,hEl]; exact hc2⟩,by dsimp only; simp⟩
  have hbl:(B++qr r).length=B.length+2:=by rw [List.length_append,hEl]
  dsimp only
  (repeat first|exact trivial|refine ent1 ?_)
  refine ⟨fun j hj=>eqC_bytes (fun i hi=>?_) j,by rw [hpe]; (repeat first|exact trivial|refine ent1 ?_)⟩
  have hi':i<B.length+2:=by rw [hbl] at hi; exact hi
  rw [hE]
  refine app_row (l:=B) (n:=B.length) (k:=2) rfl ?_ (fun i hi=>bytesF_lt hi) (fun i hi=>?_) i hi'
  ·rfl
  ·exact rowl i (by exact hi) rfl
 have g1:decide ((r:Int)=9)=false:=decide_eq_false (by omega)
 by_cases b2:r=13
 ·have g2:decide ((r:Int)=13)=true:=decide_eq_true (by omega)
  have hE:=(congrArg qr b2).trans qr_r
  have hEl:(qr r).length=2:=by rw [hE]; rfl
  (repeat show _∧_;first|refine yr ?_|refine yt ?_|refine yf ?_|refine yt ?_ (by first|decide|(rw[f1];decide)|(rw[f2];decide)|(rw[g0];decide)|(rw[g1];decide)|(rw[g2];decide))|refine yf ?_ (by first|decide|(rw[f1];decide)|(rw[f2];decide)|(rw[g0];decide)|(rw[g1];decide)|(rw[g2];decide))|refine yo ?_)
  refine And.intro ⟨h3,by simp only [scale]; omega,by show (B.length+2)*1≤140737488355328; omega⟩ ?_
  intro c2 hc2
  (repeat show _∧_;first|refine yr ?_|refine yt ?_|refine yf ?_|refine yo ?_)
  refine ⟨(done++[r],todo,B++qr r,c2),[0,4,2],⟨⟨rfl,rfl,rfl⟩,?_⟩,⟨hstep,hqf _ rfl,by rw [List.length_append,hEl]; exact hc2⟩,by dsimp only; simp⟩
  have hbl:(B++qr r).length=B.length+2:=by rw [List.length_append,hEl]
  dsimp only
  (repeat first|exact trivial|refine ent1 ?_)
  refine ⟨fun j hj=>eqC_bytes (fun i hi=>?_) j,by rw [hpe]; (repeat first|exact trivial|refine ent1 ?_)⟩
  have hi':i<B.length+2:=by rw [hbl] at hi; exact hi
  rw [hE]
  refine app_row (l:=B) (n:=B.length) (k:=2) rfl ?_ (fun i hi=>bytesF_lt hi) (fun i hi=>?_) i hi'
  ·rfl
  ·exact rowl i (by exact hi) rfl
 have g2:decide ((r:Int)=13)=false:=decide_eq_false (by omega)
 have hno:¬ (r=34∨r=92):=by omega
 by_cases b3:r<32
 ·have g3:decide ((r:Int)<32)=true:=decide_eq_true (by omega)
  have hE:=qr_ctl hno b0 b1 b2 b3
  have hEl:(qr r).length=6:=by rw [hE]; rfl
  (repeat show _∧_;first|refine yr ?_|refine yt ?_|refine yf ?_|refine yt ?_ (by first|decide|(rw[f1];decide)|(rw[f2];decide)|(rw[g0];decide)|(rw[g1];decide)|(rw[g2];decide)|(rw[g3];decide))|refine yf ?_ (by first|decide|(rw[f1];decide)|(rw[f2];decide)|(rw[g0];decide)|(rw[g1];decide)|(rw[g2];decide)|(rw[g3];decide))|refine yo ?_)
  refine ⟨none,[],[(0,true),(1,true),(2,true),(3,true),(4,true),(5,true),(6,true),(7,false)],[8,9],by kernel_rfl,?_⟩
  (repeat show _∧_;first|refine yr ?_|refine yt ?_|refine yf ?_|refine yo ?_)
  refine And.intro ⟨by show 0≤(r:Int) / 2 ^ 4; omega,by show (r:Int) / 2 ^ 4<16; omega⟩ ?_
  (repeat show _∧_;first|refine yr ?_|refine yt ?_|refine yf ?_|refine yo ?_)
  refine And.intro ⟨by omega,by show (((((r:Int)).toNat &&& ((15:Int)).toNat:Nat):Int))<16; have:=Nat.and_le_right (n:=((r:Int)).toNat) (m:=((15:Int)).toNat); have h15:((15:Int)).toNat=15:=rfl; omega⟩ ?_
  (repeat show _∧_;first|refine yr ?_|refine yt ?_|refine yf ?_|refine yo ?_)
  refine And.intro ⟨h3,by simp only [scale]; omega,by show (B.length+6)*1≤140737488355328; omega⟩ ?_
  intro c2 hc2
  (repeat show _∧_;first|refine yr ?_|refine yt ?_|refine yf ?_|refine yo ?_)
  refine ⟨(done++[r],todo,B++qr r,c2),[0,4,2],⟨⟨rfl,rfl,rfl⟩,?_⟩,⟨hstep,hqf _ rfl,by rw [List.length_append,hEl]; exact hc2⟩,by dsimp only; simp⟩
  have hbl:(B++qr r).length=B.length+6:=by rw [List.length_append,hEl]
  dsimp only
  (repeat first|exact trivial|refine ent1 ?_)
  refine ⟨fun j hj=>eqC_bytes (fun i hi=>?_) j,by rw [hpe]; (repeat first|exact trivial|refine ent1 ?_)⟩
  have hi':i<B.length+6:=by rw [hbl] at hi; exact hi
  rw [hE]
  refine app_row (l:=B) (n:=B.length) (k:=6) rfl ?_ (fun i hi=>bytesF_lt hi) (fun i hi=>?_) i hi'
  ·rfl
  ·exact rowl i (by exact hi) rfl
 have g3:decide ((r:Int)<32)=false:=decide_eq_false (by omega)
 have hE:=qr_enc hno b0 b1 b2 b3
 rw [hE] at hsplit hqf
 (repeat show _∧_;first|refine yr ?_|refine yt ?_|refine yf ?_|refine yt ?_ (by first|decide|(rw[f1];decide)|(rw[f2];decide)|(rw[g0];decide)|(rw[g1];decide)|(rw[g2];decide)|(rw[g3];decide))|refine yf ?_ (by first|decide|(rw[f1];decide)|(rw[f2];decide)|(rw[g0];decide)|(rw[g1];decide)|(rw[g2];decide)|(rw[g3];decide))|refine yo ?_)
 refine call_same (fn_arune B c (by omega) h3 hr) [1] rfl (by (repeat first|exact trivial|refine ent1 ?_)) (by (repeat first|exact trivial|refine ent1 ?_)) (fun _ _=>trivial) ?_
 rintro x hs' ⟨c2,q1,rfl,rfl⟩
 refine ⟨(done++[r],todo,B++enc r,c2),[0,3,2],⟨⟨rfl,rfl,rfl⟩,?_⟩,⟨hstep,hqf _ rfl,q1⟩,by dsimp only; simp⟩
 dsimp only
 rw [hpe]
 (repeat first|exact trivial|refine ent1 ?_)
end Sx
end
section
namespace Js
open Sha
theorem putL_snoc (pv:JT→Bs) (x:JT):∀ (l:List JT),l≠[]→putL pv (l++[x])=putL pv l++44#8::pv x
 | [],h=>absurd rfl h
 | [y],_=>rfl
 | y::z::l,_=>by
  show pv y++44#8::putL pv ((z::l)++[x])=(pv y++44#8::putL pv (z::l))++44#8::pv x
  rw [putL_snoc pv x (z::l) (by simp)]
  simp
theorem putL_one (pv:JT→Bs) (x:JT):putL pv ([]++[x])=pv x:=rfl
theorem putL_le (pv:JT→Bs):∀ (l:List JT) (j:Nat),(putL pv (l.take j)).length≤(putL pv l).length
 | _,0=>by rw [List.take_zero]; exact Nat.zero_le _
 | [],j+1=>by simp
 | [y],j+1=>by simp
 | y::z::l,1=>by simp [putL]
 | y::z::l,j+2=>by
  have:=putL_le pv (z::l) (j+1)
  show (pv y++44#8::putL pv ((z::l).take (j+1))).length≤(pv y++44#8::putL pv (z::l)).length
  rw [List.length_append,List.length_append,List.length_cons,List.length_cons]
  omega
theorem putO_snoc (pv:JT→Bs) (s:Bs) (x:JT):∀ (ns:List Bs) (l:List JT),l≠[]→ns.length=l.length→putO pv (ns++[s]) (l++[x])=putO pv ns l++44#8::(quote s++58#8::pv x)
 | _,[],h,_=>absurd rfl h
 | [],y::l,_,h=>by cases h
 | [t],[y],_,_=>by
  show quote t++58#8::(pv y++44#8::(quote s++58#8::pv x))=(quote t++58#8::pv y)++44#8::(quote s++58#8::pv x)
  simp
 | t::u::ns,y::z::l,_,h=>by
  show quote t++58#8::(pv y++44#8::putO pv ((u::ns)++[s]) ((z::l)++[x]))=(quote t++58#8::(pv y++44#8::putO pv (u::ns) (z::l)))++44#8::(quote s++58#8::pv x)
  rw [putO_snoc pv s x (u::ns) (z::l) (by simp) (by simpa using h)]
  simp
theorem putO_one (pv:JT→Bs) (s:Bs) (x:JT):putO pv ([]++[s]) ([]++[x])=quote s++58#8::pv x:=rfl
theorem putO_le (pv:JT→Bs):∀ (ns:List Bs) (l:List JT) (j:Nat),ns.length=l.length→(putO pv (ns.take j) (l.take j)).length≤(putO pv ns l).length
 | ns,l,0,_=>by rw [List.take_zero,List.take_zero]; exact Nat.zero_le _
 | ns,[],j+1,h=>by
  obtain rfl:ns=[]:=List.eq_nil_of_length_eq_zero h
  simp
 | [],y::l,j+1,h=>by cases h
 | [s],[y],j+1,_=>by simp
 | s::t::ns,y::z::l,1,_=>by simp [putO]
 | s::t::ns,y::z::l,j+2,h=>by
  have:=putO_le pv (t::ns) (z::l) (j+1) (by simpa using h)
  show (quote s++58#8::(pv y++44#8::putO pv ((t::ns).take (j+1)) ((z::l).take (j+1)))).length≤(quote s++58#8::(pv y++44#8::putO pv (t::ns) (z::l))).length
  simp only [List.length_append,List.length_cons] at this ⊢
  omega
 | [_],_::_::_,j+1,h=>by simp at h
 | _::_::_,[_],j+1,h=>by simp at h
theorem putL_step (pv:JT→Bs) (l:List JT) (j:Nat) (h:j<l.length) (b:Bs):b++putL pv (l.take (j+1))=(if j=0 then b else b++putL pv (l.take j)++[44#8])++pv (l[j]):=by
 rw [List.take_add_one,List.getElem?_eq_getElem h,Option.toList_some]
 by_cases h0:j=0
 ·subst h0
  rw [if_pos rfl,List.take_zero,putL_one]
 ·rw [if_neg h0,putL_snoc _ _ _ (by intro e; rw [← List.length_eq_zero_iff,List.length_take] at e; omega)]
  simp
theorem putO_step (pv:JT→Bs) (ns:List Bs) (l:List JT) (j:Nat) (h:j<l.length) (h2:ns.length=l.length) (b:Bs):b++putO pv (ns.take (j+1)) (l.take (j+1))=((if j=0 then b else b++putO pv (ns.take j) (l.take j)++[44#8])++quote (ns[j]'(by omega))++[58#8])++pv (l[j]):=by
 rw [List.take_add_one,List.take_add_one,List.getElem?_eq_getElem h,List.getElem?_eq_getElem (by omega:j<ns.length),Option.toList_some,Option.toList_some]
 by_cases h0:j=0
 ·subst h0
  rw [if_pos rfl,List.take_zero,List.take_zero,putO_one]
  simp
 ·rw [if_neg h0,putO_snoc _ _ _ _ _ (by intro e; rw [← List.length_eq_zero_iff,List.length_take] at e; omega) (by rw [List.length_take,List.length_take,h2])]
  simp
end Js
namespace Sx
open Go.RowKit Sha Vi Js

theorem bytesM_lt {g:Nat→Nat} {n:Nat} {b:Nat→BitVec 8} {i:Nat} (h:i<n):SC.mp g (bytesF n b i)=.w8 (b i):=by rw [bytesF_lt h]; rfl
theorem rowu {l:List UInt8} {m:Bs} (e:l=U8 m) (i:Nat) (hi:i<m.length):SC.w8 (l.getD i 0).toBitVec=.w8 (L m i):=by
 subst e; exact row_U8 i hi
def PutC (d:Nat):Prop:=∀ (W:World) (ms:List Nat) (v:JT) (x:JC) (b:Bs) (c:Nat),Tabs W ms→TAt W ms d v x→norm d v→b.length≤c→b.length+(put d v).length≤70368744177664 →
 FnR Tryd.prog tds 45 1 [[.past W ms],lsC b c] [.agg (jvS v x),.c (.sl 1 0 0 b.length c)] (fun _=>True)
  (fun y hs=>∃ c',(b++put d v).length≤c'∧y=.a (.c (.sl 2 0 0 (b++put d v).length c'))∧hs=[[.past W ms],[],lsC (b++put d v) c'])
set_option maxRecDepth 20000 in
set_option maxHeartbeats 32000000 in
theorem fn_put0 (d:Nat) (hrec:∀ d',d=d'+1→PutC d') {W:World} {ms:List Nat} {v:JT} {x:JC} (hT:Tabs W ms) (hx:TAt W ms d v x) (hn:norm d v) (hl:(put d v).length≤70368744177664) :
  FnR Tryd.prog tds 45 1 [[.past W ms]] [.agg (jvS v x),.c (.slc none 0 0)] (fun _=>True)
  (fun y hs=>∃ c',(put d v).length≤c'∧y=.a (.c (.sl 1 0 0 (put d v).length c'))∧hs=[[.past W ms],lsC (put d v) c']):=by
 refine fn_of_body tds_ok follows_ Tryd.func45 rfl (t:=.a (.agg (jvS v x))::.a (.c (.slc none 0 0))::anys (Tryd.f45.ntmps-2)) rfl (fun w r0 hr0 _=>?_)
 obtain ⟨x0,rfl⟩:=len1' hr0
 obtain ⟨pl,po,hpv,hcs⟩:∃ pl po,put d v=put1 pl po v∧(leaf v∨∃ d',d=d'+1∧pl=putL (put d')∧po=putO (put d')∧v.n=0#64∧v.s=[]∧(∀ x∈v.l,norm d' x)∧((v.k=5#8∧v.ns=[])∨(v.k=6#8∧v.ns.length=v.l.length∧v.ns.Nodup∧∀ s∈v.ns,Utf s))):=by
  cases d with
  | zero=>exact ⟨_,_,rfl,.inl hn⟩
  | succ d=>exact ⟨_,_,rfl,hn.imp_right fun h=>⟨d,rfl,rfl,rfl,h⟩⟩
 by_cases k0:v.k=0#8
 ·have f0:decide (v.k=0#8)=true:=decide_eq_true k0
  have hp:put d v=[110#8,117#8,108#8,108#8]:=by rw [hpv]; unfold put1; rw [if_pos k0]
  rw [hp] at hl ⊢
  (repeat show _∧_;first|refine yr ?_|refine yt ?_|refine yf ?_|refine ya f0 ?_|refine yb f0 ?_|refine yo ?_)
  intro c' hc'
  (repeat show _∧_;first|refine yr ?_|refine yt ?_|refine yf ?_|refine yo ?_)
  refine ⟨.a (.c (.sl 1 0 0 4 c')),_,⟨[0,2],⟨rfl,rfl,rfl⟩,?_⟩,c',hc',rfl,rfl⟩
  (repeat first|exact trivial|refine ent1 ?_)
  refine ⟨fun j' hj'=>eqC_bytes (fun i hi=>?_) j',by (repeat first|exact trivial|refine ent1 ?_)⟩
  exact new_row (m:=[110#8,117#8,108#8,108#8]) (fun i hi=>rowu rfl i (by exact hi)) i hi
 have f0:decide (v.k=0#8)=false:=decide_eq_false k0
 by_cases k1:v.k=1#8
 ·have f1:decide (v.k=1#8)=true:=decide_eq_true k1
  have hp:put d v=[102#8,97#8,108#8,115#8,101#8]:=by rw [hpv]; unfold put1; rw [if_neg k0]; rw [if_pos k1]
  rw [hp] at hl ⊢
  (repeat show _∧_;first|refine yr ?_|refine yt ?_|refine yf ?_|refine ya f0 ?_|refine yb f0 ?_|refine ya f1 ?_|refine yb f1 ?_|refine yo ?_)
  intro c' hc'
  (repeat show _∧_;first|refine yr ?_|refine yt ?_|refine yf ?_|refine yo ?_)
  refine ⟨.a (.c (.sl 1 0 0 5 c')),_,⟨[0,2],⟨rfl,rfl,rfl⟩,?_⟩,c',hc',rfl,rfl⟩
  (repeat first|exact trivial|refine ent1 ?_)
  refine ⟨fun j' hj'=>eqC_bytes (fun i hi=>?_) j',by (repeat first|exact trivial|refine ent1 ?_)⟩
  exact new_row (m:=[102#8,97#8,108#8,115#8,101#8]) (fun i hi=>rowu rfl i (by exact hi)) i hi
 have f1:decide (v.k=1#8)=false:=decide_eq_false k1
 by_cases k2:v.k=2#8
 ·have f2:decide (v.k=2#8)=true:=decide_eq_true k2
  have hp:put d v=[116#8,114#8,117#8,101#8]:=by rw [hpv]; unfold put1; rw [if_neg k0]; rw [if_neg k1]; rw [if_pos k2]
  rw [hp] at hl ⊢
  (repeat show _∧_;first|refine yr ?_|refine yt ?_|refine yf ?_|refine ya f0 ?_|refine yb f0 ?_|refine ya f1 ?_|refine yb f1 ?_|refine ya f2 ?_|refine yb f2 ?_|refine yo ?_)
  intro c' hc'
  (repeat show _∧_;first|refine yr ?_|refine yt ?_|refine yf ?_|refine yo ?_)
  refine ⟨.a (.c (.sl 1 0 0 4 c')),_,⟨[0,2],⟨rfl,rfl,rfl⟩,?_⟩,c',hc',rfl,rfl⟩
  (repeat first|exact trivial|refine ent1 ?_)
  refine ⟨fun j' hj'=>eqC_bytes (fun i hi=>?_) j',by (repeat first|exact trivial|refine ent1 ?_)⟩
  exact new_row (m:=[116#8,114#8,117#8,101#8]) (fun i hi=>rowu rfl i (by exact hi)) i hi
 have f2:decide (v.k=2#8)=false:=decide_eq_false k2
 by_cases k3:v.k=3#8
 ·have f3:decide (v.k=3#8)=true:=decide_eq_true k3
  have hp:put d v=dig v.n.toNat:=by rw [hpv]; unfold put1; rw [if_neg k0,if_neg k1,if_neg k2,if_pos k3]
  rw [hp] at hl ⊢
  (repeat show _∧_;first|refine yr ?_|refine yt ?_|refine yf ?_|refine ya f0 ?_|refine yb f0 ?_|refine ya f1 ?_|refine yb f1 ?_|refine ya f2 ?_|refine yb f2 ?_|refine ya f3 ?_|refine yb f3 ?_|refine yo ?_)
  refine call_same (fn_uint0 hT v.n) [0] rfl (by exact And.intro rfl (And.intro rfl (And.intro rfl trivial))) (by (repeat first|exact trivial|refine ent1 ?_)) (fun _ _=>trivial) ?_
  rintro y hs ⟨c',hc',rfl,rfl⟩
  (repeat show _∧_;first|refine yr ?_|refine yt ?_|refine yf ?_|refine yo ?_)
  exact ⟨.a (.c (.sl 1 0 0 (dig v.n.toNat).length c')),_,⟨[0,2],⟨rfl,rfl,rfl⟩,by (repeat first|exact trivial|refine ent1 ?_)⟩,c',hc',rfl,rfl⟩
 have f3:decide (v.k=3#8)=false:=decide_eq_false k3
 by_cases k4:v.k=4#8
 ·have f4:decide (v.k=4#8)=true:=decide_eq_true k4
  have hp:put d v=quote v.s:=by rw [hpv]; unfold put1; rw [if_neg k0,if_neg k1,if_neg k2,if_neg k3,if_pos k4]
  have hU:Utf v.s:=by
   rcases hcs with hlf|⟨_,_,_,_,_,_,_,h5|h6⟩
   ·exact hlf.2.2.2.2.2
   ·exact absurd (k4.symm.trans h5.1) (by decide)
   ·exact absurd (k4.symm.trans h6.1) (by decide)
  rw [hp] at hl ⊢
  (repeat show _∧_;first|refine yr ?_|refine yt ?_|refine yf ?_|refine ya f0 ?_|refine yb f0 ?_|refine ya f1 ?_|refine yb f1 ?_|refine ya f2 ?_|refine yb f2 ?_|refine ya f3 ?_|refine yb f3 ?_|refine ya f4 ?_|refine yb f4 ?_|refine yo ?_)
  refine call_same (fn_quote0 hU hl) [] rfl (by exact And.intro rfl (And.intro rfl trivial)) trivial (fun _ _=>trivial) ?_
  rintro y hs ⟨c',hc',rfl,rfl⟩
  (repeat show _∧_;first|refine yr ?_|refine yt ?_|refine yf ?_|refine yo ?_)
  exact ⟨.a (.c (.sl 1 0 0 (quote v.s).length c')),_,⟨[0,2],⟨rfl,rfl,rfl⟩,by (repeat first|exact trivial|refine ent1 ?_)⟩,c',hc',rfl,rfl⟩
 have f4:decide (v.k=4#8)=false:=decide_eq_false k4
 rcases hcs with hlf|⟨d',rfl,rfl,rfl,hv1,hv2,hv3,hk⟩
 ·exfalso
  have h1:=hlf.2.2.2.2.1
  have kk:∀ n,n<5→v.k≠BitVec.ofNat 8 n:=by
   intro n hn
   match n,hn with
   | 0,_=>exact k0
   | 1,_=>exact k1
   | 2,_=>exact k2
   | 3,_=>exact k3
   | 4,_=>exact k4
  exact kk v.k.toNat (by omega) (by apply BitVec.eq_of_toNat_eq; simp)
 obtain ⟨⟨g1,g2,g3,g4,g5⟩,hns⟩:=hx
 obtain ⟨xa,xm,xc,xb,xp,xq⟩:=x
 dsimp only at g1 g2 g3 g4 g5 hns
 rcases hk with ⟨k5,hns0⟩|⟨k6,hnl,hnd,hnu⟩
 ·have f5:decide (v.k=5#8)=true:=decide_eq_true k5
  have hp:put (d'+1) v=91#8::(putL (put d') v.l++[93#8]):=by rw [hpv]; unfold put1; rw [if_neg k0,if_neg k1,if_neg k2,if_neg k3,if_neg k4,if_pos k5]
  rw [hp] at hl ⊢
  have hl2:(putL (put d') v.l).length+2≤70368744177664:=by simp only [List.length_cons,List.length_append,List.length_nil] at hl; omega
  (repeat show _∧_;first|refine yr ?_|refine yt ?_|refine yf ?_|refine ya f0 ?_|refine yb f0 ?_|refine ya f1 ?_|refine yb f1 ?_|refine ya f2 ?_|refine yb f2 ?_|refine ya f3 ?_|refine yb f3 ?_|refine ya f4 ?_|refine yb f4 ?_|refine ya f5 ?_|refine yb f5 ?_|refine yo ?_)
  intro c1 hc1
  (repeat show _∧_;first|refine yr ?_|refine yt ?_|refine yf ?_|refine yo ?_)
  refine .inl ⟨Nat × Bs × Nat,fun x=>match x with|(j,B,c)=>⟨[.any,.a (.c (.sl 2 0 0 B.length c)),.a (.c (.p 1 0 0)),.any,.a (.c (.slc none 0 0)),.any,.any,.any,.any,.any,.a (.c (.w8 v.k)),.any,.any,.any,.any,.any,.any,.any,.any,.any,.any,.any,.any,.any,.any,.any,.any,.any,.any,.any,.any,.any,.any,.any,.any,.any,.any,.any,.any,.any,.any,.a (.c (.slc xa xm xc)),.a (.c (.int .i64 (xm))),.a (.c (.int .i64 (((j:Nat):Int)))),.any,.any,.any,.any,.any,.any,.any,.any,.any,.any,.any,.any,.any,.any,.any,.any,.any,.any,.any,.any,.any,.any,.any,.any,.any,.any,.any,.any,.any,.any,.any,.any,.any,.any,.any,.any,.any,.any,.any,.any,.any,.any,.any,.any,.any,.any,.any,.any],[[.past W ms],jvS v ⟨xa,xm,xc,xb,xp,xq⟩,lsC B c]⟩,
   fun x=>match x with|(j,B,c)=>j≤v.l.length∧B=([91#8])++putL (put d') (v.l.take j)∧B.length≤c,fun x=>v.l.length-x.1,⟨(0,([91#8]),c1),[0,1,3],⟨⟨rfl,rfl,rfl⟩,?_⟩,Nat.zero_le _,by rw [List.take_zero]; exact (List.append_nil _).symm,hc1⟩,fun x hx=>?_⟩
  ·(repeat first|exact trivial|refine ent1 ?_)
   refine ⟨fun j hj=>eqC_bytes (fun i hi=>?_) j,by (repeat first|exact trivial|refine ent1 ?_)⟩
   exact new_row (m:=[91#8]) (fun i hi=>one_row rfl i hi) i hi
  obtain ⟨j,B,c2⟩:=x
  obtain ⟨i1,i2,i3⟩:=hx
  dsimp only
  have hBl:B.length=1+(putL (put d') (v.l.take j)).length:=by rw [i2]; simp only [List.length_append,List.length_cons,List.length_nil]; try omega
  have hjl:(putL (put d') (v.l.take j)).length≤(putL (put d') v.l).length:=putL_le _ _ _
  have hBm:B.length+1≤70368744177664:=by omega
  by_cases hj:j<v.l.length
  rotate_left
  ·have e1:decide ((j:Int)<(xm:Int))=false:=decide_eq_false (by omega)
   obtain rfl:j=v.l.length:=by omega
   have hfull:91#8::(putL (put d') v.l++[93#8])=B++[93#8]:=by rw [i2,List.take_length]; simp
   rw [hfull]
   (repeat show _∧_;first|refine yr ?_|refine yt ?_|refine yf ?_|refine ya e1 ?_|refine yb e1 ?_|refine yo ?_)
   refine And.intro ⟨i3,by simp only [scale]; omega,by show (B.length+1)*1≤140737488355328; omega⟩ ?_
   intro c3 hc3
   (repeat show _∧_;first|refine yr ?_|refine yt ?_|refine yf ?_|refine yo ?_)
   refine ⟨.a (.c (.sl 1 0 0 (B++[93#8]).length c3)),_,⟨[0,4],⟨rfl,rfl,rfl⟩,?_⟩,c3,by rw [List.length_append]; exact hc3,rfl,rfl⟩
   (repeat first|exact trivial|refine ent1 ?_)
   refine And.intro (show B.length+1=(B++[93#8]).length by rw [List.length_append]; rfl) ?_
   (repeat first|exact trivial|refine ent1 ?_)
   refine ⟨fun j hj=>eqC_bytes (fun i hi=>?_) j,by (repeat first|exact trivial|refine ent1 ?_)⟩
   have hi':i<B.length+1:=by rw [List.length_append] at hi; exact hi
   refine app_row (l:=B) (n:=B.length) (k:=1) rfl ?_ (fun i hi=>bytesF_lt hi) (fun i hi=>?_) i hi'
   ·rfl
   ·exact rowl i (by exact hi) rfl
  have e1:decide ((j:Int)<(xm:Int))=true:=decide_eq_true (by omega)
  obtain ⟨A,rfl⟩:∃ A,xa=some A:=by
   cases xa with
   | none=>exact absurd (g4 rfl) (by omega)
   | some A=>exact ⟨A,rfl⟩
  obtain ⟨y,y1,y2⟩:=(g5 A rfl (by omega)).2 j v.l[j] (List.getElem?_eq_getElem hj)
  (repeat show _∧_;first|refine yr ?_|refine yt ?_|refine yf ?_|refine ya e1 ?_|refine yb e1 ?_|refine yo ?_)
  refine ⟨jvS v.l[j] y,⟨.past (i:=0) rfl (by exact y1),rfl⟩,?_⟩
  have hle1:(putL (put d') (v.l.take (j+1))).length≤(putL (put d') v.l).length:=putL_le _ _ _
  have hbs:(([91#8]):Bs).length=1:=rfl
  by_cases h0:j=0
  ·have e2:decide ((0:Int)<(j:Int))=false:=decide_eq_false (by omega)
   (repeat show _∧_;first|refine yr ?_|refine yt ?_|refine yf ?_|refine ya e2 ?_|refine yb e2 ?_|refine yo ?_)
   have hst:([91#8])++putL (put d') (v.l.take (j+1))=B++put d' v.l[j]:=by rw [putL_step (put d') v.l j hj,if_pos h0,show B=([91#8]) from by rw [i2,h0,List.take_zero]; exact List.append_nil _]
   have hln:=congrArg List.length hst
   simp only [List.length_append,List.length_cons,List.length_nil] at hln hbs
   refine call_same (hrec d' rfl W ms v.l[j] y B c2 hT y2 (hv3 _ (List.getElem_mem hj)) i3 (by (try simp only [List.length_append,List.length_cons,List.length_nil]); omega)) [0,2] rfl ?_ ?_ (fun _ _=>trivial) ?_
   ·(repeat first|exact trivial|refine ent1 ?_)
   ·(repeat first|exact trivial|refine ent1 ?_)
   rintro y' hs ⟨c6,hc6,rfl,rfl⟩
   (repeat show _∧_;first|refine yr ?_|refine yt ?_|refine yf ?_|refine yo ?_)
   refine ⟨(j+1,B++put d' v.l[j],c6),[0,1,4],⟨⟨rfl,rfl,rfl⟩,?_⟩,⟨hj,hst.symm,hc6⟩,by dsimp only; omega⟩
   dsimp only
   (repeat first|exact trivial|refine ent1 ?_)
  have e2:decide ((0:Int)<(j:Int))=true:=decide_eq_true (by omega)
  (repeat show _∧_;first|refine yr ?_|refine yt ?_|refine yf ?_|refine ya e2 ?_|refine yb e2 ?_|refine yo ?_)
  refine And.intro ⟨i3,by simp only [scale]; omega,by show (B.length+1)*1≤140737488355328; omega⟩ ?_
  intro c3 hc3
  (repeat show _∧_;first|refine yr ?_|refine yt ?_|refine yf ?_|refine yo ?_)
  have hc3':(B++[44#8]).length≤c3:=by rw [List.length_append]; exact hc3
  have hst:([91#8])++putL (put d') (v.l.take (j+1))=(B++[44#8])++put d' v.l[j]:=by rw [putL_step (put d') v.l j hj,if_neg h0,← i2]
  have hln:=congrArg List.length hst
  simp only [List.length_append,List.length_cons,List.length_nil] at hln hbs
  refine call_same (hrec d' rfl W ms v.l[j] y (B++[44#8]) c3 hT y2 (hv3 _ (List.getElem_mem hj)) hc3' (by (try simp only [List.length_append,List.length_cons,List.length_nil]); omega)) [0,5] rfl ?_ ?_ (fun _ _=>trivial) ?_
  ·(repeat first|exact trivial|refine ent1 ?_)
   exact And.intro (show B.length+1=_ by rw [List.length_append]; rfl) (by (repeat first|exact trivial|refine ent1 ?_))
  ·(repeat first|exact trivial|refine ent1 ?_)
   refine ⟨fun j' hj'=>eqC_bytes (fun i hi=>?_) j',by (repeat first|exact trivial|refine ent1 ?_)⟩
   have hi':i<(B).length+1:=by rw [List.length_append] at hi; exact hi
   refine app_row (l:=B) (n:=(B).length) (k:=1) rfl ?_ (fun i hi=>bytesF_lt hi) (fun i hi=>?_) i hi'
   ·rfl
   ·exact rowl i (by exact hi) rfl
  rintro y' hs ⟨c6,hc6,rfl,rfl⟩
  (repeat show _∧_;first|refine yr ?_|refine yt ?_|refine yf ?_|refine yo ?_)
  refine ⟨(j+1,(B++[44#8])++put d' v.l[j],c6),[0,1,6],⟨⟨rfl,rfl,rfl⟩,?_⟩,⟨hj,hst.symm,hc6⟩,by dsimp only; omega⟩
  dsimp only
  (repeat first|exact trivial|refine ent1 ?_)
 ·have f5:decide (v.k=5#8)=false:=decide_eq_false (by rw [k6]; decide)
  have hp:put (d'+1) v=123#8::(putO (put d') v.ns v.l++[125#8]):=by rw [hpv]; unfold put1; rw [if_neg k0,if_neg k1,if_neg k2,if_neg k3,if_neg k4,if_neg (by rw [k6]; decide)]
  rw [hp] at hl ⊢
  have hl2:(putO (put d') v.ns v.l).length+2≤70368744177664:=by simp only [List.length_cons,List.length_append,List.length_nil] at hl; omega
  (repeat show _∧_;first|refine yr ?_|refine yt ?_|refine yf ?_|refine ya f0 ?_|refine yb f0 ?_|refine ya f1 ?_|refine yb f1 ?_|refine ya f2 ?_|refine yb f2 ?_|refine ya f3 ?_|refine yb f3 ?_|refine ya f4 ?_|refine yb f4 ?_|refine ya f5 ?_|refine yb f5 ?_|refine yo ?_)
  intro c1 hc1
  (repeat show _∧_;first|refine yr ?_|refine yt ?_|refine yf ?_|refine yo ?_)
  refine .inl ⟨Nat × Bs × Nat,fun x=>match x with|(j,B,c)=>⟨[.any,.a (.c (.sl 2 0 0 B.length c)),.a (.c (.p 1 0 0)),.any,.a (.c (.slc none 0 0)),.any,.any,.any,.any,.any,.a (.c (.w8 v.k)),.any,.any,.any,.any,.any,.any,.any,.any,.any,.any,.any,.any,.any,.any,.any,.any,.any,.any,.any,.any,.any,.any,.any,.any,.any,.any,.any,.any,.any,.any,.any,.any,.any,.any,.any,.any,.any,.any,.any,.any,.any,.any,.any,.any,.any,.any,.any,.any,.any,.any,.any,.any,.any,.a (.c (.slc xa xm xc)),.a (.c (.int .i64 (xm))),.a (.c (.int .i64 (((j:Nat):Int)))),.any,.any,.any,.any,.any,.any,.any,.any,.any,.any,.any,.any,.any,.any,.any,.any,.any,.any,.any,.any,.any,.any,.any,.any,.any],[[.past W ms],jvS v ⟨xa,xm,xc,xb,xp,xq⟩,lsC B c]⟩,
   fun x=>match x with|(j,B,c)=>j≤v.l.length∧B=([123#8])++putO (put d') (v.ns.take j) (v.l.take j)∧B.length≤c,fun x=>v.l.length-x.1,⟨(0,([123#8]),c1),[0,1,3],⟨⟨rfl,rfl,rfl⟩,?_⟩,Nat.zero_le _,by rw [List.take_zero,List.take_zero]; exact (List.append_nil _).symm,hc1⟩,fun x hx=>?_⟩
  ·(repeat first|exact trivial|refine ent1 ?_)
   refine ⟨fun j hj=>eqC_bytes (fun i hi=>?_) j,by (repeat first|exact trivial|refine ent1 ?_)⟩
   exact new_row (m:=[123#8]) (fun i hi=>one_row rfl i hi) i hi
  obtain ⟨j,B,c2⟩:=x
  obtain ⟨i1,i2,i3⟩:=hx
  dsimp only
  have hBl:B.length=1+(putO (put d') (v.ns.take j) (v.l.take j)).length:=by rw [i2]; simp only [List.length_append,List.length_cons,List.length_nil]; try omega
  have hjl:(putO (put d') (v.ns.take j) (v.l.take j)).length≤(putO (put d') v.ns v.l).length:=putO_le _ _ _ _ hnl
  have hBm:B.length+1≤70368744177664:=by omega
  by_cases hj:j<v.l.length
  rotate_left
  ·have e1:decide ((j:Int)<(xm:Int))=false:=decide_eq_false (by omega)
   obtain rfl:j=v.l.length:=by omega
   have hfull:123#8::(putO (put d') v.ns v.l++[125#8])=B++[125#8]:=by rw [i2,show v.ns.take v.l.length=v.ns by rw [← hnl,List.take_length],List.take_length]; simp
   rw [hfull]
   (repeat show _∧_;first|refine yr ?_|refine yt ?_|refine yf ?_|refine ya e1 ?_|refine yb e1 ?_|refine yo ?_)
   refine And.intro ⟨i3,by simp only [scale]; omega,by show (B.length+1)*1≤140737488355328; omega⟩ ?_
   intro c3 hc3
   (repeat show _∧_;first|refine yr ?_|refine yt ?_|refine yf ?_|refine yo ?_)
   refine ⟨.a (.c (.sl 1 0 0 (B++[125#8]).length c3)),_,⟨[0,4],⟨rfl,rfl,rfl⟩,?_⟩,c3,by rw [List.length_append]; exact hc3,rfl,rfl⟩
   (repeat first|exact trivial|refine ent1 ?_)
   refine And.intro (show B.length+1=(B++[125#8]).length by rw [List.length_append]; rfl) ?_
   (repeat first|exact trivial|refine ent1 ?_)
   refine ⟨fun j hj=>eqC_bytes (fun i hi=>?_) j,by (repeat first|exact trivial|refine ent1 ?_)⟩
   have hi':i<B.length+1:=by rw [List.length_append] at hi; exact hi
   refine app_row (l:=B) (n:=B.length) (k:=1) rfl ?_ (fun i hi=>bytesF_lt hi) (fun i hi=>?_) i hi'
   ·rfl
   ·exact rowl i (by exact hi) rfl
  have e1:decide ((j:Int)<(xm:Int))=true:=decide_eq_true (by omega)
  obtain ⟨A,rfl⟩:∃ A,xa=some A:=by
   cases xa with
   | none=>exact absurd (g4 rfl) (by omega)
   | some A=>exact ⟨A,rfl⟩
  obtain ⟨y,y1,y2⟩:=(g5 A rfl (by omega)).2 j v.l[j] (List.getElem?_eq_getElem hj)
  obtain ⟨Bn,rfl⟩:∃ Bn,xb=some Bn:=by
   cases xb with
   | none=>exact absurd (show v.ns.length=0 by have h1:=hns.len; simp only [List.length_map] at h1; have h2:=hns.le; have h3:=hns.nil rfl; omega) (by omega)
   | some Bn=>exact ⟨Bn,rfl⟩
  have hjn:j<v.ns.length:=by omega
  have hjp:j<xp:=by have h1:=hns.len; simp only [List.length_map] at h1; omega
  (repeat show _∧_;first|refine yr ?_|refine yt ?_|refine yf ?_|refine ya e1 ?_|refine yb e1 ?_|refine yo ?_)
  refine ⟨jvS v.l[j] y,⟨.past (i:=0) rfl (by exact y1),rfl⟩,?_⟩
  have hle1:(putO (put d') (v.ns.take (j+1)) (v.l.take (j+1))).length≤(putO (put d') v.ns v.l).length:=putO_le _ _ _ _ hnl
  have hbs:(([123#8]):Bs).length=1:=rfl
  by_cases h0:j=0
  ·have e2:decide ((0:Int)<(j:Int))=false:=decide_eq_false (by omega)
   (repeat show _∧_;first|refine yr ?_|refine yt ?_|refine yf ?_|refine ya e2 ?_|refine yb e2 ?_|refine yo ?_)
   have hst:([123#8])++putO (put d') (v.ns.take (j+1)) (v.l.take (j+1))=(B++quote v.ns[j]++[58#8])++put d' v.l[j]:=by rw [putO_step (put d') v.ns v.l j hj hnl,if_pos h0,show B=([123#8]) from by rw [i2,h0,List.take_zero,List.take_zero]; exact List.append_nil _]
   have hln:=congrArg List.length hst
   simp only [List.length_append,List.length_cons,List.length_nil] at hln hbs
   refine And.intro (show (0:Int)≤(j:Int)∧(j:Int)<(xp:Int) by omega) ?_
   have him:=(hns.im Bn rfl (by have:=hns.le; omega)).one (show ((v.ns.map U8).map SC.str)[j]?=some (.str (U8 v.ns[j])) by simp [hjn])
   refine ⟨[.one (.str (U8 v.ns[j]))],⟨.past (i:=0) rfl (by show ImAt W ms (Bn.add (j*1)) _; rw [Nat.mul_one]; exact him),rfl⟩,?_⟩
   (repeat show _∧_;first|refine yr ?_|refine yt ?_|refine yf ?_|refine yo ?_)
   refine call_same (fn_quote B c2 i3 (hnu _ (List.getElem_mem hjn)) (by (try simp only [List.length_append,List.length_cons,List.length_nil]); omega)) [2] rfl (by exact And.intro rfl (And.intro rfl (And.intro rfl (And.intro rfl trivial)))) ?_ (fun _ _=>trivial) ?_
   ·(repeat first|exact trivial|refine ent1 ?_)
   rintro y' hs ⟨c4,hc4,rfl,rfl⟩
   (repeat show _∧_;first|refine yr ?_|refine yt ?_|refine yf ?_|refine yo ?_)
   refine And.intro ⟨hc4,by simp only [scale]; omega,by show ((B++quote v.ns[j]).length+1)*1≤140737488355328; rw [List.length_append]; omega⟩ ?_
   intro c5 hc5
   (repeat show _∧_;first|refine yr ?_|refine yt ?_|refine yf ?_|refine yo ?_)
   have hc5':((B++quote v.ns[j])++[58#8]).length≤c5:=by rw [List.length_append]; exact hc5
   refine call_same (hrec d' rfl W ms v.l[j] y ((B++quote v.ns[j])++[58#8]) c5 hT y2 (hv3 _ (List.getElem_mem hj)) hc5' (by (try simp only [List.length_append,List.length_cons,List.length_nil]); omega)) [0,6] rfl ?_ ?_ (fun _ _=>trivial) ?_
   ·(repeat first|exact trivial|refine ent1 ?_)
    exact And.intro (show (B++quote v.ns[j]).length+1=_ by simp only [List.length_append,List.length_cons,List.length_nil]) (by (repeat first|exact trivial|refine ent1 ?_))
   ·(repeat first|exact trivial|refine ent1 ?_)
    refine ⟨fun j' hj'=>eqC_bytes (fun i hi=>?_) j',by (repeat first|exact trivial|refine ent1 ?_)⟩
    have hi':i<((B++quote v.ns[j])).length+1:=by rw [List.length_append] at hi; exact hi
    refine app_row (l:=(B++quote v.ns[j])) (n:=((B++quote v.ns[j])).length) (k:=1) rfl ?_ (fun i hi=>bytesM_lt hi) (fun i hi=>?_) i hi'
    ·rfl
    ·exact rowl i (by exact hi) rfl
   rintro y' hs ⟨c6,hc6,rfl,rfl⟩
   (repeat show _∧_;first|refine yr ?_|refine yt ?_|refine yf ?_|refine yo ?_)
   refine ⟨(j+1,((B++quote v.ns[j])++[58#8])++put d' v.l[j],c6),[0,1,7],⟨⟨rfl,rfl,rfl⟩,?_⟩,⟨hj,hst.symm,hc6⟩,by dsimp only; omega⟩
   dsimp only
   (repeat first|exact trivial|refine ent1 ?_)
  have e2:decide ((0:Int)<(j:Int))=true:=decide_eq_true (by omega)
  (repeat show _∧_;first|refine yr ?_|refine yt ?_|refine yf ?_|refine ya e2 ?_|refine yb e2 ?_|refine yo ?_)
  refine And.intro ⟨i3,by simp only [scale]; omega,by show (B.length+1)*1≤140737488355328; omega⟩ ?_
  intro c3 hc3
  (repeat show _∧_;first|refine yr ?_|refine yt ?_|refine yf ?_|refine yo ?_)
  have hc3':(B++[44#8]).length≤c3:=by rw [List.length_append]; exact hc3
  have hst:([123#8])++putO (put d') (v.ns.take (j+1)) (v.l.take (j+1))=((B++[44#8])++quote v.ns[j]++[58#8])++put d' v.l[j]:=by rw [putO_step (put d') v.ns v.l j hj hnl,if_neg h0,← i2]
  have hln:=congrArg List.length hst
  simp only [List.length_append,List.length_cons,List.length_nil] at hln hbs
  refine And.intro (show (0:Int)≤(j:Int)∧(j:Int)<(xp:Int) by omega) ?_
  have him:=(hns.im Bn rfl (by have:=hns.le; omega)).one (show ((v.ns.map U8).map SC.str)[j]?=some (.str (U8 v.ns[j])) by simp [hjn])
  refine ⟨[.one (.str (U8 v.ns[j]))],⟨.past (i:=0) rfl (by show ImAt W ms (Bn.add (j*1)) _; rw [Nat.mul_one]; exact him),rfl⟩,?_⟩
  (repeat show _∧_;first|refine yr ?_|refine yt ?_|refine yf ?_|refine yo ?_)
  refine call_same (fn_quote (B++[44#8]) c3 hc3' (hnu _ (List.getElem_mem hjn)) (by (try simp only [List.length_append,List.length_cons,List.length_nil]); omega)) [5] rfl (by exact And.intro rfl (And.intro (show B.length+1=_ by rw [List.length_append]; rfl) (And.intro rfl (And.intro rfl trivial)))) ?_ (fun _ _=>trivial) ?_
  ·(repeat first|exact trivial|refine ent1 ?_)
   refine ⟨fun j' hj'=>eqC_bytes (fun i hi=>?_) j',by (repeat first|exact trivial|refine ent1 ?_)⟩
   have hi':i<(B).length+1:=by rw [List.length_append] at hi; exact hi
   refine app_row (l:=B) (n:=(B).length) (k:=1) rfl ?_ (fun i hi=>bytesF_lt hi) (fun i hi=>?_) i hi'
   ·rfl
   ·exact rowl i (by exact hi) rfl
  rintro y' hs ⟨c4,hc4,rfl,rfl⟩
  (repeat show _∧_;first|refine yr ?_|refine yt ?_|refine yf ?_|refine yo ?_)
  refine And.intro ⟨hc4,by simp only [scale]; omega,by show (((B++[44#8])++quote v.ns[j]).length+1)*1≤140737488355328; simp only [List.length_append,List.length_cons,List.length_nil]; omega⟩ ?_
  intro c5 hc5
  (repeat show _∧_;first|refine yr ?_|refine yt ?_|refine yf ?_|refine yo ?_)
  have hc5':(((B++[44#8])++quote v.ns[j])++[58#8]).length≤c5:=by rw [List.length_append]; exact hc5
  refine call_same (hrec d' rfl W ms v.l[j] y (((B++[44#8])++quote v.ns[j])++[58#8]) c5 hT y2 (hv3 _ (List.getElem_mem hj)) hc5' (by (try simp only [List.length_append,List.length_cons,List.length_nil]); omega)) [0,8] rfl ?_ ?_ (fun _ _=>trivial) ?_
  ·(repeat first|exact trivial|refine ent1 ?_)
   exact And.intro (show ((B++[44#8])++quote v.ns[j]).length+1=_ by simp only [List.length_append,List.length_cons,List.length_nil]) (by (repeat first|exact trivial|refine ent1 ?_))
  ·(repeat first|exact trivial|refine ent1 ?_)
   refine ⟨fun j' hj'=>eqC_bytes (fun i hi=>?_) j',by (repeat first|exact trivial|refine ent1 ?_)⟩
   have hi':i<(((B++[44#8])++quote v.ns[j])).length+1:=by rw [List.length_append] at hi; exact hi
   refine app_row (l:=((B++[44#8])++quote v.ns[j])) (n:=(((B++[44#8])++quote v.ns[j])).length) (k:=1) rfl ?_ (fun i hi=>bytesM_lt hi) (fun i hi=>?_) i hi'
   ·rfl
   ·exact rowl i (by exact hi) rfl
  rintro y' hs ⟨c6,hc6,rfl,rfl⟩
  (repeat show _∧_;first|refine yr ?_|refine yt ?_|refine yf ?_|refine yo ?_)
  refine ⟨(j+1,(((B++[44#8])++quote v.ns[j])++[58#8])++put d' v.l[j],c6),[0,1,9],⟨⟨rfl,rfl,rfl⟩,?_⟩,⟨hj,hst.symm,hc6⟩,by dsimp only; omega⟩
  dsimp only
  (repeat first|exact trivial|refine ent1 ?_)
set_option maxRecDepth 20000 in
set_option maxHeartbeats 32000000 in
theorem fn_put1 (d:Nat) (hrec:∀ d',d=d'+1→PutC d') {W:World} {ms:List Nat} {v:JT} {x:JC} (b:Bs) (c:Nat) (hT:Tabs W ms) (hx:TAt W ms d v x) (hn:norm d v) (hc:b.length≤c) (hl:b.length+(put d v).length≤70368744177664) :
  FnR Tryd.prog tds 45 1 [[.past W ms],lsC b c] [.agg (jvS v x),.c (.sl 1 0 0 b.length c)] (fun _=>True)
  (fun y hs=>∃ c',(b++put d v).length≤c'∧y=.a (.c (.sl 2 0 0 (b++put d v).length c'))∧hs=[[.past W ms],[],lsC (b++put d v) c']):=by
 refine fn_of_body tds_ok follows_ Tryd.func45 rfl (t:=.a (.agg (jvS v x))::.a (.c (.sl 1 0 0 b.length c))::anys (Tryd.f45.ntmps-2)) rfl (fun w r0 hr0 _=>?_)
 obtain ⟨x0,x1,rfl⟩:=len2' hr0
 obtain ⟨pl,po,hpv,hcs⟩:∃ pl po,put d v=put1 pl po v∧(leaf v∨∃ d',d=d'+1∧pl=putL (put d')∧po=putO (put d')∧v.n=0#64∧v.s=[]∧(∀ x∈v.l,norm d' x)∧((v.k=5#8∧v.ns=[])∨(v.k=6#8∧v.ns.length=v.l.length∧v.ns.Nodup∧∀ s∈v.ns,Utf s))):=by
  cases d with
  | zero=>exact ⟨_,_,rfl,.inl hn⟩
  | succ d=>exact ⟨_,_,rfl,hn.imp_right fun h=>⟨d,rfl,rfl,rfl,h⟩⟩
 by_cases k0:v.k=0#8
 ·have f0:decide (v.k=0#8)=true:=decide_eq_true k0
  have hp:put d v=[110#8,117#8,108#8,108#8]:=by rw [hpv]; unfold put1; rw [if_pos k0]
  rw [hp] at hl ⊢
  have hl2:b.length+4≤70368744177664:=hl
  (repeat show _∧_;first|refine yr ?_|refine yt ?_|refine yf ?_|refine ya f0 ?_|refine yb f0 ?_|refine yo ?_)
  refine And.intro ⟨hc,by simp only [scale]; omega,by show (b.length+4)*1≤140737488355328; omega⟩ ?_
  intro c' hc'
  (repeat show _∧_;first|refine yr ?_|refine yt ?_|refine yf ?_|refine yo ?_)
  refine ⟨.a (.c (.sl 2 0 0 (b++[110#8,117#8,108#8,108#8]).length c')),_,⟨[0,1,3],⟨rfl,rfl,rfl⟩,?_⟩,c',by rw [List.length_append]; exact hc',rfl,rfl⟩
  (repeat first|exact trivial|refine ent1 ?_)
  refine And.intro (show b.length+4=_ by rw [List.length_append]; rfl) ?_
  (repeat first|exact trivial|refine ent1 ?_)
  refine ⟨fun j' hj'=>eqC_bytes (fun i hi=>?_) j',by (repeat first|exact trivial|refine ent1 ?_)⟩
  have hi':i<b.length+4:=by rw [List.length_append] at hi; exact hi
  refine app_row (l:=b) (n:=b.length) (k:=4) rfl ?_ (fun i hi=>bytesF_lt hi) (fun i hi=>?_) i hi'
  ·rfl
  ·exact rowu (m:=[110#8,117#8,108#8,108#8]) rfl i (by exact hi)
 have f0:decide (v.k=0#8)=false:=decide_eq_false k0
 by_cases k1:v.k=1#8
 ·have f1:decide (v.k=1#8)=true:=decide_eq_true k1
  have hp:put d v=[102#8,97#8,108#8,115#8,101#8]:=by rw [hpv]; unfold put1; rw [if_neg k0]; rw [if_pos k1]
  rw [hp] at hl ⊢
  have hl2:b.length+5≤70368744177664:=hl
  (repeat show _∧_;first|refine yr ?_|refine yt ?_|refine yf ?_|refine ya f0 ?_|refine yb f0 ?_|refine ya f1 ?_|refine yb f1 ?_|refine yo ?_)
  refine And.intro ⟨hc,by simp only [scale]; omega,by show (b.length+5)*1≤140737488355328; omega⟩ ?_
  intro c' hc'
  (repeat show _∧_;first|refine yr ?_|refine yt ?_|refine yf ?_|refine yo ?_)
  refine ⟨.a (.c (.sl 2 0 0 (b++[102#8,97#8,108#8,115#8,101#8]).length c')),_,⟨[0,1,3],⟨rfl,rfl,rfl⟩,?_⟩,c',by rw [List.length_append]; exact hc',rfl,rfl⟩
  (repeat first|exact trivial|refine ent1 ?_)
  refine And.intro (show b.length+5=_ by rw [List.length_append]; rfl) ?_
  (repeat first|exact trivial|refine ent1 ?_)
  refine ⟨fun j' hj'=>eqC_bytes (fun i hi=>?_) j',by (repeat first|exact trivial|refine ent1 ?_)⟩
  have hi':i<b.length+5:=by rw [List.length_append] at hi; exact hi
  refine app_row (l:=b) (n:=b.length) (k:=5) rfl ?_ (fun i hi=>bytesF_lt hi) (fun i hi=>?_) i hi'
  ·rfl
  ·exact rowu (m:=[102#8,97#8,108#8,115#8,101#8]) rfl i (by exact hi)
 have f1:decide (v.k=1#8)=false:=decide_eq_false k1
 by_cases k2:v.k=2#8
 ·have f2:decide (v.k=2#8)=true:=decide_eq_true k2
  have hp:put d v=[116#8,114#8,117#8,101#8]:=by rw [hpv]; unfold put1; rw [if_neg k0]; rw [if_neg k1]; rw [if_pos k2]
  rw [hp] at hl ⊢
  have hl2:b.length+4≤70368744177664:=hl
  (repeat show _∧_;first|refine yr ?_|refine yt ?_|refine yf ?_|refine ya f0 ?_|refine yb f0 ?_|refine ya f1 ?_|refine yb f1 ?_|refine ya f2 ?_|refine yb f2 ?_|refine yo ?_)
  refine And.intro ⟨hc,by simp only [scale]; omega,by show (b.length+4)*1≤140737488355328; omega⟩ ?_
  intro c' hc'
  (repeat show _∧_;first|refine yr ?_|refine yt ?_|refine yf ?_|refine yo ?_)
  refine ⟨.a (.c (.sl 2 0 0 (b++[116#8,114#8,117#8,101#8]).length c')),_,⟨[0,1,3],⟨rfl,rfl,rfl⟩,?_⟩,c',by rw [List.length_append]; exact hc',rfl,rfl⟩
  (repeat first|exact trivial|refine ent1 ?_)
  refine And.intro (show b.length+4=_ by rw [List.length_append]; rfl) ?_
  (repeat first|exact trivial|refine ent1 ?_)
  refine ⟨fun j' hj'=>eqC_bytes (fun i hi=>?_) j',by (repeat first|exact trivial|refine ent1 ?_)⟩
  have hi':i<b.length+4:=by rw [List.length_append] at hi; exact hi
  refine app_row (l:=b) (n:=b.length) (k:=4) rfl ?_ (fun i hi=>bytesF_lt hi) (fun i hi=>?_) i hi'
  ·rfl
  ·exact rowu (m:=[116#8,114#8,117#8,101#8]) rfl i (by exact hi)
 have f2:decide (v.k=2#8)=false:=decide_eq_false k2
 by_cases k3:v.k=3#8
 ·have f3:decide (v.k=3#8)=true:=decide_eq_true k3
  have hp:put d v=dig v.n.toNat:=by rw [hpv]; unfold put1; rw [if_neg k0,if_neg k1,if_neg k2,if_pos k3]
  rw [hp] at hl ⊢
  (repeat show _∧_;first|refine yr ?_|refine yt ?_|refine yf ?_|refine ya f0 ?_|refine yb f0 ?_|refine ya f1 ?_|refine yb f1 ?_|refine ya f2 ?_|refine yb f2 ?_|refine ya f3 ?_|refine yb f3 ?_|refine yo ?_)
  refine call_same (fn_uint hT b c (by omega) hc v.n) [0,1] rfl (by exact And.intro rfl (And.intro rfl (And.intro rfl (And.intro rfl (And.intro rfl trivial))))) (by (repeat first|exact trivial|refine ent1 ?_)) (fun _ _=>trivial) ?_
  rintro y hs ⟨c',hc',rfl,rfl⟩
  (repeat show _∧_;first|refine yr ?_|refine yt ?_|refine yf ?_|refine yo ?_)
  exact ⟨.a (.c (.sl 2 0 0 (b++dig v.n.toNat).length c')),_,⟨[0,1,3],⟨rfl,rfl,rfl⟩,by (repeat first|exact trivial|refine ent1 ?_)⟩,c',hc',rfl,rfl⟩
 have f3:decide (v.k=3#8)=false:=decide_eq_false k3
 by_cases k4:v.k=4#8
 ·have f4:decide (v.k=4#8)=true:=decide_eq_true k4
  have hp:put d v=quote v.s:=by rw [hpv]; unfold put1; rw [if_neg k0,if_neg k1,if_neg k2,if_neg k3,if_pos k4]
  have hU:Utf v.s:=by
   rcases hcs with hlf|⟨_,_,_,_,_,_,_,h5|h6⟩
   ·exact hlf.2.2.2.2.2
   ·exact absurd (k4.symm.trans h5.1) (by decide)
   ·exact absurd (k4.symm.trans h6.1) (by decide)
  rw [hp] at hl ⊢
  (repeat show _∧_;first|refine yr ?_|refine yt ?_|refine yf ?_|refine ya f0 ?_|refine yb f0 ?_|refine ya f1 ?_|refine yb f1 ?_|refine ya f2 ?_|refine yb f2 ?_|refine ya f3 ?_|refine yb f3 ?_|refine ya f4 ?_|refine yb f4 ?_|refine yo ?_)
  refine call_same (fn_quote b c hc hU hl) [1] rfl (by exact And.intro rfl (And.intro rfl (And.intro rfl (And.intro rfl trivial)))) (by (repeat first|exact trivial|refine ent1 ?_)) (fun _ _=>trivial) ?_
  rintro y hs ⟨c',hc',rfl,rfl⟩
  (repeat show _∧_;first|refine yr ?_|refine yt ?_|refine yf ?_|refine yo ?_)
  exact ⟨.a (.c (.sl 2 0 0 (b++quote v.s).length c')),_,⟨[0,1,3],⟨rfl,rfl,rfl⟩,by (repeat first|exact trivial|refine ent1 ?_)⟩,c',hc',rfl,rfl⟩
 have f4:decide (v.k=4#8)=false:=decide_eq_false k4
 rcases hcs with hlf|⟨d',rfl,rfl,rfl,hv1,hv2,hv3,hk⟩
 ·exfalso
  have h1:=hlf.2.2.2.2.1
  have kk:∀ n,n<5→v.k≠BitVec.ofNat 8 n:=by
   intro n hn
   match n,hn with
   | 0,_=>exact k0
   | 1,_=>exact k1
   | 2,_=>exact k2
   | 3,_=>exact k3
   | 4,_=>exact k4
  exact kk v.k.toNat (by omega) (by apply BitVec.eq_of_toNat_eq; simp)
 obtain ⟨⟨g1,g2,g3,g4,g5⟩,hns⟩:=hx
 obtain ⟨xa,xm,xc,xb,xp,xq⟩:=x
 dsimp only at g1 g2 g3 g4 g5 hns
 rcases hk with ⟨k5,hns0⟩|⟨k6,hnl,hnd,hnu⟩
 ·have f5:decide (v.k=5#8)=true:=decide_eq_true k5
  have hp:put (d'+1) v=91#8::(putL (put d') v.l++[93#8]):=by rw [hpv]; unfold put1; rw [if_neg k0,if_neg k1,if_neg k2,if_neg k3,if_neg k4,if_pos k5]
  rw [hp] at hl ⊢
  have hl2:b.length+(putL (put d') v.l).length+2≤70368744177664:=by simp only [List.length_cons,List.length_append,List.length_nil] at hl; omega
  (repeat show _∧_;first|refine yr ?_|refine yt ?_|refine yf ?_|refine ya f0 ?_|refine yb f0 ?_|refine ya f1 ?_|refine yb f1 ?_|refine ya f2 ?_|refine yb f2 ?_|refine ya f3 ?_|refine yb f3 ?_|refine ya f4 ?_|refine yb f4 ?_|refine ya f5 ?_|refine yb f5 ?_|refine yo ?_)
  refine And.intro ⟨hc,by simp only [scale]; omega,by show (b.length+1)*1≤140737488355328; omega⟩ ?_
  intro c1 hc1
  (repeat show _∧_;first|refine yr ?_|refine yt ?_|refine yf ?_|refine yo ?_)
  refine .inl ⟨Nat × Bs × Nat,fun x=>match x with|(j,B,c)=>⟨[.any,.a (.c (.sl 3 0 0 B.length c)),.a (.c (.p 2 0 0)),.any,.a (.c (.slc none 0 0)),.any,.any,.any,.any,.any,.a (.c (.w8 v.k)),.any,.any,.any,.any,.any,.any,.any,.any,.any,.any,.any,.any,.any,.any,.any,.any,.any,.any,.any,.any,.any,.any,.any,.any,.any,.any,.any,.any,.any,.any,.a (.c (.slc xa xm xc)),.a (.c (.int .i64 (xm))),.a (.c (.int .i64 (((j:Nat):Int)))),.any,.any,.any,.any,.any,.any,.any,.any,.any,.any,.any,.any,.any,.any,.any,.any,.any,.any,.any,.any,.any,.any,.any,.any,.any,.any,.any,.any,.any,.any,.any,.any,.any,.any,.any,.any,.any,.any,.any,.any,.any,.any,.any,.any,.any,.any,.any,.any],[[.past W ms],[],jvS v ⟨xa,xm,xc,xb,xp,xq⟩,lsC B c]⟩,
   fun x=>match x with|(j,B,c)=>j≤v.l.length∧B=(b++[91#8])++putL (put d') (v.l.take j)∧B.length≤c,fun x=>v.l.length-x.1,⟨(0,(b++[91#8]),c1),[0,1,2,4],⟨⟨rfl,rfl,rfl⟩,?_⟩,Nat.zero_le _,by rw [List.take_zero]; exact (List.append_nil _).symm,by rw [List.length_append]; exact hc1⟩,fun x hx=>?_⟩
  ·(repeat first|exact trivial|refine ent1 ?_)
   refine And.intro (show b.length+1=(b++[91#8]).length by rw [List.length_append]; rfl) ?_
   (repeat first|exact trivial|refine ent1 ?_)
   refine ⟨fun j hj=>eqC_bytes (fun i hi=>?_) j,by (repeat first|exact trivial|refine ent1 ?_)⟩
   have hi':i<b.length+1:=by rw [List.length_append] at hi; exact hi
   refine app_row (l:=b) (n:=b.length) (k:=1) rfl ?_ (fun i hi=>bytesF_lt hi) (fun i hi=>?_) i hi'
   ·rfl
   ·exact rowl i (by exact hi) rfl
  obtain ⟨j,B,c2⟩:=x
  obtain ⟨i1,i2,i3⟩:=hx
  dsimp only
  have hBl:B.length=b.length+1+(putL (put d') (v.l.take j)).length:=by rw [i2]; simp only [List.length_append,List.length_cons,List.length_nil]; try omega
  have hjl:(putL (put d') (v.l.take j)).length≤(putL (put d') v.l).length:=putL_le _ _ _
  have hBm:B.length+1≤70368744177664:=by omega
  by_cases hj:j<v.l.length
  rotate_left
  ·have e1:decide ((j:Int)<(xm:Int))=false:=decide_eq_false (by omega)
   obtain rfl:j=v.l.length:=by omega
   have hfull:b++91#8::(putL (put d') v.l++[93#8])=B++[93#8]:=by rw [i2,List.take_length]; simp
   rw [hfull]
   (repeat show _∧_;first|refine yr ?_|refine yt ?_|refine yf ?_|refine ya e1 ?_|refine yb e1 ?_|refine yo ?_)
   refine And.intro ⟨i3,by simp only [scale]; omega,by show (B.length+1)*1≤140737488355328; omega⟩ ?_
   intro c3 hc3
   (repeat show _∧_;first|refine yr ?_|refine yt ?_|refine yf ?_|refine yo ?_)
   refine ⟨.a (.c (.sl 2 0 0 (B++[93#8]).length c3)),_,⟨[0,1,5],⟨rfl,rfl,rfl⟩,?_⟩,c3,by rw [List.length_append]; exact hc3,rfl,rfl⟩
   (repeat first|exact trivial|refine ent1 ?_)
   refine And.intro (show B.length+1=(B++[93#8]).length by rw [List.length_append]; rfl) ?_
   (repeat first|exact trivial|refine ent1 ?_)
   refine ⟨fun j hj=>eqC_bytes (fun i hi=>?_) j,by (repeat first|exact trivial|refine ent1 ?_)⟩
   have hi':i<B.length+1:=by rw [List.length_append] at hi; exact hi
   refine app_row (l:=B) (n:=B.length) (k:=1) rfl ?_ (fun i hi=>bytesF_lt hi) (fun i hi=>?_) i hi'
   ·rfl
   ·exact rowl i (by exact hi) rfl
  have e1:decide ((j:Int)<(xm:Int))=true:=decide_eq_true (by omega)
  obtain ⟨A,rfl⟩:∃ A,xa=some A:=by
   cases xa with
   | none=>exact absurd (g4 rfl) (by omega)
   | some A=>exact ⟨A,rfl⟩
  obtain ⟨y,y1,y2⟩:=(g5 A rfl (by omega)).2 j v.l[j] (List.getElem?_eq_getElem hj)
  (repeat show _∧_;first|refine yr ?_|refine yt ?_|refine yf ?_|refine ya e1 ?_|refine yb e1 ?_|refine yo ?_)
  refine ⟨jvS v.l[j] y,⟨.past (i:=0) rfl (by exact y1),rfl⟩,?_⟩
  have hle1:(putL (put d') (v.l.take (j+1))).length≤(putL (put d') v.l).length:=putL_le _ _ _
  have hbs:((b++[91#8]):Bs).length=b.length+1:=by simp only [List.length_append,List.length_cons,List.length_nil]
  by_cases h0:j=0
  ·have e2:decide ((0:Int)<(j:Int))=false:=decide_eq_false (by omega)
   (repeat show _∧_;first|refine yr ?_|refine yt ?_|refine yf ?_|refine ya e2 ?_|refine yb e2 ?_|refine yo ?_)
   have hst:(b++[91#8])++putL (put d') (v.l.take (j+1))=B++put d' v.l[j]:=by rw [putL_step (put d') v.l j hj,if_pos h0,show B=(b++[91#8]) from by rw [i2,h0,List.take_zero]; exact List.append_nil _]
   have hln:=congrArg List.length hst
   simp only [List.length_append,List.length_cons,List.length_nil] at hln hbs
   refine call_same (hrec d' rfl W ms v.l[j] y B c2 hT y2 (hv3 _ (List.getElem_mem hj)) i3 (by (try simp only [List.length_append,List.length_cons,List.length_nil]); omega)) [0,3] rfl ?_ ?_ (fun _ _=>trivial) ?_
   ·(repeat first|exact trivial|refine ent1 ?_)
   ·(repeat first|exact trivial|refine ent1 ?_)
   rintro y' hs ⟨c6,hc6,rfl,rfl⟩
   (repeat show _∧_;first|refine yr ?_|refine yt ?_|refine yf ?_|refine yo ?_)
   refine ⟨(j+1,B++put d' v.l[j],c6),[0,1,2,5],⟨⟨rfl,rfl,rfl⟩,?_⟩,⟨hj,hst.symm,hc6⟩,by dsimp only; omega⟩
   dsimp only
   (repeat first|exact trivial|refine ent1 ?_)
  have e2:decide ((0:Int)<(j:Int))=true:=decide_eq_true (by omega)
  (repeat show _∧_;first|refine yr ?_|refine yt ?_|refine yf ?_|refine ya e2 ?_|refine yb e2 ?_|refine yo ?_)
  refine And.intro ⟨i3,by simp only [scale]; omega,by show (B.length+1)*1≤140737488355328; omega⟩ ?_
  intro c3 hc3
  (repeat show _∧_;first|refine yr ?_|refine yt ?_|refine yf ?_|refine yo ?_)
  have hc3':(B++[44#8]).length≤c3:=by rw [List.length_append]; exact hc3
  have hst:(b++[91#8])++putL (put d') (v.l.take (j+1))=(B++[44#8])++put d' v.l[j]:=by rw [putL_step (put d') v.l j hj,if_neg h0,← i2]
  have hln:=congrArg List.length hst
  simp only [List.length_append,List.length_cons,List.length_nil] at hln hbs
  refine call_same (hrec d' rfl W ms v.l[j] y (B++[44#8]) c3 hT y2 (hv3 _ (List.getElem_mem hj)) hc3' (by (try simp only [List.length_append,List.length_cons,List.length_nil]); omega)) [0,6] rfl ?_ ?_ (fun _ _=>trivial) ?_
  ·(repeat first|exact trivial|refine ent1 ?_)
   exact And.intro (show B.length+1=_ by rw [List.length_append]; rfl) (by (repeat first|exact trivial|refine ent1 ?_))
  ·(repeat first|exact trivial|refine ent1 ?_)
   refine ⟨fun j' hj'=>eqC_bytes (fun i hi=>?_) j',by (repeat first|exact trivial|refine ent1 ?_)⟩
   have hi':i<(B).length+1:=by rw [List.length_append] at hi; exact hi
   refine app_row (l:=B) (n:=(B).length) (k:=1) rfl ?_ (fun i hi=>bytesF_lt hi) (fun i hi=>?_) i hi'
   ·rfl
   ·exact rowl i (by exact hi) rfl
  rintro y' hs ⟨c6,hc6,rfl,rfl⟩
  (repeat show _∧_;first|refine yr ?_|refine yt ?_|refine yf ?_|refine yo ?_)
  refine ⟨(j+1,(B++[44#8])++put d' v.l[j],c6),[0,1,2,7],⟨⟨rfl,rfl,rfl⟩,?_⟩,⟨hj,hst.symm,hc6⟩,by dsimp only; omega⟩
  dsimp only
  (repeat first|exact trivial|refine ent1 ?_)
 ·have f5:decide (v.k=5#8)=false:=decide_eq_false (by rw [k6]; decide)
  have hp:put (d'+1) v=123#8::(putO (put d') v.ns v.l++[125#8]):=by rw [hpv]; unfold put1; rw [if_neg k0,if_neg k1,if_neg k2,if_neg k3,if_neg k4,if_neg (by rw [k6]; decide)]
  rw [hp] at hl ⊢
  have hl2:b.length+(putO (put d') v.ns v.l).length+2≤70368744177664:=by simp only [List.length_cons,List.length_append,List.length_nil] at hl; omega
  (repeat show _∧_;first|refine yr ?_|refine yt ?_|refine yf ?_|refine ya f0 ?_|refine yb f0 ?_|refine ya f1 ?_|refine yb f1 ?_|refine ya f2 ?_|refine yb f2 ?_|refine ya f3 ?_|refine yb f3 ?_|refine ya f4 ?_|refine yb f4 ?_|refine ya f5 ?_|refine yb f5 ?_|refine yo ?_)
  refine And.intro ⟨hc,by simp only [scale]; omega,by show (b.length+1)*1≤140737488355328; omega⟩ ?_
  intro c1 hc1
  (repeat show _∧_;first|refine yr ?_|refine yt ?_|refine yf ?_|refine yo ?_)
  refine .inl ⟨Nat × Bs × Nat,fun x=>match x with|(j,B,c)=>⟨[.any,.a (.c (.sl 3 0 0 B.length c)),.a (.c (.p 2 0 0)),.any,.a (.c (.slc none 0 0)),.any,.any,.any,.any,.any,.a (.c (.w8 v.k)),.any,.any,.any,.any,.any,.any,.any,.any,.any,.any,.any,.any,.any,.any,.any,.any,.any,.any,.any,.any,.any,.any,.any,.any,.any,.any,.any,.any,.any,.any,.any,.any,.any,.any,.any,.any,.any,.any,.any,.any,.any,.any,.any,.any,.any,.any,.any,.any,.any,.any,.any,.any,.any,.a (.c (.slc xa xm xc)),.a (.c (.int .i64 (xm))),.a (.c (.int .i64 (((j:Nat):Int)))),.any,.any,.any,.any,.any,.any,.any,.any,.any,.any,.any,.any,.any,.any,.any,.any,.any,.any,.any,.any,.any,.any,.any,.any,.any],[[.past W ms],[],jvS v ⟨xa,xm,xc,xb,xp,xq⟩,lsC B c]⟩,
   fun x=>match x with|(j,B,c)=>j≤v.l.length∧B=(b++[123#8])++putO (put d') (v.ns.take j) (v.l.take j)∧B.length≤c,fun x=>v.l.length-x.1,⟨(0,(b++[123#8]),c1),[0,1,2,4],⟨⟨rfl,rfl,rfl⟩,?_⟩,Nat.zero_le _,by rw [List.take_zero,List.take_zero]; exact (List.append_nil _).symm,by rw [List.length_append]; exact hc1⟩,fun x hx=>?_⟩
  ·(repeat first|exact trivial|refine ent1 ?_)
   refine And.intro (show b.length+1=(b++[123#8]).length by rw [List.length_append]; rfl) ?_
   (repeat first|exact trivial|refine ent1 ?_)
   refine ⟨fun j hj=>eqC_bytes (fun i hi=>?_) j,by (repeat first|exact trivial|refine ent1 ?_)⟩
   have hi':i<b.length+1:=by rw [List.length_append] at hi; exact hi
   refine app_row (l:=b) (n:=b.length) (k:=1) rfl ?_ (fun i hi=>bytesF_lt hi) (fun i hi=>?_) i hi'
   ·rfl
   ·exact rowl i (by exact hi) rfl
  obtain ⟨j,B,c2⟩:=x
  obtain ⟨i1,i2,i3⟩:=hx
  dsimp only
  have hBl:B.length=b.length+1+(putO (put d') (v.ns.take j) (v.l.take j)).length:=by rw [i2]; simp only [List.length_append,List.length_cons,List.length_nil]; try omega
  have hjl:(putO (put d') (v.ns.take j) (v.l.take j)).length≤(putO (put d') v.ns v.l).length:=putO_le _ _ _ _ hnl
  have hBm:B.length+1≤70368744177664:=by omega
  by_cases hj:j<v.l.length
  rotate_left
  ·have e1:decide ((j:Int)<(xm:Int))=false:=decide_eq_false (by omega)
   obtain rfl:j=v.l.length:=by omega
   have hfull:b++123#8::(putO (put d') v.ns v.l++[125#8])=B++[125#8]:=by rw [i2,show v.ns.take v.l.length=v.ns by rw [← hnl,List.take_length],List.take_length]; simp
   rw [hfull]
   (repeat show _∧_;first|refine yr ?_|refine yt ?_|refine yf ?_|refine ya e1 ?_|refine yb e1 ?_|refine yo ?_)
   refine And.intro ⟨i3,by simp only [scale]; omega,by show (B.length+1)*1≤140737488355328; omega⟩ ?_
   intro c3 hc3
   (repeat show _∧_;first|refine yr ?_|refine yt ?_|refine yf ?_|refine yo ?_)
   refine ⟨.a (.c (.sl 2 0 0 (B++[125#8]).length c3)),_,⟨[0,1,5],⟨rfl,rfl,rfl⟩,?_⟩,c3,by rw [List.length_append]; exact hc3,rfl,rfl⟩
   (repeat first|exact trivial|refine ent1 ?_)
   refine And.intro (show B.length+1=(B++[125#8]).length by rw [List.length_append]; rfl) ?_
   (repeat first|exact trivial|refine ent1 ?_)
   refine ⟨fun j hj=>eqC_bytes (fun i hi=>?_) j,by (repeat first|exact trivial|refine ent1 ?_)⟩
   have hi':i<B.length+1:=by rw [List.length_append] at hi; exact hi
   refine app_row (l:=B) (n:=B.length) (k:=1) rfl ?_ (fun i hi=>bytesF_lt hi) (fun i hi=>?_) i hi'
   ·rfl
   ·exact rowl i (by exact hi) rfl
  have e1:decide ((j:Int)<(xm:Int))=true:=decide_eq_true (by omega)
  obtain ⟨A,rfl⟩:∃ A,xa=some A:=by
   cases xa with
   | none=>exact absurd (g4 rfl) (by omega)
   | some A=>exact ⟨A,rfl⟩
  obtain ⟨y,y1,y2⟩:=(g5 A rfl (by omega)).2 j v.l[j] (List.getElem?_eq_getElem hj)
  obtain ⟨Bn,rfl⟩:∃ Bn,xb=some Bn:=by
   cases xb with
   | none=>exact absurd (show v.ns.length=0 by have h1:=hns.len; simp only [List.length_map] at h1; have h2:=hns.le; have h3:=hns.nil rfl; omega) (by omega)
   | some Bn=>exact ⟨Bn,rfl⟩
  have hjn:j<v.ns.length:=by omega
  have hjp:j<xp:=by have h1:=hns.len; simp only [List.length_map] at h1; omega
  (repeat show _∧_;first|refine yr ?_|refine yt ?_|refine yf ?_|refine ya e1 ?_|refine yb e1 ?_|refine yo ?_)
  refine ⟨jvS v.l[j] y,⟨.past (i:=0) rfl (by exact y1),rfl⟩,?_⟩
  have hle1:(putO (put d') (v.ns.take (j+1)) (v.l.take (j+1))).length≤(putO (put d') v.ns v.l).length:=putO_le _ _ _ _ hnl
  have hbs:((b++[123#8]):Bs).length=b.length+1:=by simp only [List.length_append,List.length_cons,List.length_nil]
  by_cases h0:j=0
  ·have e2:decide ((0:Int)<(j:Int))=false:=decide_eq_false (by omega)
   (repeat show _∧_;first|refine yr ?_|refine yt ?_|refine yf ?_|refine ya e2 ?_|refine yb e2 ?_|refine yo ?_)
   have hst:(b++[123#8])++putO (put d') (v.ns.take (j+1)) (v.l.take (j+1))=(B++quote v.ns[j]++[58#8])++put d' v.l[j]:=by rw [putO_step (put d') v.ns v.l j hj hnl,if_pos h0,show B=(b++[123#8]) from by rw [i2,h0,List.take_zero,List.take_zero]; exact List.append_nil _]
   have hln:=congrArg List.length hst
   simp only [List.length_append,List.length_cons,List.length_nil] at hln hbs
   refine And.intro (show (0:Int)≤(j:Int)∧(j:Int)<(xp:Int) by omega) ?_
   have him:=(hns.im Bn rfl (by have:=hns.le; omega)).one (show ((v.ns.map U8).map SC.str)[j]?=some (.str (U8 v.ns[j])) by simp [hjn])
   refine ⟨[.one (.str (U8 v.ns[j]))],⟨.past (i:=0) rfl (by show ImAt W ms (Bn.add (j*1)) _; rw [Nat.mul_one]; exact him),rfl⟩,?_⟩
   (repeat show _∧_;first|refine yr ?_|refine yt ?_|refine yf ?_|refine yo ?_)
   refine call_same (fn_quote B c2 i3 (hnu _ (List.getElem_mem hjn)) (by (try simp only [List.length_append,List.length_cons,List.length_nil]); omega)) [3] rfl (by exact And.intro rfl (And.intro rfl (And.intro rfl (And.intro rfl trivial)))) ?_ (fun _ _=>trivial) ?_
   ·(repeat first|exact trivial|refine ent1 ?_)
   rintro y' hs ⟨c4,hc4,rfl,rfl⟩
   (repeat show _∧_;first|refine yr ?_|refine yt ?_|refine yf ?_|refine yo ?_)
   refine And.intro ⟨hc4,by simp only [scale]; omega,by show ((B++quote v.ns[j]).length+1)*1≤140737488355328; rw [List.length_append]; omega⟩ ?_
   intro c5 hc5
   (repeat show _∧_;first|refine yr ?_|refine yt ?_|refine yf ?_|refine yo ?_)
   have hc5':((B++quote v.ns[j])++[58#8]).length≤c5:=by rw [List.length_append]; exact hc5
   refine call_same (hrec d' rfl W ms v.l[j] y ((B++quote v.ns[j])++[58#8]) c5 hT y2 (hv3 _ (List.getElem_mem hj)) hc5' (by (try simp only [List.length_append,List.length_cons,List.length_nil]); omega)) [0,7] rfl ?_ ?_ (fun _ _=>trivial) ?_
   ·(repeat first|exact trivial|refine ent1 ?_)
    exact And.intro (show (B++quote v.ns[j]).length+1=_ by simp only [List.length_append,List.length_cons,List.length_nil]) (by (repeat first|exact trivial|refine ent1 ?_))
   ·(repeat first|exact trivial|refine ent1 ?_)
    refine ⟨fun j' hj'=>eqC_bytes (fun i hi=>?_) j',by (repeat first|exact trivial|refine ent1 ?_)⟩
    have hi':i<((B++quote v.ns[j])).length+1:=by rw [List.length_append] at hi; exact hi
    refine app_row (l:=(B++quote v.ns[j])) (n:=((B++quote v.ns[j])).length) (k:=1) rfl ?_ (fun i hi=>bytesM_lt hi) (fun i hi=>?_) i hi'
    ·rfl
    ·exact rowl i (by exact hi) rfl
   rintro y' hs ⟨c6,hc6,rfl,rfl⟩
   (repeat show _∧_;first|refine yr ?_|refine yt ?_|refine yf ?_|refine yo ?_)
   refine ⟨(j+1,((B++quote v.ns[j])++[58#8])++put d' v.l[j],c6),[0,1,2,8],⟨⟨rfl,rfl,rfl⟩,?_⟩,⟨hj,hst.symm,hc6⟩,by dsimp only; omega⟩
   dsimp only
   (repeat first|exact trivial|refine ent1 ?_)
  have e2:decide ((0:Int)<(j:Int))=true:=decide_eq_true (by omega)
  (repeat show _∧_;first|refine yr ?_|refine yt ?_|refine yf ?_|refine ya e2 ?_|refine yb e2 ?_|refine yo ?_)
  refine And.intro ⟨i3,by simp only [scale]; omega,by show (B.length+1)*1≤140737488355328; omega⟩ ?_
  intro c3 hc3
  (repeat show _∧_;first|refine yr ?_|refine yt ?_|refine yf ?_|refine yo ?_)
  have hc3':(B++[44#8]).length≤c3:=by rw [List.length_append]; exact hc3
  have hst:(b++[123#8])++putO (put d') (v.ns.take (j+1)) (v.l.take (j+1))=((B++[44#8])++quote v.ns[j]++[58#8])++put d' v.l[j]:=by rw [putO_step (put d') v.ns v.l j hj hnl,if_neg h0,← i2]
  have hln:=congrArg List.length hst
  simp only [List.length_append,List.length_cons,List.length_nil] at hln hbs
  refine And.intro (show (0:Int)≤(j:Int)∧(j:Int)<(xp:Int) by omega) ?_
  have him:=(hns.im Bn rfl (by have:=hns.le; omega)).one (show ((v.ns.map U8).map SC.str)[j]?=some (.str (U8 v.ns[j])) by simp [hjn])
  refine ⟨[.one (.str (U8 v.ns[j]))],⟨.past (i:=0) rfl (by show ImAt W ms (Bn.add (j*1)) _; rw [Nat.mul_one]; exact him),rfl⟩,?_⟩
  (repeat show _∧_;first|refine yr ?_|refine yt ?_|refine yf ?_|refine yo ?_)
  refine call_same (fn_quote (B++[44#8]) c3 hc3' (hnu _ (List.getElem_mem hjn)) (by (try simp only [List.length_append,List.length_cons,List.length_nil]); omega)) [6] rfl (by exact And.intro rfl (And.intro (show B.length+1=_ by rw [List.length_append]; rfl) (And.intro rfl (And.intro rfl trivial)))) ?_ (fun _ _=>trivial) ?_
  ·(repeat first|exact trivial|refine ent1 ?_)
   refine ⟨fun j' hj'=>eqC_bytes (fun i hi=>?_) j',by (repeat first|exact trivial|refine ent1 ?_)⟩
   have hi':i<(B).length+1:=by rw [List.length_append] at hi; exact hi
   refine app_row (l:=B) (n:=(B).length) (k:=1) rfl ?_ (fun i hi=>bytesF_lt hi) (fun i hi=>?_) i hi'
   ·rfl
   ·exact rowl i (by exact hi) rfl
  rintro y' hs ⟨c4,hc4,rfl,rfl⟩
  (repeat show _∧_;first|refine yr ?_|refine yt ?_|refine yf ?_|refine yo ?_)
  refine And.intro ⟨hc4,by simp only [scale]; omega,by show (((B++[44#8])++quote v.ns[j]).length+1)*1≤140737488355328; simp only [List.length_append,List.length_cons,List.length_nil]; omega⟩ ?_
  intro c5 hc5
  (repeat show _∧_;first|refine yr ?_|refine yt ?_|refine yf ?_|refine yo ?_)
  have hc5':(((B++[44#8])++quote v.ns[j])++[58#8]).length≤c5:=by rw [List.length_append]; exact hc5
  refine call_same (hrec d' rfl W ms v.l[j] y (((B++[44#8])++quote v.ns[j])++[58#8]) c5 hT y2 (hv3 _ (List.getElem_mem hj)) hc5' (by (try simp only [List.length_append,List.length_cons,List.length_nil]); omega)) [0,9] rfl ?_ ?_ (fun _ _=>trivial) ?_
  ·(repeat first|exact trivial|refine ent1 ?_)
   exact And.intro (show ((B++[44#8])++quote v.ns[j]).length+1=_ by simp only [List.length_append,List.length_cons,List.length_nil]) (by (repeat first|exact trivial|refine ent1 ?_))
  ·(repeat first|exact trivial|refine ent1 ?_)
   refine ⟨fun j' hj'=>eqC_bytes (fun i hi=>?_) j',by (repeat first|exact trivial|refine ent1 ?_)⟩
   have hi':i<(((B++[44#8])++quote v.ns[j])).length+1:=by rw [List.length_append] at hi; exact hi
   refine app_row (l:=((B++[44#8])++quote v.ns[j])) (n:=(((B++[44#8])++quote v.ns[j])).length) (k:=1) rfl ?_ (fun i hi=>bytesM_lt hi) (fun i hi=>?_) i hi'
   ·rfl
   ·exact rowl i (by exact hi) rfl
  rintro y' hs ⟨c6,hc6,rfl,rfl⟩
  (repeat show _∧_;first|refine yr ?_|refine yt ?_|refine yf ?_|refine yo ?_)
  refine ⟨(j+1,(((B++[44#8])++quote v.ns[j])++[58#8])++put d' v.l[j],c6),[0,1,2,10],⟨⟨rfl,rfl,rfl⟩,?_⟩,⟨hj,hst.symm,hc6⟩,by dsimp only; omega⟩
  dsimp only
  (repeat first|exact trivial|refine ent1 ?_)
end Sx
end
section
namespace Js
open Sha
end Js
namespace Sx
open Go.RowKit Sha Vi Js

end Sx
end
section
namespace Sx
open Go.RowKit Sha Vi Js

theorem U8_dj (a b:Bs):decide (U8 a=U8 b)=decide (a=b):=decide_eq_decide.2 ⟨U8_inj,congrArg U8⟩
theorem hasS_U8 (t:Bs):∀ ns:List Bs,hasS (U8 t) (ns.map U8)=decide (t∈ns)
 | []=>rfl
 | n::ns=>by
  rw [List.map_cons,hasS,hasS_U8 t ns,U8_dj]
  by_cases h:t=n
  ·subst h; simp
  ·rw [decide_eq_false h]; simp [h]
def hadC (ns:List Bs):List Seg:=[.obj (.strs (ns.map U8))]
end Sx
end
section
namespace Sx
open Go.RowKit Sha Vi Js

def jt0:JT:=.mk 0#8 0#64 [] [] []
abbrev vz:List Seg:=[.one (.w8 0#8),.one (.w64 0#64),.one (.str []),.one (.slc none 0 0),.one (.slc none 0 0)]
theorem marks_off:marksOk=false:=rfl
end Sx
end
section
namespace Sx
open Go.RowKit Sha Vi Js

abbrev vo0:List Seg:=[.one (.w8 6#8),.one (.w64 0#64),.one (.str []),.one (.slc none 0 0),.one (.slc none 0 0)]
abbrev vo1 (i n c j m e:Nat):List Seg:=[.one (.w8 6#8),.one (.w64 0#64),.one (.str []),.one (.sl i 0 0 n c),.one (.sl j 0 0 m e)]
def nmJ (ns:List Bs):List SC:=(ns.map U8).map SC.str
theorem nmL_raw (ns:List Bs):∀ x∈nmJ ns,x.raw=x:=fun x hx=>by
 obtain ⟨b,_,rfl⟩:=List.mem_map.1 hx
 rfl
theorem nmL_len (ns:List Bs):(nmJ ns).length=ns.length:=by simp [nmJ]
theorem nmL_app (ns:List Bs) (t:Bs):nmJ (ns++[t])=nmJ ns++[.str (U8 t)]:=by simp [nmJ]
theorem nmL_newrow {t:Bs} (j:Nat) (hj:j<(nmJ [t]).length):newF (scale 1 (0+1)) (fun q=>nthC [SC.str (U8 t)] (q+0)) j=nthC (nmJ [t]) j :=
 newJ_cs (new:=nmJ [t]) (m:=1) (sz:=0) rfl (fun _ _=>rfl) j hj
theorem nmL_approw {ns:List Bs} {t:Bs} {n:Nat} (hn:ns.length=n) (j:Nat) (hj:j<(nmJ (ns++[t])).length):appF (nthC (nmJ ns)) 0 (scale n (0+1)) (scale 1 (0+1)) (fun q=>nthC [SC.str (U8 t)] (q+0)) j=nthC (nmJ (ns++[t])) j:=by
 rw [nmL_app] at hj ⊢
 exact appJ_cs (cs:=nmJ ns) (new:=[SC.str (U8 t)]) (m:=1) (sz:=0) (by rw [nmL_len,hn]; omega) (fun _ _=>rfl) rfl (fun _ _=>rfl) j hj
end Sx
end
section
namespace Sx
open Go.RowKit Sha Vi Js

end Sx
end
section
namespace Js
open Sha
theorem qr_enc_le (r:Nat) (h:scal r):(enc r).length≤(qr r).length:=by
 unfold qr
 split
 ·rename_i h; rcases h with h|h <;> subst h <;> decide
 split
 ·rename_i h; subst h; decide
 split
 ·rename_i h; subst h; decide
 split
 ·rename_i h; subst h; decide
 split
 ·unfold enc; rw [if_pos (by omega)]; show 1≤6; decide
 ·exact Nat.le_refl _
theorem flat_le:∀ (rs:List Nat),(∀ r∈rs,scal r)→(rs.flatMap enc).length≤(rs.flatMap qr).length
 | [],_=>Nat.le_refl _
 | r::rs,h=>by
  rw [List.flatMap_cons,List.flatMap_cons,List.length_append,List.length_append]
  have h1:=qr_enc_le r (h r (List.mem_cons_self ..))
  have h2:=flat_le rs (fun x hx=>h x (List.mem_cons_of_mem _ hx))
  omega
theorem quote_len {s:Bs} (h:Utf s):s.length≤(quote s).length:=by
 obtain ⟨rs,hrs,rfl⟩:=h
 rw [quote_of hrs]
 have:=flat_le rs hrs
 simp only [List.length_cons,List.length_append,List.length_nil]
 omega
theorem putL_mem (pv:JT→Bs):∀ (l:List JT),∀ x∈l,(pv x).length≤(putL pv l).length
 | [],x,h=>absurd h (by simp)
 | [y],x,h=>by
  simp only [List.mem_singleton] at h
  subst h; exact Nat.le_refl _
 | y::z::l,x,h=>by
  show _≤(pv y++44#8::putL pv (z::l)).length
  rw [List.length_append,List.length_cons]
  rcases List.mem_cons.1 h with h|h
  ·subst h; omega
  ·have:=putL_mem pv (z::l) x h; omega
theorem putO_mem (pv:JT→Bs):∀ (ns:List Bs) (l:List JT),ns.length=l.length→(∀ x∈l,(pv x).length≤(putO pv ns l).length)∧∀ s∈ns,(quote s).length≤(putO pv ns l).length
 | [],[],_=>⟨fun x h=>absurd h (by simp),fun x h=>absurd h (by simp)⟩
 | [s],[y],_=>by
  refine ⟨fun x h=>?_,fun x h=>?_⟩
  ·simp only [List.mem_singleton] at h
   subst h
   show _≤(quote s++58#8::pv _).length
   rw [List.length_append,List.length_cons]; omega
  ·simp only [List.mem_singleton] at h
   subst h
   show _≤(quote _++58#8::pv y).length
   rw [List.length_append,List.length_cons]; omega
 | s::t::ns,y::z::l,h=>by
  obtain ⟨h1,h2⟩:=putO_mem pv (t::ns) (z::l) (by simpa using h)
  have e:putO pv (s::t::ns) (y::z::l)=quote s++58#8::(pv y++44#8::putO pv (t::ns) (z::l)):=rfl
  rw [e]
  simp only [List.length_append,List.length_cons] at h1 h2 ⊢
  refine ⟨fun x h=>?_,fun x h=>?_⟩
  ·rcases List.mem_cons.1 h with h|h
   ·subst h; omega
   ·have:=h1 x h; omega
  ·rcases List.mem_cons.1 h with h|h
   ·subst h; omega
   ·have:=h2 x h; omega
end Js
namespace Sx
open Go.RowKit Sha Vi Js

theorem fn_put:∀ d,PutC d
 | 0=>fun W ms v x b c hT hx hn hc hl=>fn_put1 0 (fun d' e=>by cases e) b c hT hx hn hc hl
 | d+1=>fun W ms v x b c hT hx hn hc hl=>fn_put1 (d+1) (fun d' e=>by injection e with e; subst e; exact fn_put d) b c hT hx hn hc hl
theorem fn_putN (d:Nat) {W:World} {ms:List Nat} {v:JT} {x:JC} (hT:Tabs W ms) (hx:TAt W ms d v x) (hn:norm d v) (hl:(put d v).length≤70368744177664) :
  FnR Tryd.prog tds 45 1 [[.past W ms]] [.agg (jvS v x),.c (.slc none 0 0)] (fun _=>True)
  (fun y hs=>∃ c',(put d v).length≤c'∧y=.a (.c (.sl 1 0 0 (put d v).length c'))∧hs=[[.past W ms],lsC (put d v) c']):=fn_put0 d (fun d' _=>fn_put d') hT hx hn hl
set_option maxRecDepth 20000 in
set_option maxHeartbeats 8000000 in
theorem fn_jnames {W:World} {ms:List Nat} (hT:Tabs W ms) {a:Option Addr} {m c:Nat} {ns:List Bs} (h:StAt W ms a m c (ns.map U8)) (hu:∀ s∈ns,Utf s) (hnd:ns.Nodup) (hl:∀ s∈ns,s.length≤9223372036854775807) :
  FnR Tryd.prog tds 66 1 [[.past W ms]] [.c (.slc a m c)] (fun _=>True) (fun y hs=>y=.a (.c (.int .i64 0))∧hs=[[.past W ms]]):=by
 refine fn_of_body tds_ok follows_ Tryd.func66 rfl (t:=.a (.c (.slc a m c))::anys (Tryd.f66.ntmps-1)) rfl (fun w r0 hr0 _=>?_)
 obtain ⟨x0,rfl⟩:=len1' hr0
 have hm:ns.length=m:=by have h1:=h.len; simp only [List.length_map] at h1; omega
 have hcap:=h.cap
 by_cases h0:m=0
 ·have e0:decide ((m:Int)=0)=true:=decide_eq_true (by omega)
  (repeat show _∧_;first|refine yr ?_|refine yt ?_|refine yf ?_|refine yt ?_ (by first|decide|(rw[e0];decide))|refine yf ?_ (by first|decide|(rw[e0];decide))|refine yo ?_)
  exact ⟨.a (.c (.int .i64 0)),_,⟨[0],⟨rfl,rfl,rfl⟩,by (repeat first|exact trivial|refine ent1 ?_)⟩,rfl,rfl⟩
 have e0:decide ((m:Int)=0)=false:=decide_eq_false (by omega)
 (repeat show _∧_;first|refine yr ?_|refine yt ?_|refine yf ?_|refine yt ?_ (by first|decide|(rw[e0];decide))|refine yf ?_ (by first|decide|(rw[e0];decide))|refine yo ?_)
 refine And.intro trivial ?_
 (repeat show _∧_;first|refine yr ?_|refine yt ?_|refine yf ?_|refine yo ?_)
 refine .inl ⟨Nat,fun j=>⟨[.a (.c (.slc a m c)),.any,.a (.c (.int .i64 (0))),.a (.c (.mh 1)),.any,.any,.any,.any,.any,.any,.any,.any,.any,.any,.a (.c (.slc a m c)),.a (.c (.int .i64 (m))),.a (.c (.int .i64 (((j:Nat):Int)))),.any,.any,.any,.any,.any,.any,.any,.any,.any,.any,.any,.any,.any,.any,.any,.any,.any],[[.past W ms],hadC (ns.take j)]⟩,
  fun j=>j≤ns.length,fun j=>ns.length-j,⟨0,[0,1],⟨⟨rfl,rfl,rfl⟩,by (repeat first|exact trivial|refine ent1 ?_)⟩,Nat.zero_le _⟩,fun j hj0=>?_⟩
 by_cases hj:j<ns.length
 rotate_left
 ·have e1:decide ((j:Int)<(m:Int))=false:=decide_eq_false (by omega)
  (repeat show _∧_;first|refine yr ?_|refine yt ?_|refine yf ?_|refine yt ?_ (by first|decide|(rw[e1];decide))|refine yf ?_ (by first|decide|(rw[e1];decide))|refine yo ?_)
  exact ⟨.a (.c (.int .i64 0)),_,⟨[0],⟨rfl,rfl,rfl⟩,by (repeat first|exact trivial|refine ent1 ?_)⟩,rfl,rfl⟩
 have e1:decide ((j:Int)<(m:Int))=true:=decide_eq_true (by omega)
 obtain ⟨A,rfl⟩:∃ A,a=some A:=by
  cases a with
  | none=>exact absurd (h.nil rfl) (by have:=h.le; omega)
  | some A=>exact ⟨A,rfl⟩
 have him:=(h.im A rfl (by have:=h.le; omega)).one (show ((ns.map U8).map SC.str)[j]?=some (.str (U8 ns[j])) by simp [hj])
 (repeat show _∧_;first|refine yr ?_|refine yt ?_|refine yf ?_|refine yt ?_ (by first|decide|(rw[e1];decide))|refine yf ?_ (by first|decide|(rw[e1];decide))|refine yo ?_)
 refine ⟨[.one (.str (U8 ns[j]))],⟨.past (i:=0) rfl (by show ImAt W ms (A.add (j*1)) _; rw [Nat.mul_one]; exact him),rfl⟩,?_⟩
 (repeat show _∧_;first|refine yr ?_|refine yt ?_|refine yf ?_|refine yo ?_)
 refine call_same (fn_valid hT (hu _ (List.getElem_mem hj)) (hl _ (List.getElem_mem hj))) [0] rfl (by exact And.intro rfl trivial) (by (repeat first|exact trivial|refine ent1 ?_)) (fun _ _=>trivial) ?_
 rintro y hs ⟨rfl,rfl⟩
 have hni:ns[j] ∉ ns.take j:=by
  intro hc
  obtain ⟨i,hi,he⟩:=List.mem_iff_getElem.1 hc
  rw [List.length_take] at hi
  rw [List.getElem_take] at he
  exact List.pairwise_iff_getElem.1 hnd i j (by omega) hj (by omega) he
 have hh:=hasS_U8 ns[j] (ns.take j)
 rw [decide_eq_false hni] at hh
 have hput:putL' (U8 ns[j]) ((ns.take j).map U8)=(ns.take (j+1)).map U8:=by
  unfold putL'; rw [hh,List.take_add_one,List.getElem?_eq_getElem hj,Option.toList_some,List.map_append]; rfl
 (repeat show _∧_;first|refine yr ?_|refine yt ?_|refine yf ?_|refine yt ?_ (by first|decide|(rw[hh];decide))|refine yf ?_ (by first|decide|(rw[hh];decide))|refine yo ?_)
 rw [hput]
 refine ⟨j+1,[0,1],⟨⟨rfl,rfl,rfl⟩,?_⟩,hj,by dsimp only; omega⟩
 (repeat first|exact trivial|refine ent1 ?_)
def ChkC (d depth:Nat):Prop:=∀ (W:World) (ms:List Nat) (v:JT) (x:JC),Tabs W ms→TAt W ms d v x→norm d v→(put d v).length≤70368744177664 →
 FnR Tryd.prog tds 46 1 [[.past W ms],[.one (.slc none 0 0)]] [.c (.p 1 0 0),.agg (jvS v x),.c (.int .i64 (depth:Int))] (fun _=>True) (fun y hs=>y=.a (.c (.int .i64 0))∧hs=[[.past W ms],[.one (.slc none 0 0)]])
theorem fn_nests (k:BitVec 8):Fn Tryd.prog tds 64 [] [.c (.w8 k)] (fun _=>True) (fun y hs=>y=.a (.c (.bool (decide (k=5#8∨k=6#8))))∧hs=[]):=by
 refine fn_of_body tds_ok follows_ Tryd.func64 rfl (t:=.a (.c (.w8 k))::anys (Tryd.f64.ntmps-1)) rfl (fun w r0 hr0 _=>?_)
 obtain rfl:r0=[]:=List.eq_nil_of_length_eq_zero hr0
 by_cases h5:k=5#8
 ·have e5:decide (k=5#8)=true:=decide_eq_true h5
  rw [decide_eq_true (Or.inl h5)]
  (repeat show _∧_;first|refine yr ?_|refine yt ?_|refine yf ?_|refine yt ?_ (by first|decide|(rw[e5];decide))|refine yf ?_ (by first|decide|(rw[e5];decide))|refine yo ?_)
  exact ⟨.a (.c (.bool true)),_,⟨[],⟨rfl,rfl,rfl⟩,by (repeat first|exact trivial|refine ent1 ?_)⟩,rfl,rfl⟩
 have e5:decide (k=5#8)=false:=decide_eq_false h5
 have e6:decide (k=5#8∨k=6#8)=decide (k=6#8):=decide_eq_decide.2 ⟨fun h=>h.resolve_left h5,.inr⟩
 rw [e6]
 (repeat show _∧_;first|refine yr ?_|refine yt ?_|refine yf ?_|refine yt ?_ (by first|decide|(rw[e5];decide))|refine yf ?_ (by first|decide|(rw[e5];decide))|refine yo ?_)
 exact ⟨.a (.c (.bool (decide (k=6#8)))),_,⟨[],⟨rfl,rfl,rfl⟩,by (repeat first|exact trivial|refine ent1 ?_)⟩,rfl,rfl⟩
set_option maxRecDepth 20000 in
set_option maxHeartbeats 16000000 in
theorem fn_chk1 (d depth:Nat) (hdd:depth+d≤8) (hrec:∀ d',d=d'+1→ChkC d' (depth+1)):ChkC d depth:=by
 intro W ms v x hT hx hn hl
 refine fn_of_body tds_ok follows_ Tryd.func46 rfl (t:=.a (.c (.p 1 0 0))::.a (.agg (jvS v x))::.a (.c (.int .i64 (depth:Int)))::anys (Tryd.f46.ntmps-3)) rfl (fun w r0 hr0 _=>?_)
 obtain ⟨x0,x1,rfl⟩:=len2' hr0
 have hk6:v.k.toNat≤6:=by
  cases d with
  | zero=>have:=hn.2.2.2.2.1; omega
  | succ d =>
   rcases hn with hlf|⟨_,_,_,h5|h6⟩
   ·have:=hlf.2.2.2.2.1; omega
   ·rw [h5.1]; decide
   ·rw [h6.1]; decide
 have hU:Utf v.s:=by
  cases d with
  | zero=>exact hn.2.2.2.2.2
  | succ d =>
   rcases hn with hlf|⟨_,h2,_⟩
   ·exact hlf.2.2.2.2.2
   ·rw [h2]; exact ⟨[],by simp,rfl⟩
 have f0:decide (6#8<v.k)=false:=decide_eq_false (by rw [BitVec.lt_def]; show ¬ 6<v.k.toNat; omega)
 have hsl:v.s.length≤9223372036854775807:=by
  have h1:v.k=4#8∨v.s=[]:=by
   cases d with
   | zero=>exact hn.2.2.2.1
   | succ d =>
    rcases hn with hlf|⟨_,h2,_⟩
    ·exact hlf.2.2.2.1
    ·exact .inr h2
  rcases h1 with h1|h1
  ·have h2:put d v=quote v.s:=by cases d <;> (unfold put put1; rw [if_neg (by rw [h1]; decide),if_neg (by rw [h1]; decide),if_neg (by rw [h1]; decide),if_neg (by rw [h1]; decide),if_pos h1])
   have h3:=quote_len hU
   rw [h2] at hl; omega
  ·rw [h1]; exact Nat.zero_le _
 have hxl:=hx.len
 have hxn:=hx.ns
 by_cases kn:v.k=5#8∨v.k=6#8
 rotate_left
 ·have en:decide (v.k=5#8∨v.k=6#8)=false:=decide_eq_false kn
  have e6:decide (v.k=6#8)=false:=decide_eq_false fun h=>kn (.inr h)
  have hlf:leaf v:=by
   cases d with
   | zero=>exact hn
   | succ d =>
    rcases hn with hlf|⟨_,_,_,h5|h6⟩
    ·exact hlf
    ·exact absurd (.inl h5.1) kn
    ·exact absurd (.inr h6.1) kn
  have em:decide ((x.m:Int)=0)=true:=decide_eq_true (by rw [hlf.1] at hxl; simp at hxl; omega)
  (repeat show _∧_;first|refine yr ?_|refine yt ?_|refine yf ?_|refine yt ?_ (by first|decide|(rw[f0];decide))|refine yf ?_ (by first|decide|(rw[f0];decide))|refine yo ?_)
  refine call_same (fn_nests v.k) [] rfl (by exact And.intro rfl trivial) trivial (fun _ _=>trivial) ?_
  rintro y hs ⟨rfl,rfl⟩
  (repeat show _∧_;first|refine yr ?_|refine yt ?_|refine yf ?_|refine yt ?_ (by first|decide|(rw[en];decide))|refine yf ?_ (by first|decide|(rw[en];decide))|refine yo ?_)
  refine call_same (fn_valid hT hU hsl) [0] rfl (by exact And.intro rfl trivial) (by (repeat first|exact trivial|refine ent1 ?_)) (fun _ _=>trivial) ?_
  rintro y hs ⟨rfl,rfl⟩
  (repeat show _∧_;first|refine yr ?_|refine yt ?_|refine yf ?_|refine yt ?_ (by first|decide|(rw[e6];decide))|refine yf ?_ (by first|decide|(rw[e6];decide))|refine yo ?_)
  refine call_same (fn_jnames hT hxn (by rw [hlf.2.1]; simp) (by rw [hlf.2.1]; simp) (by rw [hlf.2.1]; simp)) [0] rfl (by exact And.intro rfl trivial) (by (repeat first|exact trivial|refine ent1 ?_)) (fun _ _=>trivial) ?_
  rintro y hs ⟨rfl,rfl⟩
  (repeat show _∧_;first|refine yr ?_|refine yt ?_|refine yf ?_|refine yt ?_ (by first|decide|(rw[em];decide))|refine yf ?_ (by first|decide|(rw[em];decide))|refine yo ?_)
  exact ⟨.a (.c (.int .i64 0)),_,⟨[0,1],⟨rfl,rfl,rfl⟩,by (repeat first|exact trivial|refine ent1 ?_)⟩,rfl,rfl⟩
 have en:decide (v.k=5#8∨v.k=6#8)=true:=decide_eq_true kn
 obtain ⟨d',rfl,hv3,hk⟩:∃ d',d=d'+1∧(∀ x∈v.l,norm d' x)∧((v.k=5#8∧v.ns=[])∨(v.k=6#8∧v.ns.length=v.l.length∧v.ns.Nodup∧∀ s∈v.ns,Utf s)):=by
  have hno:¬ leaf v:=fun hlf=>by
   have:=hlf.2.2.2.2.1
   rcases kn with h|h <;> rw [h] at this <;> exact absurd this (by decide)
  cases d with
  | zero=>exact absurd hn hno
  | succ d=>exact ⟨d,rfl,(hn.resolve_left hno).2.2⟩
 have hput:(∀ x∈v.l,(put d' x).length≤70368744177664)∧∀ s∈v.ns,s.length≤9223372036854775807:=by
  rcases hk with ⟨h5,h6⟩|⟨h6,hnl,_,hu⟩
  ·have h2:put (d'+1) v=91#8::(putL (put d') v.l++[93#8])  :=by show put1 _ _ v=_; unfold put1; rw [if_neg (by rw [h5]; decide),if_neg (by rw [h5]; decide),if_neg (by rw [h5]; decide),if_neg (by rw [h5]; decide),if_neg (by rw [h5]; decide),if_pos h5]
   rw [h2] at hl
   simp only [List.length_cons,List.length_append,List.length_nil] at hl
   exact ⟨fun x hx=>by have:=Js.putL_mem (put d') v.l x hx; omega,by rw [h6]; simp⟩
  ·have h2:put (d'+1) v=123#8::(putO (put d') v.ns v.l++[125#8])  :=by show put1 _ _ v=_; unfold put1; rw [if_neg (by rw [h6]; decide),if_neg (by rw [h6]; decide),if_neg (by rw [h6]; decide),if_neg (by rw [h6]; decide),if_neg (by rw [h6]; decide),if_neg (by rw [h6]; decide)]
   rw [h2] at hl
   simp only [List.length_cons,List.length_append,List.length_nil] at hl
   obtain ⟨q1,q2⟩:=putO_mem (put d') v.ns v.l hnl
   exact ⟨fun x hx=>by have:=q1 x hx; omega,fun s hs=>by have:=q2 s hs; have:=quote_len (hu s hs); omega⟩
 obtain ⟨hput,hnlen⟩:=hput
 have hnu:∀ s∈v.ns,Utf s:=by
  rcases hk with ⟨_,h6⟩|⟨_,_,_,hu⟩
  ·rw [h6]; simp
  ·exact hu
 have hnd:v.ns.Nodup:=by
  rcases hk with ⟨_,h6⟩|⟨_,_,hd,_⟩
  ·rw [h6]; simp
  ·exact hd
 have e8:decide ((8:Int)≤(depth:Int))=false:=decide_eq_false (by omega)
 obtain ⟨⟨g1,g2,g3,g4,g5⟩,hns⟩:=hx
 obtain ⟨xa,xm,xc,xb,xp,xq⟩:=x
 dsimp only at g1 g2 g3 g4 g5 hns
 have e6:(decide (v.k=6#8)=true∧decide ((xp:Int)≠(xm:Int))=false)∨decide (v.k=6#8)=false:=by
  rcases hk with ⟨h5,_⟩|⟨h6,hnl,_⟩
  ·exact .inr (decide_eq_false (by rw [h5]; decide))
  ·refine .inl ⟨decide_eq_true h6,decide_eq_false (not_not_intro ?_)⟩
   have h1:=hns.len
   simp only [List.length_map] at h1
   omega
 (repeat show _∧_;first|refine yr ?_|refine yt ?_|refine yf ?_|refine yt ?_ (by first|decide|(rw[f0];decide))|refine yf ?_ (by first|decide|(rw[f0];decide))|refine yo ?_)
 refine call_same (fn_nests v.k) [] rfl (by exact And.intro rfl trivial) trivial (fun _ _=>trivial) ?_
 rintro y hs ⟨rfl,rfl⟩
 (repeat show _∧_;first|refine yr ?_|refine yt ?_|refine yf ?_|refine yt ?_ (by first|decide|(rw[en];decide)|(rw[e8];decide))|refine yf ?_ (by first|decide|(rw[en];decide)|(rw[e8];decide))|refine yo ?_)
 refine call_same (fn_valid hT hU hsl) [0] rfl (by exact And.intro rfl trivial) (by (repeat first|exact trivial|refine ent1 ?_)) (fun _ _=>trivial) ?_
 rintro y hs ⟨rfl,rfl⟩
 rcases e6 with ⟨e6,e7⟩|e6
 ·(repeat show _∧_;first|refine yr ?_|refine yt ?_|refine yf ?_|refine yt ?_ (by first|decide|(rw[e6];decide)|(rw[e7];decide))|refine yf ?_ (by first|decide|(rw[e6];decide)|(rw[e7];decide))|refine yo ?_)
  refine call_same (fn_jnames hT hns hnu hnd hnlen) [0] rfl (by exact And.intro rfl trivial) (by (repeat first|exact trivial|refine ent1 ?_)) (fun _ _=>trivial) ?_
  rintro y hs ⟨rfl,rfl⟩
  by_cases hm0:xm=0
  ·have em:decide ((xm:Int)=0)=true:=decide_eq_true (by omega)
   (repeat show _∧_;first|refine yr ?_|refine yt ?_|refine yf ?_|refine yt ?_ (by first|decide|(rw[em];decide))|refine yf ?_ (by first|decide|(rw[em];decide))|refine yo ?_)
   exact ⟨.a (.c (.int .i64 0)),_,⟨[0,1],⟨rfl,rfl,rfl⟩,by (repeat first|exact trivial|refine ent1 ?_)⟩,rfl,rfl⟩
  have em:decide ((xm:Int)=0)=false:=decide_eq_false (by omega)
  (repeat show _∧_;first|refine yr ?_|refine yt ?_|refine yf ?_|refine yt ?_ (by first|decide|(rw[em];decide))|refine yf ?_ (by first|decide|(rw[em];decide))|refine yo ?_)
  refine call_same (fn_nests v.k) [] rfl (by exact And.intro rfl trivial) trivial (fun _ _=>trivial) ?_
  rintro y hs ⟨rfl,rfl⟩
  (repeat show _∧_;first|refine yr ?_|refine yt ?_|refine yf ?_|refine yt ?_ (by first|decide|(rw[en];decide))|refine yf ?_ (by first|decide|(rw[en];decide))|refine yo ?_)
  refine .inl ⟨Nat,fun j=>⟨[.a (.c (.p 1 0 0)),.any,.a (.c (.int .i64 ((((depth+1:Nat)):Int)))),.any,.any,.any,.a (.c (.int .i64 (0))),.any,.any,.any,.any,.any,.any,.any,.any,.any,.any,.any,.any,.any,.any,.any,.any,.any,.any,.any,.any,.any,.any,.any,.any,.any,.any,.any,.any,.any,.any,.any,.any,.any,.any,.any,.any,.any,.any,.any,.any,.any,.any,.any,.any,.any,.any,.any,.any,.any,.any,.any,.any,.any,.any,.any,.any,.any,.any,.any,.any,.any,.any,.any,.any,.any,.any,.any,.any,.any,.any,.any,.any,.any,.any,.any,.a (.c (.slc xa xm xc)),.a (.c (.int .i64 (xm))),.a (.c (.int .i64 (((j:Nat):Int)))),.any,.any,.any,.any,.any,.any,.any,.any,.any,.any,.any],[[.past W ms],[.one (.slc none 0 0)]]⟩,
   fun j=>j≤v.l.length,fun j=>v.l.length-j,⟨0,[0,1],⟨⟨rfl,rfl,rfl⟩,?_⟩,Nat.zero_le _⟩,fun j hj0=>?_⟩
  ·(repeat first|exact trivial|refine ent1 ?_)
  by_cases hj:j<v.l.length
  rotate_left
  ·have e1:decide ((j:Int)<(xm:Int))=false:=decide_eq_false (by omega)
   (repeat show _∧_;first|refine yr ?_|refine yt ?_|refine yf ?_|refine yt ?_ (by first|decide|(rw[e1];decide))|refine yf ?_ (by first|decide|(rw[e1];decide))|refine yo ?_)
   exact ⟨.a (.c (.int .i64 0)),_,⟨[0,1],⟨rfl,rfl,rfl⟩,by (repeat first|exact trivial|refine ent1 ?_)⟩,rfl,rfl⟩
  have e1:decide ((j:Int)<(xm:Int))=true:=decide_eq_true (by omega)
  obtain ⟨A,rfl⟩:∃ A,xa=some A:=by
   cases xa with
   | none=>exact absurd (g4 rfl) (by omega)
   | some A=>exact ⟨A,rfl⟩
  obtain ⟨y,y1,y2⟩:=(g5 A rfl (by omega)).2 j v.l[j] (List.getElem?_eq_getElem hj)
  (repeat show _∧_;first|refine yr ?_|refine yt ?_|refine yf ?_|refine yt ?_ (by first|decide|(rw[e1];decide))|refine yf ?_ (by first|decide|(rw[e1];decide))|refine yo ?_)
  refine ⟨jvS v.l[j] y,⟨.past (i:=0) rfl (by exact y1),rfl⟩,?_⟩
  (repeat show _∧_;first|refine yr ?_|refine yt ?_|refine yf ?_|refine yo ?_)
  refine call_same (hrec d' rfl W ms v.l[j] y hT y2 (hv3 _ (List.getElem_mem hj)) (hput _ (List.getElem_mem hj))) [0,1] rfl (by (repeat first|exact trivial|refine ent1 ?_)) (by (repeat first|exact trivial|refine ent1 ?_)) (fun _ _=>trivial) ?_
  rintro y' hs ⟨rfl,rfl⟩
  (repeat show _∧_;first|refine yr ?_|refine yt ?_|refine yf ?_|refine yo ?_)
  refine ⟨j+1,[0,1],⟨⟨rfl,rfl,rfl⟩,?_⟩,hj,by dsimp only; omega⟩
  (repeat first|exact trivial|refine ent1 ?_)
 ·(repeat show _∧_;first|refine yr ?_|refine yt ?_|refine yf ?_|refine yt ?_ (by first|decide|(rw[e6];decide))|refine yf ?_ (by first|decide|(rw[e6];decide))|refine yo ?_)
  refine call_same (fn_jnames hT hns hnu hnd hnlen) [0] rfl (by exact And.intro rfl trivial) (by (repeat first|exact trivial|refine ent1 ?_)) (fun _ _=>trivial) ?_
  rintro y hs ⟨rfl,rfl⟩
  by_cases hm0:xm=0
  ·have em:decide ((xm:Int)=0)=true:=decide_eq_true (by omega)
   (repeat show _∧_;first|refine yr ?_|refine yt ?_|refine yf ?_|refine yt ?_ (by first|decide|(rw[em];decide))|refine yf ?_ (by first|decide|(rw[em];decide))|refine yo ?_)
   exact ⟨.a (.c (.int .i64 0)),_,⟨[0,1],⟨rfl,rfl,rfl⟩,by (repeat first|exact trivial|refine ent1 ?_)⟩,rfl,rfl⟩
  have em:decide ((xm:Int)=0)=false:=decide_eq_false (by omega)
  (repeat show _∧_;first|refine yr ?_|refine yt ?_|refine yf ?_|refine yt ?_ (by first|decide|(rw[em];decide))|refine yf ?_ (by first|decide|(rw[em];decide))|refine yo ?_)
  refine call_same (fn_nests v.k) [] rfl (by exact And.intro rfl trivial) trivial (fun _ _=>trivial) ?_
  rintro y hs ⟨rfl,rfl⟩
  (repeat show _∧_;first|refine yr ?_|refine yt ?_|refine yf ?_|refine yt ?_ (by first|decide|(rw[en];decide))|refine yf ?_ (by first|decide|(rw[en];decide))|refine yo ?_)
  refine .inl ⟨Nat,fun j=>⟨[.a (.c (.p 1 0 0)),.any,.a (.c (.int .i64 ((((depth+1:Nat)):Int)))),.any,.any,.any,.a (.c (.int .i64 (0))),.any,.any,.any,.any,.any,.any,.any,.any,.any,.any,.any,.any,.any,.any,.any,.any,.any,.any,.any,.any,.any,.any,.any,.any,.any,.any,.any,.any,.any,.any,.any,.any,.any,.any,.any,.any,.any,.any,.any,.any,.any,.any,.any,.any,.any,.any,.any,.any,.any,.any,.any,.any,.any,.any,.any,.any,.any,.any,.any,.any,.any,.any,.any,.any,.any,.any,.any,.any,.any,.any,.any,.any,.any,.any,.any,.a (.c (.slc xa xm xc)),.a (.c (.int .i64 (xm))),.a (.c (.int .i64 (((j:Nat):Int)))),.any,.any,.any,.any,.any,.any,.any,.any,.any,.any,.any],[[.past W ms],[.one (.slc none 0 0)]]⟩,
   fun j=>j≤v.l.length,fun j=>v.l.length-j,⟨0,[0,1],⟨⟨rfl,rfl,rfl⟩,?_⟩,Nat.zero_le _⟩,fun j hj0=>?_⟩
  ·(repeat first|exact trivial|refine ent1 ?_)
  by_cases hj:j<v.l.length
  rotate_left
  ·have e1:decide ((j:Int)<(xm:Int))=false:=decide_eq_false (by omega)
   (repeat show _∧_;first|refine yr ?_|refine yt ?_|refine yf ?_|refine yt ?_ (by first|decide|(rw[e1];decide))|refine yf ?_ (by first|decide|(rw[e1];decide))|refine yo ?_)
   exact ⟨.a (.c (.int .i64 0)),_,⟨[0,1],⟨rfl,rfl,rfl⟩,by (repeat first|exact trivial|refine ent1 ?_)⟩,rfl,rfl⟩
  have e1:decide ((j:Int)<(xm:Int))=true:=decide_eq_true (by omega)
  obtain ⟨A,rfl⟩:∃ A,xa=some A:=by
   cases xa with
   | none=>exact absurd (g4 rfl) (by omega)
   | some A=>exact ⟨A,rfl⟩
  obtain ⟨y,y1,y2⟩:=(g5 A rfl (by omega)).2 j v.l[j] (List.getElem?_eq_getElem hj)
  (repeat show _∧_;first|refine yr ?_|refine yt ?_|refine yf ?_|refine yt ?_ (by first|decide|(rw[e1];decide))|refine yf ?_ (by first|decide|(rw[e1];decide))|refine yo ?_)
  refine ⟨jvS v.l[j] y,⟨.past (i:=0) rfl (by exact y1),rfl⟩,?_⟩
  (repeat show _∧_;first|refine yr ?_|refine yt ?_|refine yf ?_|refine yo ?_)
  refine call_same (hrec d' rfl W ms v.l[j] y hT y2 (hv3 _ (List.getElem_mem hj)) (hput _ (List.getElem_mem hj))) [0,1] rfl (by (repeat first|exact trivial|refine ent1 ?_)) (by (repeat first|exact trivial|refine ent1 ?_)) (fun _ _=>trivial) ?_
  rintro y' hs ⟨rfl,rfl⟩
  (repeat show _∧_;first|refine yr ?_|refine yt ?_|refine yf ?_|refine yo ?_)
  refine ⟨j+1,[0,1],⟨⟨rfl,rfl,rfl⟩,?_⟩,hj,by dsimp only; omega⟩
  (repeat first|exact trivial|refine ent1 ?_)
end Sx
end
section
namespace Sx
open Go.RowKit Sha Vi Js

theorem fn_chk:∀ (d depth:Nat),depth+d≤8→ChkC d depth
 | 0,depth,h=>fn_chk1 0 depth h (fun d' e=>by cases e)
 | d+1,depth,h=>fn_chk1 (d+1) depth h (fun d' e=>by
  injection e with e
  subst e
  exact fn_chk d (depth+1) (by omega))
set_option maxRecDepth 20000 in
theorem fn_check {d:Nat} (hd:d≤8) {W:World} {ms:List Nat} {v:JT} {x:JC} (hT:Tabs W ms) (hx:TAt W ms d v x) (hn:norm d v) (hl:(put d v).length≤70368744177664) :
  FnR Tryd.prog tds 20 1 [[.past W ms]] [.agg (jvS v x)] (fun _=>True) (fun y hs=>y=.a (.c (.int .i64 0))∧hs=[[.past W ms]]):=by
 refine fn_of_body tds_ok follows_ Tryd.func20 rfl (t:=.a (.agg (jvS v x))::anys (Tryd.f20.ntmps-1)) rfl (fun w r0 hr0 _=>?_)
 obtain ⟨x0,rfl⟩:=len1' hr0
 (repeat show _∧_;first|refine yr ?_|refine yt ?_|refine yf ?_|refine yo ?_)
 refine call_same (fn_chk d 0 (by omega) W ms v x hT hx hn hl) [0,2] rfl (by (repeat first|exact trivial|refine ent1 ?_)) (by (repeat first|exact trivial|refine ent1 ?_)) (fun _ _=>trivial) ?_
 rintro y hs ⟨rfl,rfl⟩
 exact ⟨.a (.c (.int .i64 0)),_,⟨[0],⟨rfl,rfl,rfl⟩,by (repeat first|exact trivial|refine ent1 ?_)⟩,rfl,rfl⟩
set_option maxRecDepth 20000 in
theorem fn_print {d:Nat} (hd:d≤8) {W:World} {ms:List Nat} {v:JT} {x:JC} (hT:Tabs W ms) (hx:TAt W ms d v x) (hn:norm d v) (hl:(put d v).length≤70368744177664) :
  FnR Tryd.prog tds 19 1 [[.past W ms]] [.agg (jvS v x)] (fun _=>True) (fun y hs=>y=.tup [.c (.str (U8 (put d v))),.c (.int .i64 0)]∧hs=[[.past W ms]]):=by
 refine fn_of_body tds_ok follows_ Tryd.func19 rfl (t:=.a (.agg (jvS v x))::anys (Tryd.f19.ntmps-1)) rfl (fun w r0 hr0 _=>?_)
 obtain ⟨x0,rfl⟩:=len1' hr0
 (repeat show _∧_;first|refine yr ?_|refine yt ?_|refine yf ?_|refine yo ?_)
 refine call_same (fn_check hd hT hx hn hl) [0] rfl (by (repeat first|exact trivial|refine ent1 ?_)) (by (repeat first|exact trivial|refine ent1 ?_)) (fun _ _=>trivial) ?_
 rintro y hs ⟨rfl,rfl⟩
 (repeat show _∧_;first|refine yr ?_|refine yt ?_|refine yf ?_|refine yo ?_)
 refine call_same (fn_putN d hT hx hn hl) [0] rfl (by (repeat first|exact trivial|refine ent1 ?_)) (by (repeat first|exact trivial|refine ent1 ?_)) (fun _ _=>trivial) ?_
 rintro y hs ⟨c',hc',rfl,rfl⟩
 (repeat show _∧_;first|refine yr ?_|refine yt ?_|refine yf ?_|refine yo ?_)
 refine And.intro (by simp only [scale]; omega) ?_
 refine ⟨U8 (put d v),⟨U8_len _,fun q hq=>by show SC.mp _ (bytesF (put d v).length (L (put d v)) (q+0))=_; rw [Nat.add_zero,bytesF_lt hq,U8_get _ q hq]; rfl⟩,?_⟩
 exact ⟨.tup [.c (.str (U8 (put d v))),.c (.int .i64 0)],_,⟨[0],⟨rfl,rfl,rfl⟩,by (repeat first|exact trivial|refine ent1 ?_)⟩,rfl,rfl⟩
end Sx
end
section
namespace Sx
open Go.RowKit Sha Vi Js

theorem StAt.elt {W:World} {ms:List Nat} {a:Option Addr} {m c:Nat} {ns:List Bs} (h:StAt W ms a m c (ns.map U8)) {j:Nat} (hj:j<ns.length):∃ A,a=some A∧ImAt W ms (A.add (j*1)) [.str (U8 ns[j])]:=by
 have h1:=h.len
 simp only [List.length_map] at h1
 have h2:=h.le
 cases a with
 | none=>exact absurd (h.nil rfl) (by omega)
 | some A=>exact ⟨A,rfl,by rw [Nat.mul_one]; exact (h.im A rfl (by omega)).one (by simp [hj])⟩
end Sx
end
section
namespace Sx
open Go.RowKit Sha Vi Js Ev Qj

theorem fn_qnum (n:BitVec 64):Fn Tryd.prog tds 32 [] [.c (.w64 n)] (fun _=>True) (fun y hs=>y=.a (.agg (jvS (tNum n) jc0))∧hs=[]):=by
 refine fn_of_body tds_ok follows_ Tryd.func32 rfl (t:=.a (.c (.w64 n))::anys (Tryd.f32.ntmps-1)) rfl (fun w r0 hr0 _=>?_)
 obtain rfl:r0=[]:=List.eq_nil_of_length_eq_zero hr0
 (repeat show _∧_;first|refine yr ?_|refine yt ?_|refine yf ?_|refine yo ?_)
 exact ⟨.a (.agg (jvS (tNum n) jc0)),_,⟨[],⟨rfl,rfl,rfl⟩,by (repeat first|exact trivial|refine ent1 ?_)⟩,rfl,rfl⟩
theorem fn_qtext (s:Bs):Fn Tryd.prog tds 34 [] [.c (.str (U8 s))] (fun _=>True) (fun y hs=>y=.a (.agg (jvS (tText s) jc0))∧hs=[]):=by
 refine fn_of_body tds_ok follows_ Tryd.func34 rfl (t:=.a (.c (.str (U8 s)))::anys (Tryd.f34.ntmps-1)) rfl (fun w r0 hr0 _=>?_)
 obtain rfl:r0=[]:=List.eq_nil_of_length_eq_zero hr0
 (repeat show _∧_;first|refine yr ?_|refine yt ?_|refine yf ?_|refine yo ?_)
 exact ⟨.a (.agg (jvS (tText s) jc0)),_,⟨[],⟨rfl,rfl,rfl⟩,by (repeat first|exact trivial|refine ent1 ?_)⟩,rfl,rfl⟩
set_option maxRecDepth 20000 in
theorem fn_qdigit (c:BitVec 8):Fn Tryd.prog tds 68 [] [.c (.w8 c)] (fun _=>True) (fun y hs=>y=.tup [.c (.w8 ((dig1 c).getD 0#8)),.c (.bool (dig1 c).isSome)]∧hs=[]):=by
 refine fn_of_body tds_ok follows_ Tryd.func68 rfl (t:=.a (.c (.w8 c))::anys (Tryd.f68.ntmps-1)) rfl (fun w r0 hr0 _=>?_)
 obtain rfl:r0=[]:=List.eq_nil_of_length_eq_zero hr0
 by_cases h1:48≤c.toNat∧c.toNat≤57
 ·have e1:decide (48#8≤c)=true:=decide_eq_true h1.1
  have e2:decide (c≤57#8)=true:=decide_eq_true h1.2
  have hd:dig1 c=some (c-48#8):=by unfold dig1; rw [if_pos h1]
  rw [hd]
  (repeat show _∧_;first|refine yr ?_|refine yt ?_|refine yf ?_|refine yt ?_ (by first|decide|(rw[e1];decide)|(rw[e2];decide))|refine yf ?_ (by first|decide|(rw[e1];decide)|(rw[e2];decide))|refine yo ?_)
  exact ⟨.tup [.c (.w8 (c-48#8)),.c (.bool true)],_,⟨[],⟨rfl,rfl,rfl⟩,by (repeat first|exact trivial|refine ent1 ?_)⟩,rfl,rfl⟩
 have hF:∀ {P:Prop},((decide (48#8≤c)=true∧decide (c≤57#8)=false)∨decide (48#8≤c)=false→P)→P:=fun k=>k (by
  by_cases h:48#8≤c
  ·exact .inl ⟨decide_eq_true h,decide_eq_false fun h2=>h1 ⟨h,h2⟩⟩
  ·exact .inr (decide_eq_false h))
 by_cases h2:97≤c.toNat∧c.toNat≤102
 ·have f1:decide (97#8≤c)=true:=decide_eq_true h2.1
  have f2:decide (c≤102#8)=true:=decide_eq_true h2.2
  have hd:dig1 c=some (c-97#8+10#8):=by unfold dig1; rw [if_neg h1,if_pos h2]
  have e1:decide (48#8≤c)=true:=decide_eq_true (show 48≤c.toNat by omega)
  have e2:decide (c≤57#8)=false:=decide_eq_false (show ¬ c.toNat≤57 by omega)
  rw [hd]
  (repeat show _∧_;first|refine yr ?_|refine yt ?_|refine yf ?_|refine yt ?_ (by first|decide|(rw[e1];decide)|(rw[e2];decide)|(rw[f1];decide)|(rw[f2];decide))|refine yf ?_ (by first|decide|(rw[e1];decide)|(rw[e2];decide)|(rw[f1];decide)|(rw[f2];decide))|refine yo ?_)
  exact ⟨.tup [.c (.w8 (c-97#8+10#8)),.c (.bool true)],_,⟨[],⟨rfl,rfl,rfl⟩,by (repeat first|exact trivial|refine ent1 ?_)⟩,rfl,rfl⟩
 have hd:dig1 c=none:=by unfold dig1; rw [if_neg h1,if_neg h2]
 rw [hd]
 have hG:(decide (97#8≤c)=true∧decide (c≤102#8)=false)∨decide (97#8≤c)=false:=by
  by_cases h:97#8≤c
  ·exact .inl ⟨decide_eq_true h,decide_eq_false fun h3=>h2 ⟨h,h3⟩⟩
  ·exact .inr (decide_eq_false h)
 apply hF
 rintro (⟨e1,e2⟩|e1)
 ·rcases hG with ⟨f1,f2⟩|f1
  ·(repeat show _∧_;first|refine yr ?_|refine yt ?_|refine yf ?_|refine yt ?_ (by first|decide|(rw[e1];decide)|(rw[e2];decide)|(rw[f1];decide)|(rw[f2];decide))|refine yf ?_ (by first|decide|(rw[e1];decide)|(rw[e2];decide)|(rw[f1];decide)|(rw[f2];decide))|refine yo ?_)
   exact ⟨.tup [.c (.w8 0#8),.c (.bool false)],_,⟨[],⟨rfl,rfl,rfl⟩,by (repeat first|exact trivial|refine ent1 ?_)⟩,rfl,rfl⟩
  ·(repeat show _∧_;first|refine yr ?_|refine yt ?_|refine yf ?_|refine yt ?_ (by first|decide|(rw[e1];decide)|(rw[e2];decide)|(rw[f1];decide))|refine yf ?_ (by first|decide|(rw[e1];decide)|(rw[e2];decide)|(rw[f1];decide))|refine yo ?_)
   exact ⟨.tup [.c (.w8 0#8),.c (.bool false)],_,⟨[],⟨rfl,rfl,rfl⟩,by (repeat first|exact trivial|refine ent1 ?_)⟩,rfl,rfl⟩
 ·rcases hG with ⟨f1,f2⟩|f1
  ·(repeat show _∧_;first|refine yr ?_|refine yt ?_|refine yf ?_|refine yt ?_ (by first|decide|(rw[e1];decide)|(rw[f1];decide)|(rw[f2];decide))|refine yf ?_ (by first|decide|(rw[e1];decide)|(rw[f1];decide)|(rw[f2];decide))|refine yo ?_)
   exact ⟨.tup [.c (.w8 0#8),.c (.bool false)],_,⟨[],⟨rfl,rfl,rfl⟩,by (repeat first|exact trivial|refine ent1 ?_)⟩,rfl,rfl⟩
  ·(repeat show _∧_;first|refine yr ?_|refine yt ?_|refine yf ?_|refine yt ?_ (by first|decide|(rw[e1];decide)|(rw[f1];decide))|refine yf ?_ (by first|decide|(rw[e1];decide)|(rw[f1];decide))|refine yo ?_)
   exact ⟨.tup [.c (.w8 0#8),.c (.bool false)],_,⟨[],⟨rfl,rfl,rfl⟩,by (repeat first|exact trivial|refine ent1 ?_)⟩,rfl,rfl⟩
theorem fn_qhas {d:Nat} {W:World} {ms:List Nat} {v:JT} {x:JC} (hx:TAt W ms d v x) (m:Nat):FnR Tryd.prog tds 37 1 [[.past W ms]] [.agg (jvS v x),.c (.int .i64 (m:Int))] (fun _=>True) (fun y hs=>y=.a (.c (.bool (hasJ v m)))∧hs=[[.past W ms]]):=by
 refine fn_of_body tds_ok follows_ Tryd.func37 rfl (t:=.a (.agg (jvS v x))::.a (.c (.int .i64 (m:Int)))::anys (Tryd.f37.ntmps-2)) rfl (fun w r0 hr0 _=>?_)
 obtain ⟨x0,rfl⟩:=len1' hr0
 have hl:=hx.len
 have hn:v.ns.length=x.p:=by have h1:=hx.ns.len; simp only [List.length_map] at h1; omega
 unfold hasJ
 by_cases k6:v.k=6#8
 ·have e6:decide (v.k=6#8)=true:=decide_eq_true k6
  by_cases h1:v.ns.length=m
  ·have e1:decide ((x.p:Int)=(m:Int))=true:=decide_eq_true (by omega)
   have e2:decide ((x.m:Int)=(m:Int))=decide (v.l.length=m):=decide_eq_decide.2 (by omega)
   rw [e6,decide_eq_true h1,Bool.true_and,Bool.true_and,← e2]
   (repeat show _∧_;first|refine yr ?_|refine yt ?_|refine yf ?_|refine yt ?_ (by first|decide|(rw[e6];decide)|(rw[e1];decide))|refine yf ?_ (by first|decide|(rw[e6];decide)|(rw[e1];decide))|refine yo ?_)
   exact ⟨.a (.c (.bool (decide ((x.m:Int)=(m:Int))))),_,⟨[0],⟨rfl,rfl,rfl⟩,by (repeat first|exact trivial|refine ent1 ?_)⟩,rfl,rfl⟩
  ·have e1:decide ((x.p:Int)=(m:Int))=false:=decide_eq_false (by omega)
   rw [decide_eq_false h1,Bool.false_and,Bool.and_false]
   (repeat show _∧_;first|refine yr ?_|refine yt ?_|refine yf ?_|refine yt ?_ (by first|decide|(rw[e6];decide)|(rw[e1];decide))|refine yf ?_ (by first|decide|(rw[e6];decide)|(rw[e1];decide))|refine yo ?_)
   exact ⟨.a (.c (.bool false)),_,⟨[0],⟨rfl,rfl,rfl⟩,by (repeat first|exact trivial|refine ent1 ?_)⟩,rfl,rfl⟩
 ·have e6:decide (v.k=6#8)=false:=decide_eq_false k6
  rw [e6,Bool.false_and]
  (repeat show _∧_;first|refine yr ?_|refine yt ?_|refine yf ?_|refine yt ?_ (by first|decide|(rw[e6];decide))|refine yf ?_ (by first|decide|(rw[e6];decide))|refine yo ?_)
  exact ⟨.a (.c (.bool false)),_,⟨[0],⟨rfl,rfl,rfl⟩,by (repeat first|exact trivial|refine ent1 ?_)⟩,rfl,rfl⟩
def idxI (o:Option Nat):Int:=match o with
 | none=>-1
 | some i=>(i:Int)
theorem idxN_drop (s:Bs):∀ (l:List Bs) (j:Nat),(∀ i,i<j→∀ x,l[i]?=some x→s≠x)→j≤l.length→idxN s l=(idxN s (l.drop j)).map (·+j)
 | l,0,_,_=>by simp
 | [],j+1,_,h=>by simp at h
 | x::l,j+1,h,hl=>by
  have h0:s≠x:=h 0 (by omega) x rfl
  rw [idxN,if_neg h0,idxN_drop s l j (fun i hi y hy=>h (i+1) (by omega) y hy) (by simpa using hl),List.drop_succ_cons,Option.map_map]
  congr 1
set_option maxRecDepth 20000 in
theorem fn_index {W:World} {ms:List Nat} {a:Option Addr} {m c:Nat} {ns:List Bs} (h:StAt W ms a m c (ns.map U8)) (s:Bs):FnR Tryd.prog tds 48 1 [[.past W ms]] [.c (.slc a m c),.c (.str (U8 s))] (fun _=>True) (fun y hs=>y=.a (.c (.int .i64 (idxI (idxN s ns))))∧hs=[[.past W ms]]):=by
 refine fn_of_body tds_ok follows_ Tryd.func48 rfl (t:=.a (.c (.slc a m c))::.a (.c (.str (U8 s)))::anys (Tryd.f48.ntmps-2)) rfl (fun w r0 hr0 _=>?_)
 obtain ⟨x0,rfl⟩:=len1' hr0
 have hm:ns.length=m:=by have h1:=h.len; simp only [List.length_map] at h1; omega
 have hcap:=h.cap
 (repeat show _∧_;first|refine yr ?_|refine yt ?_|refine yf ?_|refine yo ?_)
 refine .inl ⟨Nat,fun j=>⟨[.a (.c (.slc a m c)),.a (.c (.str ((U8 s)))),.any,.any,.any,.any,.any,.a (.c (.int .i64 (m))),.a (.c (.int .i64 (((j:Nat):Int)))),.any,.any,.any,.any,.any,.any,.any,.any,.any,.any],[[.past W ms]]⟩,
  fun j=>j≤ns.length∧∀ i,i<j→∀ x,ns[i]?=some x→s≠x,fun j=>ns.length-j,⟨0,[0],⟨⟨rfl,rfl,rfl⟩,by (repeat first|exact trivial|refine ent1 ?_)⟩,Nat.zero_le _,fun i hi=>absurd hi (Nat.not_lt_zero _)⟩,fun j hx=>?_⟩
 obtain ⟨hj0,hno⟩:=hx
 dsimp only
 by_cases hj:j<ns.length
 rotate_left
 ·have e1:decide ((j:Int)<(m:Int))=false:=decide_eq_false (by omega)
  obtain rfl:j=ns.length:=by omega
  have hI:idxN s ns=none:=by rw [idxN_drop s ns _ hno (Nat.le_refl _),List.drop_length]; rfl
  rw [hI]
  (repeat show _∧_;first|refine yr ?_|refine yt ?_|refine yf ?_|refine yt ?_ (by first|decide|(rw[e1];decide))|refine yf ?_ (by first|decide|(rw[e1];decide))|refine yo ?_)
  exact ⟨.a (.c (.int .i64 (-1))),_,⟨[0],⟨rfl,rfl,rfl⟩,by (repeat first|exact trivial|refine ent1 ?_)⟩,rfl,rfl⟩
 have e1:decide ((j:Int)<(m:Int))=true:=decide_eq_true (by omega)
 obtain ⟨A,rfl,h2⟩:=h.elt hj
 (repeat show _∧_;first|refine yr ?_|refine yt ?_|refine yf ?_|refine yt ?_ (by first|decide|(rw[e1];decide))|refine yf ?_ (by first|decide|(rw[e1];decide))|refine yo ?_)
 refine ⟨[.one (.str (U8 ns[j]))],⟨.past (i:=0) rfl (by exact h2),rfl⟩,?_⟩
 by_cases hs:s=ns[j]
 ·have e3:decide (U8 s=U8 ns[j])=true:=decide_eq_true (by rw [← hs])
  have hI:idxN s ns=some j:=by
   rw [idxN_drop s ns j hno (by omega),List.drop_eq_getElem_cons hj,idxN,if_pos hs]; simp
  rw [hI]
  (repeat show _∧_;first|refine yr ?_|refine yt ?_|refine yf ?_|refine yt ?_ (by first|decide|(rw[e3];decide))|refine yf ?_ (by first|decide|(rw[e3];decide))|refine yo ?_)
  exact ⟨.a (.c (.int .i64 (j:Int))),_,⟨[0],⟨rfl,rfl,rfl⟩,by (repeat first|exact trivial|refine ent1 ?_)⟩,rfl,rfl⟩
 ·have e3:decide (U8 s=U8 ns[j])=false:=decide_eq_false (fun e=>hs (U8_inj e))
  (repeat show _∧_;first|refine yr ?_|refine yt ?_|refine yf ?_|refine yt ?_ (by first|decide|(rw[e3];decide))|refine yf ?_ (by first|decide|(rw[e3];decide))|refine yo ?_)
  refine ⟨j+1,[0],⟨⟨rfl,rfl,rfl⟩,by (repeat first|exact trivial|refine ent1 ?_)⟩,⟨hj,fun i hi x hx=>?_⟩,by omega⟩
  by_cases hij:i=j
  ·subst hij
   rw [List.getElem?_eq_getElem hj] at hx
   injection hx with hx
   rw [← hx]; exact hs
  ·exact hno i (by omega) x hx
theorem TAt.elt {W:World} {ms:List Nat} {d:Nat} {v:JT} {x:JC} (h:TAt W ms (d+1) v x) {i:Nat} (hi:i<v.l.length):∃ A y,x.a=some A∧i<x.m∧ImAt W ms (A.add (i*5)) (flat (jvS v.l[i] y))∧TAt W ms d v.l[i] y:=by
 obtain ⟨⟨g1,g2,g3,g4,g5⟩,_⟩:=h
 obtain ⟨xa,xm,xc,xb,xp,xq⟩:=x
 dsimp only at g1 g2 g3 g4 g5
 cases xa with
 | none=>exact absurd (g4 rfl) (by omega)
 | some A =>
  obtain ⟨y,y1,y2⟩:=(g5 A rfl (by omega)).2 i v.l[i] (List.getElem?_eq_getElem hi)
  exact ⟨A,y,rfl,by show i<xm; omega,y1,y2⟩
def MemA (W:World) (ms:List Nat) (d:Nat) (o:Option JT) (y:SV) (hs:List (List Seg)):Prop :=
 hs=[[.past W ms]]∧match o with
  | none=>y=.tup [.agg (jvS jt0 jc0),.c (.bool false)]
  | some v=>∃ x,TAt W ms d v x∧y=.tup [.agg (jvS v x),.c (.bool true)]
set_option maxRecDepth 20000 in
set_option maxHeartbeats 4000000 in
theorem fn_qmember {d:Nat} {W:World} {ms:List Nat} {v:JT} {x:JC} (hx:TAt W ms (d+1) v x) (s:Bs) (k:BitVec 8):FnR Tryd.prog tds 36 1 [[.past W ms]] [.agg (jvS v x),.c (.str (U8 s)),.c (.w8 k)] (fun _=>True) (MemA W ms d (memJ v s k)):=by
 refine fn_of_body tds_ok follows_ Tryd.func36 rfl (t:=.a (.agg (jvS v x))::.a (.c (.str (U8 s)))::.a (.c (.w8 k))::anys (Tryd.f36.ntmps-3)) rfl (fun w r0 hr0 _=>?_)
 obtain ⟨x0,rfl⟩:=len1' hr0
 have hl:=hx.len
 (repeat show _∧_;first|refine yr ?_|refine yt ?_|refine yf ?_|refine yo ?_)
 refine call_same (fn_index hx.ns s) [0] rfl (by exact And.intro rfl (And.intro rfl trivial)) (by (repeat first|exact trivial|refine ent1 ?_)) (fun _ _=>trivial) ?_
 rintro y hs ⟨rfl,rfl⟩
 cases hI:idxN s v.ns with
 | none =>
  have hM:memJ v s k=none:=by unfold memJ; rw [hI]
  rw [hM]
  (repeat show _∧_;first|refine yr ?_|refine yt ?_|refine yf ?_|refine yo ?_)
  exact ⟨.tup [.agg (jvS jt0 jc0),.c (.bool false)],_,⟨[0],⟨rfl,rfl,rfl⟩,by (repeat first|exact trivial|refine ent1 ?_)⟩,rfl,rfl⟩
 | some i =>
  rw [show idxI (some i)=(i:Int) from rfl]
  have e0:decide ((i:Int)<0)=false:=decide_eq_false (by omega)
  by_cases hi:i<v.l.length
  ·obtain ⟨A,y,hA,him,y1,y2⟩:=hx.elt hi
   obtain ⟨xa,xm,xc,xb,xp,xq⟩:=x
   dsimp only at hA him hl
   subst hA
   have e1:decide ((xm:Int)≤(i:Int))=false:=decide_eq_false (by omega)
   by_cases hk:v.l[i].k=k
   ·have e2:decide (v.l[i].k≠k)=false:=decide_eq_false (not_not_intro hk)
    have hM:memJ v s k=some v.l[i]:=by unfold memJ; rw [hI]; dsimp only; rw [List.getElem?_eq_getElem hi]; dsimp only; rw [if_pos hk]
    rw [hM]
    (repeat show _∧_;first|refine yr ?_|refine yt ?_|refine yf ?_|refine yt ?_ (by first|decide|(rw[e0];decide)|(rw[e1];decide))|refine yf ?_ (by first|decide|(rw[e0];decide)|(rw[e1];decide))|refine yo ?_)
    refine And.intro (show (0:Int)≤(i:Int)∧(i:Int)<(xm:Int) by omega) ?_
    (repeat show _∧_;first|refine yr ?_|refine yt ?_|refine yf ?_|refine yt ?_ (by first|decide|(rw[e0];decide)|(rw[e1];decide))|refine yf ?_ (by first|decide|(rw[e0];decide)|(rw[e1];decide))|refine yo ?_)
    refine ⟨[.one (.w8 v.l[i].k)],⟨.past (i:=0) rfl (by exact y1.sub 0 1),rfl⟩,?_⟩
    (repeat show _∧_;first|refine yr ?_|refine yt ?_|refine yf ?_|refine yt ?_ (by first|decide|(rw[e0];decide)|(rw[e1];decide)|(rw[e2];decide))|refine yf ?_ (by first|decide|(rw[e0];decide)|(rw[e1];decide)|(rw[e2];decide))|refine yo ?_)
    refine And.intro (show (0:Int)≤(i:Int)∧(i:Int)<(xm:Int) by omega) ?_
    refine ⟨jvS v.l[i] y,⟨.past (i:=0) rfl (by exact y1),rfl⟩,?_⟩
    (repeat show _∧_;first|refine yr ?_|refine yt ?_|refine yf ?_|refine yo ?_)
    exact ⟨.tup [.agg (jvS v.l[i] y),.c (.bool true)],_,⟨[0],⟨rfl,rfl,rfl⟩,by (repeat first|exact trivial|refine ent1 ?_)⟩,rfl,y,y2,rfl⟩
   ·have e2:decide (v.l[i].k≠k)=true:=decide_eq_true hk
    have hM:memJ v s k=none:=by unfold memJ; rw [hI]; dsimp only; rw [List.getElem?_eq_getElem hi]; dsimp only; rw [if_neg hk]
    rw [hM]
    (repeat show _∧_;first|refine yr ?_|refine yt ?_|refine yf ?_|refine yt ?_ (by first|decide|(rw[e0];decide)|(rw[e1];decide))|refine yf ?_ (by first|decide|(rw[e0];decide)|(rw[e1];decide))|refine yo ?_)
    refine And.intro (show (0:Int)≤(i:Int)∧(i:Int)<(xm:Int) by omega) ?_
    (repeat show _∧_;first|refine yr ?_|refine yt ?_|refine yf ?_|refine yt ?_ (by first|decide|(rw[e0];decide)|(rw[e1];decide))|refine yf ?_ (by first|decide|(rw[e0];decide)|(rw[e1];decide))|refine yo ?_)
    refine ⟨[.one (.w8 v.l[i].k)],⟨.past (i:=0) rfl (by exact y1.sub 0 1),rfl⟩,?_⟩
    (repeat show _∧_;first|refine yr ?_|refine yt ?_|refine yf ?_|refine yt ?_ (by first|decide|(rw[e0];decide)|(rw[e1];decide)|(rw[e2];decide))|refine yf ?_ (by first|decide|(rw[e0];decide)|(rw[e1];decide)|(rw[e2];decide))|refine yo ?_)
    exact ⟨.tup [.agg (jvS jt0 jc0),.c (.bool false)],_,⟨[0],⟨rfl,rfl,rfl⟩,by (repeat first|exact trivial|refine ent1 ?_)⟩,rfl,rfl⟩
  ·have e1:decide ((x.m:Int)≤(i:Int))=true:=decide_eq_true (by omega)
   have hM:memJ v s k=none:=by unfold memJ; rw [hI]; dsimp only; rw [List.getElem?_eq_none (by omega)]
   rw [hM]
   (repeat show _∧_;first|refine yr ?_|refine yt ?_|refine yf ?_|refine yt ?_ (by first|decide|(rw[e0];decide)|(rw[e1];decide))|refine yf ?_ (by first|decide|(rw[e0];decide)|(rw[e1];decide))|refine yo ?_)
   exact ⟨.tup [.agg (jvS jt0 jc0),.c (.bool false)],_,⟨[0],⟨rfl,rfl,rfl⟩,by (repeat first|exact trivial|refine ent1 ?_)⟩,rfl,rfl⟩
end Sx
end
section
namespace Sx
open Go.RowKit Sha Vi Ev

end Sx
end
section
namespace Sx
open Go.RowKit Sha Vi Ev

theorem eqC_strs' {q:List Nat} (l:List (List UInt8)) {j n:Nat} (hn:n=l.length) (h:j<n):eqC q (nthC (l.map SC.str) j) (strsF l j) True:=eqC_strs l (by omega)
set_option maxRecDepth 20000 in
set_option maxHeartbeats 8000000 in
theorem fn_names:Fn Tryd.prog tds 50 [] [] (fun _=>True)
  (fun y hs=>y=.a (.c (.sl 19 0 0 19 19))∧hs=[[.row 2 (strsF [[112,104,97,115,101],[112,104,97,115,101]])],[.row 6 (strsF [[112,97,99,107,101,116,95,115,101,110,116],[115,112,97,99,101],[110,117,109,98,101,114],[115,105,122,101],[101,108,105,99,105,116,105,110,103],[102,108,105,103,104,116]])],[.row 4 (strsF [[112,97,99,107,101,116,95,114,101,99,101,105,118,101,100],[115,112,97,99,101],[110,117,109,98,101,114],[115,105,122,101]])],[.row 3 (strsF [[112,97,99,107,101,116,95,97,99,107,101,100],[115,112,97,99,101],[110,117,109,98,101,114]])],[.row 4 (strsF [[112,97,99,107,101,116,95,108,111,115,116],[115,112,97,99,101],[110,117,109,98,101,114],[119,104,121]])],[.row 2 (strsF [[115,112,97,99,101,95,100,114,111,112,112,101,100],[115,112,97,99,101]])],[.row 3 (strsF [[114,97,110,103,101,115,95,102,111,114,103,111,116,116,101,110],[115,112,97,99,101],[98,101,108,111,119]])],[.row 9 (strsF [[109,101,116,114,105,99,115,95,117,112,100,97,116,101,100],[108,97,116,101,115,116],[108,101,97,115,116],[115,109,111,111,116,104],[118,97,114,105,97,110,99,101],[119,105,110,100,111,119],[102,108,105,103,104,116],[115,108,111,119],[112,114,111,98,101,115]])],[.row 6 (strsF [[99,114,101,100,105,116,95,117,112,100,97,116,101,100],[115,116,114,101,97,109],[103,105,118,101,110],[117,115,101,100],[103,111,116],[115,112,101,110,116]])],[.row 8 (strsF [[115,116,114,101,97,109,95,117,112,100,97,116,101,100],[115,116,114,101,97,109],[115,101,110,100],[119,114,105,116,116,101,110],[99,97,109,101],[114,101,99,118],[114,101,97,100],[104,105,103,104]])],[.row 3 (strsF [[111,119,110,95,105,100,95,103,105,118,101,110],[115,101,113],[43]])],[.row 2 (strsF [[111,119,110,95,105,100,95,114,101,116,105,114,101,100],[115,101,113]])],[.row 3 (strsF [[111,116,104,101,114,95,105,100,95,103,105,118,101,110],[115,101,113],[43]])],[.row 2 (strsF [[111,116,104,101,114,95,105,100,95,114,101,116,105,114,101,100],[115,101,113]])],[.row 2 (strsF [[105,100,95,117,115,101,100],[115,101,113]])],[.row 3 (strsF [[112,97,116,104,95,117,112,100,97,116,101,100],[112,97,116,104],[115,116,97,116,101]])],[.row 3 (strsF [[107,101,121,95,117,112,100,97,116,101,100],[115,112,97,99,101],[116,117,114,110]])],[.row 4 (strsF [[99,111,110,110,101,99,116,105,111,110,95,99,108,111,115,101,100],[99,111,100,101],[97,112,112],[111,119,110]])],[.row 1 (strsF [[108,111,103,95,116,114,117,110,99,97,116,101,100]])],[.row 19 (nthC [.sl 0 0 0 2 2,.sl 1 0 0 6 6,.sl 2 0 0 4 4,.sl 3 0 0 3 3,.sl 4 0 0 4 4,.sl 5 0 0 2 2,.sl 6 0 0 3 3,.sl 7 0 0 9 9,.sl 8 0 0 6 6,.sl 9 0 0 8 8,.sl 10 0 0 3 3,.sl 11 0 0 2 2,.sl 12 0 0 3 3,.sl 13 0 0 2 2,.sl 14 0 0 2 2,.sl 15 0 0 3 3,.sl 16 0 0 3 3,.sl 17 0 0 4 4,.sl 18 0 0 1 1])]]):=by
 refine fn_of_body tds_ok follows_ Tryd.func50 rfl (t:=anys Tryd.f50.ntmps) rfl (fun w r0 hr _=>?_)
 obtain rfl:r0=[]:=List.eq_nil_of_length_eq_zero hr
 (repeat show _∧_;first|refine yr ?_|refine yt ?_|refine yf ?_|refine yo ?_)
 refine ⟨.a (.c (.sl 19 0 0 19 19)),_,⟨[0,1,2,3,4,5,6,7,8,9,10,11,12,13,14,15,16,17,18,19],⟨rfl,rfl,rfl⟩,?_⟩,rfl,rfl⟩
 (repeat first|exact trivial|refine ent1 ?_)
 refine And.intro (fun j hj=>eqC_strs' [[112,104,97,115,101],[112,104,97,115,101]] rfl hj) ?_
 (repeat first|exact trivial|refine ent1 ?_)
 refine And.intro (fun j hj=>eqC_strs' [[112,97,99,107,101,116,95,115,101,110,116],[115,112,97,99,101],[110,117,109,98,101,114],[115,105,122,101],[101,108,105,99,105,116,105,110,103],[102,108,105,103,104,116]] rfl hj) ?_
 (repeat first|exact trivial|refine ent1 ?_)
 refine And.intro (fun j hj=>eqC_strs' [[112,97,99,107,101,116,95,114,101,99,101,105,118,101,100],[115,112,97,99,101],[110,117,109,98,101,114],[115,105,122,101]] rfl hj) ?_
 (repeat first|exact trivial|refine ent1 ?_)
 refine And.intro (fun j hj=>eqC_strs' [[112,97,99,107,101,116,95,97,99,107,101,100],[115,112,97,99,101],[110,117,109,98,101,114]] rfl hj) ?_
 (repeat first|exact trivial|refine ent1 ?_)
 refine And.intro (fun j hj=>eqC_strs' [[112,97,99,107,101,116,95,108,111,115,116],[115,112,97,99,101],[110,117,109,98,101,114],[119,104,121]] rfl hj) ?_
 (repeat first|exact trivial|refine ent1 ?_)
 refine And.intro (fun j hj=>eqC_strs' [[115,112,97,99,101,95,100,114,111,112,112,101,100],[115,112,97,99,101]] rfl hj) ?_
 (repeat first|exact trivial|refine ent1 ?_)
 refine And.intro (fun j hj=>eqC_strs' [[114,97,110,103,101,115,95,102,111,114,103,111,116,116,101,110],[115,112,97,99,101],[98,101,108,111,119]] rfl hj) ?_
 (repeat first|exact trivial|refine ent1 ?_)
 refine And.intro (fun j hj=>eqC_strs' [[109,101,116,114,105,99,115,95,117,112,100,97,116,101,100],[108,97,116,101,115,116],[108,101,97,115,116],[115,109,111,111,116,104],[118,97,114,105,97,110,99,101],[119,105,110,100,111,119],[102,108,105,103,104,116],[115,108,111,119],[112,114,111,98,101,115]] rfl hj) ?_
 (repeat first|exact trivial|refine ent1 ?_)
 refine And.intro (fun j hj=>eqC_strs' [[99,114,101,100,105,116,95,117,112,100,97,116,101,100],[115,116,114,101,97,109],[103,105,118,101,110],[117,115,101,100],[103,111,116],[115,112,101,110,116]] rfl hj) ?_
 (repeat first|exact trivial|refine ent1 ?_)
 refine And.intro (fun j hj=>eqC_strs' [[115,116,114,101,97,109,95,117,112,100,97,116,101,100],[115,116,114,101,97,109],[115,101,110,100],[119,114,105,116,116,101,110],[99,97,109,101],[114,101,99,118],[114,101,97,100],[104,105,103,104]] rfl hj) ?_
 (repeat first|exact trivial|refine ent1 ?_)
 refine And.intro (fun j hj=>eqC_strs' [[111,119,110,95,105,100,95,103,105,118,101,110],[115,101,113],[43]] rfl hj) ?_
 (repeat first|exact trivial|refine ent1 ?_)
 refine And.intro (fun j hj=>eqC_strs' [[111,119,110,95,105,100,95,114,101,116,105,114,101,100],[115,101,113]] rfl hj) ?_
 (repeat first|exact trivial|refine ent1 ?_)
 refine And.intro (fun j hj=>eqC_strs' [[111,116,104,101,114,95,105,100,95,103,105,118,101,110],[115,101,113],[43]] rfl hj) ?_
 (repeat first|exact trivial|refine ent1 ?_)
 refine And.intro (fun j hj=>eqC_strs' [[111,116,104,101,114,95,105,100,95,114,101,116,105,114,101,100],[115,101,113]] rfl hj) ?_
 (repeat first|exact trivial|refine ent1 ?_)
 refine And.intro (fun j hj=>eqC_strs' [[105,100,95,117,115,101,100],[115,101,113]] rfl hj) ?_
 (repeat first|exact trivial|refine ent1 ?_)
 refine And.intro (fun j hj=>eqC_strs' [[112,97,116,104,95,117,112,100,97,116,101,100],[112,97,116,104],[115,116,97,116,101]] rfl hj) ?_
 (repeat first|exact trivial|refine ent1 ?_)
 refine And.intro (fun j hj=>eqC_strs' [[107,101,121,95,117,112,100,97,116,101,100],[115,112,97,99,101],[116,117,114,110]] rfl hj) ?_
 (repeat first|exact trivial|refine ent1 ?_)
 refine And.intro (fun j hj=>eqC_strs' [[99,111,110,110,101,99,116,105,111,110,95,99,108,111,115,101,100],[99,111,100,101],[97,112,112],[111,119,110]] rfl hj) ?_
 (repeat first|exact trivial|refine ent1 ?_)
 refine And.intro (fun j hj=>eqC_strs' [[108,111,103,95,116,114,117,110,99,97,116,101,100]] rfl hj) ?_
 (repeat first|exact trivial|refine ent1 ?_)
 refine ⟨fun j hj=>?_,trivial⟩
 have hj:j=0∨j=1∨j=2∨j=3∨j=4∨j=5∨j=6∨j=7∨j=8∨j=9∨j=10∨j=11∨j=12∨j=13∨j=14∨j=15∨j=16∨j=17∨j=18:=by omega
 rcases hj with rfl|rfl|rfl|rfl|rfl|rfl|rfl|rfl|rfl|rfl|rfl|rfl|rfl|rfl|rfl|rfl|rfl|rfl|rfl <;> exact ⟨rfl,rfl,rfl,trivial⟩
set_option maxRecDepth 20000 in
theorem fn_many (k:BitVec 8) (hk:evOk k=true):Fn Tryd.prog tds 29 [] [.c (.w8 k)] (fun _=>True)
  (fun y hs=>y=.tup [.c (.int .i64 ((evNames k).length:Nat)),.c (.bool (evData k))]∧hs=[]):=by
 have hk2:=of_decide_eq_true hk
 have:k.toNat=1∨k.toNat=2∨k.toNat=3∨k.toNat=4∨k.toNat=5∨k.toNat=6∨k.toNat=7∨k.toNat=8∨k.toNat=9∨k.toNat=10∨k.toNat=11∨k.toNat=12∨k.toNat=13∨k.toNat=14∨k.toNat=15∨k.toNat=16∨k.toNat=17∨k.toNat=18∨k.toNat=19:=by omega
 refine fn_of_body tds_ok follows_ Tryd.func29 rfl (t:=.a (.c (.w8 k))::anys (Tryd.f29.ntmps-1)) rfl (fun w r0 hr _=>?_)
 obtain rfl:r0=[]:=List.eq_nil_of_length_eq_zero hr
 (repeat show _∧_;first|refine yr ?_|refine yt ?_|refine yf ?_|refine yo ?_)
 refine call_same fn_names [] rfl (by (repeat first|exact trivial|refine ent1 ?_)) trivial (fun _ _=>trivial) ?_
 rintro y hs' ⟨rfl,rfl⟩
 rcases this with h|h|h|h|h|h|h|h|h|h|h|h|h|h|h|h|h|h|h
 ·obtain rfl:k=1#8:=BitVec.eq_of_toNat_eq h
  (repeat show _∧_;first|refine yr ?_|refine yt ?_|refine yf ?_|refine yo ?_)
  exact ⟨.tup [.c (.int .i64 ((evNames 1#8).length:Nat)),.c (.bool (evData 1#8))],[],⟨[],⟨rfl,rfl,rfl⟩,by (repeat first|exact trivial|refine ent1 ?_)⟩,rfl,rfl⟩
 ·obtain rfl:k=2#8:=BitVec.eq_of_toNat_eq h
  (repeat show _∧_;first|refine yr ?_|refine yt ?_|refine yf ?_|refine yo ?_)
  exact ⟨.tup [.c (.int .i64 ((evNames 2#8).length:Nat)),.c (.bool (evData 2#8))],[],⟨[],⟨rfl,rfl,rfl⟩,by (repeat first|exact trivial|refine ent1 ?_)⟩,rfl,rfl⟩
 ·obtain rfl:k=3#8:=BitVec.eq_of_toNat_eq h
  (repeat show _∧_;first|refine yr ?_|refine yt ?_|refine yf ?_|refine yo ?_)
  exact ⟨.tup [.c (.int .i64 ((evNames 3#8).length:Nat)),.c (.bool (evData 3#8))],[],⟨[],⟨rfl,rfl,rfl⟩,by (repeat first|exact trivial|refine ent1 ?_)⟩,rfl,rfl⟩
 ·obtain rfl:k=4#8:=BitVec.eq_of_toNat_eq h
  (repeat show _∧_;first|refine yr ?_|refine yt ?_|refine yf ?_|refine yo ?_)
  exact ⟨.tup [.c (.int .i64 ((evNames 4#8).length:Nat)),.c (.bool (evData 4#8))],[],⟨[],⟨rfl,rfl,rfl⟩,by (repeat first|exact trivial|refine ent1 ?_)⟩,rfl,rfl⟩
 ·obtain rfl:k=5#8:=BitVec.eq_of_toNat_eq h
  (repeat show _∧_;first|refine yr ?_|refine yt ?_|refine yf ?_|refine yo ?_)
  exact ⟨.tup [.c (.int .i64 ((evNames 5#8).length:Nat)),.c (.bool (evData 5#8))],[],⟨[],⟨rfl,rfl,rfl⟩,by (repeat first|exact trivial|refine ent1 ?_)⟩,rfl,rfl⟩
 ·obtain rfl:k=6#8:=BitVec.eq_of_toNat_eq h
  (repeat show _∧_;first|refine yr ?_|refine yt ?_|refine yf ?_|refine yo ?_)
  exact ⟨.tup [.c (.int .i64 ((evNames 6#8).length:Nat)),.c (.bool (evData 6#8))],[],⟨[],⟨rfl,rfl,rfl⟩,by (repeat first|exact trivial|refine ent1 ?_)⟩,rfl,rfl⟩
 ·obtain rfl:k=7#8:=BitVec.eq_of_toNat_eq h
  (repeat show _∧_;first|refine yr ?_|refine yt ?_|refine yf ?_|refine yo ?_)
  exact ⟨.tup [.c (.int .i64 ((evNames 7#8).length:Nat)),.c (.bool (evData 7#8))],[],⟨[],⟨rfl,rfl,rfl⟩,by (repeat first|exact trivial|refine ent1 ?_)⟩,rfl,rfl⟩
 ·obtain rfl:k=8#8:=BitVec.eq_of_toNat_eq h
  (repeat show _∧_;first|refine yr ?_|refine yt ?_|refine yf ?_|refine yo ?_)
  exact ⟨.tup [.c (.int .i64 ((evNames 8#8).length:Nat)),.c (.bool (evData 8#8))],[],⟨[],⟨rfl,rfl,rfl⟩,by (repeat first|exact trivial|refine ent1 ?_)⟩,rfl,rfl⟩
 ·obtain rfl:k=9#8:=BitVec.eq_of_toNat_eq h
  (repeat show _∧_;first|refine yr ?_|refine yt ?_|refine yf ?_|refine yo ?_)
  exact ⟨.tup [.c (.int .i64 ((evNames 9#8).length:Nat)),.c (.bool (evData 9#8))],[],⟨[],⟨rfl,rfl,rfl⟩,by (repeat first|exact trivial|refine ent1 ?_)⟩,rfl,rfl⟩
 ·obtain rfl:k=10#8:=BitVec.eq_of_toNat_eq h
  (repeat show _∧_;first|refine yr ?_|refine yt ?_|refine yf ?_|refine yo ?_)
  exact ⟨.tup [.c (.int .i64 ((evNames 10#8).length:Nat)),.c (.bool (evData 10#8))],[],⟨[],⟨rfl,rfl,rfl⟩,by (repeat first|exact trivial|refine ent1 ?_)⟩,rfl,rfl⟩
 ·obtain rfl:k=11#8:=BitVec.eq_of_toNat_eq h
  (repeat show _∧_;first|refine yr ?_|refine yt ?_|refine yf ?_|refine yo ?_)
  exact ⟨.tup [.c (.int .i64 ((evNames 11#8).length:Nat)),.c (.bool (evData 11#8))],[],⟨[],⟨rfl,rfl,rfl⟩,by (repeat first|exact trivial|refine ent1 ?_)⟩,rfl,rfl⟩
 ·obtain rfl:k=12#8:=BitVec.eq_of_toNat_eq h
  (repeat show _∧_;first|refine yr ?_|refine yt ?_|refine yf ?_|refine yo ?_)
  exact ⟨.tup [.c (.int .i64 ((evNames 12#8).length:Nat)),.c (.bool (evData 12#8))],[],⟨[],⟨rfl,rfl,rfl⟩,by (repeat first|exact trivial|refine ent1 ?_)⟩,rfl,rfl⟩
 ·obtain rfl:k=13#8:=BitVec.eq_of_toNat_eq h
  (repeat show _∧_;first|refine yr ?_|refine yt ?_|refine yf ?_|refine yo ?_)
  exact ⟨.tup [.c (.int .i64 ((evNames 13#8).length:Nat)),.c (.bool (evData 13#8))],[],⟨[],⟨rfl,rfl,rfl⟩,by (repeat first|exact trivial|refine ent1 ?_)⟩,rfl,rfl⟩
 ·obtain rfl:k=14#8:=BitVec.eq_of_toNat_eq h
  (repeat show _∧_;first|refine yr ?_|refine yt ?_|refine yf ?_|refine yo ?_)
  exact ⟨.tup [.c (.int .i64 ((evNames 14#8).length:Nat)),.c (.bool (evData 14#8))],[],⟨[],⟨rfl,rfl,rfl⟩,by (repeat first|exact trivial|refine ent1 ?_)⟩,rfl,rfl⟩
 ·obtain rfl:k=15#8:=BitVec.eq_of_toNat_eq h
  (repeat show _∧_;first|refine yr ?_|refine yt ?_|refine yf ?_|refine yo ?_)
  exact ⟨.tup [.c (.int .i64 ((evNames 15#8).length:Nat)),.c (.bool (evData 15#8))],[],⟨[],⟨rfl,rfl,rfl⟩,by (repeat first|exact trivial|refine ent1 ?_)⟩,rfl,rfl⟩
 ·obtain rfl:k=16#8:=BitVec.eq_of_toNat_eq h
  (repeat show _∧_;first|refine yr ?_|refine yt ?_|refine yf ?_|refine yo ?_)
  exact ⟨.tup [.c (.int .i64 ((evNames 16#8).length:Nat)),.c (.bool (evData 16#8))],[],⟨[],⟨rfl,rfl,rfl⟩,by (repeat first|exact trivial|refine ent1 ?_)⟩,rfl,rfl⟩
 ·obtain rfl:k=17#8:=BitVec.eq_of_toNat_eq h
  (repeat show _∧_;first|refine yr ?_|refine yt ?_|refine yf ?_|refine yo ?_)
  exact ⟨.tup [.c (.int .i64 ((evNames 17#8).length:Nat)),.c (.bool (evData 17#8))],[],⟨[],⟨rfl,rfl,rfl⟩,by (repeat first|exact trivial|refine ent1 ?_)⟩,rfl,rfl⟩
 ·obtain rfl:k=18#8:=BitVec.eq_of_toNat_eq h
  (repeat show _∧_;first|refine yr ?_|refine yt ?_|refine yf ?_|refine yo ?_)
  exact ⟨.tup [.c (.int .i64 ((evNames 18#8).length:Nat)),.c (.bool (evData 18#8))],[],⟨[],⟨rfl,rfl,rfl⟩,by (repeat first|exact trivial|refine ent1 ?_)⟩,rfl,rfl⟩
 ·obtain rfl:k=19#8:=BitVec.eq_of_toNat_eq h
  (repeat show _∧_;first|refine yr ?_|refine yt ?_|refine yf ?_|refine yo ?_)
  exact ⟨.tup [.c (.int .i64 ((evNames 19#8).length:Nat)),.c (.bool (evData 19#8))],[],⟨[],⟨rfl,rfl,rfl⟩,by (repeat first|exact trivial|refine ent1 ?_)⟩,rfl,rfl⟩
end Sx
end
section
namespace Vi
open Sha
def putAll:List (BitVec 64)→Bs
 | []=>[]
 | n::r=>putL n++putAll r
end Vi
namespace Sx
open Sha Vi

def numsF (l:List (BitVec 64)):Nat→SC:=fun j=>match l[j]? with
 | some x=>.w64 x
 | none=>.any
theorem frc_nums {l:List (BitVec 64)} {j:Nat} {x:BitVec 64} {k:SC→Prop} (h:l[j]?=some x) (hk:k (.w64 x)):frcSC (numsF l j) k:=by
 unfold numsF; rw [h]; exact hk
theorem eqC_nums {q:List Nat} {l:List (BitVec 64)} {f:Nat→SC} (h:∀ (j:Nat) (x:BitVec 64),l[j]?=some x→f j=.w64 x) (j:Nat):eqC q (f j) (numsF l j) True:=by
 unfold numsF
 cases e:l[j]? with
 | none=>trivial
 | some x=>rw [h j x e]; exact ⟨rfl,trivial⟩
theorem eqC_numsS {q:List Nat} {l:List (BitVec 64)} {j:Nat}:eqC q (numsF l j) (numsF l j) True:=eqC_nums (fun j x h=>by unfold numsF; rw [h]) j
end Sx
end
section
namespace Ev
def kindE (k:BitVec 8):BitVec 8:=1#8+k % 19#8
def padE:List (BitVec 64)→Nat→List (BitVec 64)
 | l,0=>l
 | l,k+1=>padE (l++[BitVec.ofNat 64 l.length*7#64]) k
abbrev mk62 (x:BitVec 64):BitVec 64:=x &&& 4611686018427387903#64
def fitE (e:Ev) (k:BitVec 8):Ev:=⟨kindE k,e.t % 1125899906842625#64,((padE e.N ((evNames (kindE k)).length-e.N.length)).take (evNames (kindE k)).length).map mk62,if evData (kindE k)=true then e.D.take 20 else []⟩
theorem kindE_ok (k:BitVec 8):evOk (kindE k)=true:=by revert k; decide +kernel
theorem many_le (k:BitVec 8):(evNames k).length≤8:=by revert k; decide +kernel
def mskN (i:Nat) (P:List (BitVec 64)):List (BitVec 64):=(P.take i).map mk62++P.drop i
theorem mskN_len (i:Nat) (P:List (BitVec 64)):(mskN i P).length=P.length:=by
 unfold mskN; simp only [List.length_append,List.length_map,List.length_take,List.length_drop]; omega
theorem mskN_get {i j:Nat} {P:List (BitVec 64)} {x:BitVec 64} (h:P[j]?=some x):(mskN i P)[j]?=some (if j<i then mk62 x else x):=by
 have hj:=(List.getElem?_eq_some_iff.1 h).1
 unfold mskN
 by_cases hi:j<i
 ·rw [List.getElem?_append_left (by simp only [List.length_map,List.length_take]; omega),List.getElem?_map,List.getElem?_take,if_pos hi,h,if_pos hi]; rfl
 ·rw [List.getElem?_append_right (by simp only [List.length_map,List.length_take]; omega),List.getElem?_drop,if_neg hi]
  simp only [List.length_map,List.length_take]
  rw [show i+(j-min i P.length)=j by omega,h]
theorem padE_len:∀ (k:Nat) (l:List (BitVec 64)),(padE l k).length=l.length+k
 | 0,l=>rfl
 | k+1,l=>by rw [padE,padE_len k]; simp; omega
end Ev
namespace Sx
open Go.RowKit Sha Vi Ev

theorem nums_get {l:List (BitVec 64)} {j:Nat} {x:BitVec 64} (h:l[j]?=some x):numsF l j=.w64 x:=by unfold numsF; rw [h]
theorem eqC_newN {q:List Nat} {l:List (BitVec 64)} {n:Nat} (hn:l.length=n) {j:Nat}:eqC q (newF (scale n (0+1)) (nthC (l.map .w64)) j) (numsF l j) True :=
 eqC_nums (f:=fun j=>newF (scale n (0+1)) (nthC (l.map .w64)) j) (fun j x h=>newR (by simp [hn]) (by decide) j _ (map_get? h)) j
theorem eqC_newB {q:List Nat} {l:Bs} {n:Nat} (hn:l.length=n) {j:Nat}:eqC q (newF (scale n (0+1)) (nthC (l.map .w8)) j) (bytesF l.length (L l) j) True :=
 eqC_bytes (f:=fun j=>newF (scale n (0+1)) (nthC (l.map .w8)) j) (fun j h=>newR (by simp [hn]) (by decide) j _ (map_get? (by rw [List.getElem?_eq_getElem h,L_lt h]))) j
theorem bytes_get {l:Bs} {n j:Nat} {x:BitVec 8} (h:l[j]?=some x) (hn:l.length≤n) (M:Bs) (hM:M.length=n) (hl:∀ i,i<l.length→L M i=L l i):bytesF n (L M) j=.w8 x:=by
 have hj:=(List.getElem?_eq_some_iff.1 h).1
 rw [bytesF_lt (by omega),hl j hj,L_lt hj]
 rw [List.getElem?_eq_getElem hj] at h
 injection h with h
 rw [h]
set_option maxRecDepth 20000 in
set_option maxHeartbeats 8000000 in
theorem fn_ecl00 {W:World} {ms:List Nat} {x:EvC} {e:Ev} (h:EvAt W ms x e) (hn:e.N.length≤1000000) (hd:e.D.length≤1000000) (hz:e.N.length=0) (hy:e.D.length=0):FnR Tryd.prog tds 28 1 [[.past W ms]] [.agg (evS e x)] (fun _=>True)
  (fun y hs=>y=.a (.agg [.one (.w8 e.k),.one (.w64 e.t),.one (.slc none 0 0),.one (.slc none 0 0)])∧hs=[[.past W ms]]):=by
 have hN:=h.N
 have hD:=h.D
 have hn1:=h.nN
 have hn2:=h.nD
 obtain ⟨aN,nN,cN,aD,nD,cD⟩:=x
 dsimp only at hN hD hn1 hn2
 subst hn1; subst hn2
 refine fn_of_body tds_ok follows_ Tryd.func28 rfl (t:=.a (.agg (evS e ⟨aN,e.N.length,cN,aD,e.D.length,cD⟩))::anys (Tryd.f28.ntmps-1)) rfl (fun w r0 hr _=>?_)
 obtain ⟨x0,rfl⟩:=List.length_eq_one_iff.1 hr
 cases aN with
 | none =>
  (repeat show _∧_;first|refine yr ?_|refine yt ?_|refine yf ?_|refine yo ?_)
  cases aD with
  | none =>
   (repeat show _∧_;first|refine yr ?_|refine yt ?_|refine yf ?_|refine yo ?_)
   refine ⟨.a (.agg [.one (.w8 e.k),.one (.w64 e.t),.one (.slc none 0 0),.one (.slc none 0 0)]),[[.past W ms]],⟨[0],⟨rfl,rfl,rfl⟩,?_⟩,rfl,rfl⟩
   (repeat first|exact trivial|refine ent1 ?_)
  | some AD =>
   (repeat show _∧_;first|refine yr ?_|refine yt ?_|refine yf ?_|refine yo ?_)
   refine srcR (i:=0) (by rfl) hD ?_
   (repeat show _∧_;first|refine yr ?_|refine yt ?_|refine yf ?_|refine yo ?_)
   refine And.intro (show e.D.length*1≤140737488355328 by omega) ?_
   refine And.intro (fun _=>?_) (fun h0=>absurd h0 (show ¬ 0<e.D.length by omega))
   (repeat show _∧_;first|refine yr ?_|refine yt ?_|refine yf ?_|refine yo ?_)
   refine ⟨.a (.agg [.one (.w8 e.k),.one (.w64 e.t),.one (.slc none 0 0),.one (.slc none 0 0)]),[[.past W ms]],⟨[0],⟨rfl,rfl,rfl⟩,?_⟩,rfl,rfl⟩
   (repeat first|exact trivial|refine ent1 ?_)
 | some AN =>
  (repeat show _∧_;first|refine yr ?_|refine yt ?_|refine yf ?_|refine yo ?_)
  refine srcR (i:=0) (by rfl) hN ?_
  (repeat show _∧_;first|refine yr ?_|refine yt ?_|refine yf ?_|refine yo ?_)
  refine And.intro (show e.N.length*8≤140737488355328 by omega) ?_
  refine And.intro (fun _=>?_) (fun h0=>absurd h0 (show ¬ 0<e.N.length by omega))
  (repeat show _∧_;first|refine yr ?_|refine yt ?_|refine yf ?_|refine yo ?_)
  cases aD with
  | none =>
   (repeat show _∧_;first|refine yr ?_|refine yt ?_|refine yf ?_|refine yo ?_)
   refine ⟨.a (.agg [.one (.w8 e.k),.one (.w64 e.t),.one (.slc none 0 0),.one (.slc none 0 0)]),[[.past W ms]],⟨[0],⟨rfl,rfl,rfl⟩,?_⟩,rfl,rfl⟩
   (repeat first|exact trivial|refine ent1 ?_)
  | some AD =>
   (repeat show _∧_;first|refine yr ?_|refine yt ?_|refine yf ?_|refine yo ?_)
   refine srcR (i:=0) (by rfl) hD ?_
   (repeat show _∧_;first|refine yr ?_|refine yt ?_|refine yf ?_|refine yo ?_)
   refine And.intro (show e.D.length*1≤140737488355328 by omega) ?_
   refine And.intro (fun _=>?_) (fun h0=>absurd h0 (show ¬ 0<e.D.length by omega))
   (repeat show _∧_;first|refine yr ?_|refine yt ?_|refine yf ?_|refine yo ?_)
   refine ⟨.a (.agg [.one (.w8 e.k),.one (.w64 e.t),.one (.slc none 0 0),.one (.slc none 0 0)]),[[.past W ms]],⟨[0],⟨rfl,rfl,rfl⟩,?_⟩,rfl,rfl⟩
   (repeat first|exact trivial|refine ent1 ?_)
set_option maxRecDepth 20000 in
set_option maxHeartbeats 8000000 in
theorem fn_ecl01 {W:World} {ms:List Nat} {x:EvC} {e:Ev} (h:EvAt W ms x e) (hn:e.N.length≤1000000) (hd:e.D.length≤1000000) (hz:e.N.length=0) (hy:0<e.D.length):FnR Tryd.prog tds 28 1 [[.past W ms]] [.agg (evS e x)] (fun _=>True)
  (fun y hs=>∃ c2:Nat,e.D.length≤c2∧y=.a (.agg [.one (.w8 e.k),.one (.w64 e.t),.one (.slc none 0 0),.one (.sl 1 0 0 e.D.length c2)])∧hs=[[.past W ms],lsC e.D c2]):=by
 have hN:=h.N
 have hD:=h.D
 have hn1:=h.nN
 have hn2:=h.nD
 obtain ⟨aN,nN,cN,aD,nD,cD⟩:=x
 dsimp only at hN hD hn1 hn2
 subst hn1; subst hn2
 refine fn_of_body tds_ok follows_ Tryd.func28 rfl (t:=.a (.agg (evS e ⟨aN,e.N.length,cN,aD,e.D.length,cD⟩))::anys (Tryd.f28.ntmps-1)) rfl (fun w r0 hr _=>?_)
 obtain ⟨x0,rfl⟩:=List.length_eq_one_iff.1 hr
 cases aN with
 | none =>
  (repeat show _∧_;first|refine yr ?_|refine yt ?_|refine yf ?_|refine yo ?_)
  cases aD with
  | none=>have:=hD.nil_.1; omega
  | some AD =>
  (repeat show _∧_;first|refine yr ?_|refine yt ?_|refine yf ?_|refine yo ?_)
  refine srcR (i:=0) (by rfl) hD ?_
  (repeat show _∧_;first|refine yr ?_|refine yt ?_|refine yf ?_|refine yo ?_)
  refine And.intro (show e.D.length*1≤140737488355328 by omega) ?_
  refine And.intro (fun h0=>absurd h0 (show ¬ e.D.length=0 by omega)) (fun h0 c2 hc2=>?_)
  (repeat show _∧_;first|refine yr ?_|refine yt ?_|refine yf ?_|refine yo ?_)
  refine ⟨.a (.agg [.one (.w8 e.k),.one (.w64 e.t),.one (.slc none 0 0),.one (.sl 1 0 0 e.D.length c2)]),[[.past W ms],lsC e.D c2],⟨[0,3],⟨rfl,rfl,rfl⟩,?_⟩,c2,hc2,rfl,rfl⟩
  (repeat first|exact trivial|refine ent1 ?_)
  exact ⟨fun j hj=>eqC_newB rfl,by (repeat first|exact trivial|refine ent1 ?_)⟩
 | some AN =>
  (repeat show _∧_;first|refine yr ?_|refine yt ?_|refine yf ?_|refine yo ?_)
  refine srcR (i:=0) (by rfl) hN ?_
  (repeat show _∧_;first|refine yr ?_|refine yt ?_|refine yf ?_|refine yo ?_)
  refine And.intro (show e.N.length*8≤140737488355328 by omega) ?_
  refine And.intro (fun _=>?_) (fun h0=>absurd h0 (show ¬ 0<e.N.length by omega))
  (repeat show _∧_;first|refine yr ?_|refine yt ?_|refine yf ?_|refine yo ?_)
  cases aD with
  | none=>have:=hD.nil_.1; omega
  | some AD =>
  (repeat show _∧_;first|refine yr ?_|refine yt ?_|refine yf ?_|refine yo ?_)
  refine srcR (i:=0) (by rfl) hD ?_
  (repeat show _∧_;first|refine yr ?_|refine yt ?_|refine yf ?_|refine yo ?_)
  refine And.intro (show e.D.length*1≤140737488355328 by omega) ?_
  refine And.intro (fun h0=>absurd h0 (show ¬ e.D.length=0 by omega)) (fun h0 c2 hc2=>?_)
  (repeat show _∧_;first|refine yr ?_|refine yt ?_|refine yf ?_|refine yo ?_)
  refine ⟨.a (.agg [.one (.w8 e.k),.one (.w64 e.t),.one (.slc none 0 0),.one (.sl 1 0 0 e.D.length c2)]),[[.past W ms],lsC e.D c2],⟨[0,3],⟨rfl,rfl,rfl⟩,?_⟩,c2,hc2,rfl,rfl⟩
  (repeat first|exact trivial|refine ent1 ?_)
  exact ⟨fun j hj=>eqC_newB rfl,by (repeat first|exact trivial|refine ent1 ?_)⟩
set_option maxRecDepth 20000 in
set_option maxHeartbeats 8000000 in
theorem fn_ecl10 {W:World} {ms:List Nat} {x:EvC} {e:Ev} (h:EvAt W ms x e) (hn:e.N.length≤1000000) (hd:e.D.length≤1000000) (hz:0<e.N.length) (hy:e.D.length=0):FnR Tryd.prog tds 28 1 [[.past W ms]] [.agg (evS e x)] (fun _=>True)
  (fun y hs=>∃ c1:Nat,e.N.length≤c1∧y=.a (.agg [.one (.w8 e.k),.one (.w64 e.t),.one (.sl 1 0 0 e.N.length c1),.one (.slc none 0 0)])∧hs=[[.past W ms],[.row c1 (numsF e.N)]]):=by
 have hN:=h.N
 have hD:=h.D
 have hn1:=h.nN
 have hn2:=h.nD
 obtain ⟨aN,nN,cN,aD,nD,cD⟩:=x
 dsimp only at hN hD hn1 hn2
 subst hn1; subst hn2
 refine fn_of_body tds_ok follows_ Tryd.func28 rfl (t:=.a (.agg (evS e ⟨aN,e.N.length,cN,aD,e.D.length,cD⟩))::anys (Tryd.f28.ntmps-1)) rfl (fun w r0 hr _=>?_)
 obtain ⟨x0,rfl⟩:=List.length_eq_one_iff.1 hr
 cases aN with
 | none=>have:=hN.nil_.1; omega
 | some AN =>
 (repeat show _∧_;first|refine yr ?_|refine yt ?_|refine yf ?_|refine yo ?_)
 refine srcR (i:=0) (by rfl) hN ?_
 (repeat show _∧_;first|refine yr ?_|refine yt ?_|refine yf ?_|refine yo ?_)
 refine And.intro (show e.N.length*8≤140737488355328 by omega) ?_
 refine And.intro (fun h0=>absurd h0 (show ¬ e.N.length=0 by omega)) (fun h0 c1 hc1=>?_)
 (repeat show _∧_;first|refine yr ?_|refine yt ?_|refine yf ?_|refine yo ?_)
 cases aD with
 | none =>
  (repeat show _∧_;first|refine yr ?_|refine yt ?_|refine yf ?_|refine yo ?_)
  refine ⟨.a (.agg [.one (.w8 e.k),.one (.w64 e.t),.one (.sl 1 0 0 e.N.length c1),.one (.slc none 0 0)]),[[.past W ms],[.row c1 (numsF e.N)]],⟨[0,3],⟨rfl,rfl,rfl⟩,?_⟩,c1,hc1,rfl,rfl⟩
  (repeat first|exact trivial|refine ent1 ?_)
  refine ⟨fun j hj=>eqC_newN rfl,?_⟩
  (repeat first|exact trivial|refine ent1 ?_)
 | some AD =>
  (repeat show _∧_;first|refine yr ?_|refine yt ?_|refine yf ?_|refine yo ?_)
  refine srcR (i:=0) (by rfl) hD ?_
  (repeat show _∧_;first|refine yr ?_|refine yt ?_|refine yf ?_|refine yo ?_)
  refine And.intro (show e.D.length*1≤140737488355328 by omega) ?_
  refine And.intro (fun _=>?_) (fun h0=>absurd h0 (show ¬ 0<e.D.length by omega))
  (repeat show _∧_;first|refine yr ?_|refine yt ?_|refine yf ?_|refine yo ?_)
  refine ⟨.a (.agg [.one (.w8 e.k),.one (.w64 e.t),.one (.sl 1 0 0 e.N.length c1),.one (.slc none 0 0)]),[[.past W ms],[.row c1 (numsF e.N)]],⟨[0,3],⟨rfl,rfl,rfl⟩,?_⟩,c1,hc1,rfl,rfl⟩
  (repeat first|exact trivial|refine ent1 ?_)
  refine ⟨fun j hj=>eqC_newN rfl,?_⟩
  (repeat first|exact trivial|refine ent1 ?_)
set_option maxRecDepth 20000 in
set_option maxHeartbeats 8000000 in
theorem fn_ecl11 {W:World} {ms:List Nat} {x:EvC} {e:Ev} (h:EvAt W ms x e) (hn:e.N.length≤1000000) (hd:e.D.length≤1000000) (hz:0<e.N.length) (hy:0<e.D.length):FnR Tryd.prog tds 28 1 [[.past W ms]] [.agg (evS e x)] (fun _=>True)
  (fun y hs=>∃ c1 c2:Nat,e.N.length≤c1∧e.D.length≤c2∧y=.a (.agg [.one (.w8 e.k),.one (.w64 e.t),.one (.sl 1 0 0 e.N.length c1),.one (.sl 2 0 0 e.D.length c2)])∧hs=[[.past W ms],[.row c1 (numsF e.N)],lsC e.D c2]):=by
 have hN:=h.N
 have hD:=h.D
 have hn1:=h.nN
 have hn2:=h.nD
 obtain ⟨aN,nN,cN,aD,nD,cD⟩:=x
 dsimp only at hN hD hn1 hn2
 subst hn1; subst hn2
 refine fn_of_body tds_ok follows_ Tryd.func28 rfl (t:=.a (.agg (evS e ⟨aN,e.N.length,cN,aD,e.D.length,cD⟩))::anys (Tryd.f28.ntmps-1)) rfl (fun w r0 hr _=>?_)
 obtain ⟨x0,rfl⟩:=List.length_eq_one_iff.1 hr
 cases aN with
 | none=>have:=hN.nil_.1; omega
 | some AN =>
 (repeat show _∧_;first|refine yr ?_|refine yt ?_|refine yf ?_|refine yo ?_)
 refine srcR (i:=0) (by rfl) hN ?_
 (repeat show _∧_;first|refine yr ?_|refine yt ?_|refine yf ?_|refine yo ?_)
 refine And.intro (show e.N.length*8≤140737488355328 by omega) ?_
 refine And.intro (fun h0=>absurd h0 (show ¬ e.N.length=0 by omega)) (fun h0 c1 hc1=>?_)
 (repeat show _∧_;first|refine yr ?_|refine yt ?_|refine yf ?_|refine yo ?_)
 cases aD with
 | none=>have:=hD.nil_.1; omega
 | some AD =>
 (repeat show _∧_;first|refine yr ?_|refine yt ?_|refine yf ?_|refine yo ?_)
 refine srcR (i:=0) (by rfl) hD ?_
 (repeat show _∧_;first|refine yr ?_|refine yt ?_|refine yf ?_|refine yo ?_)
 refine And.intro (show e.D.length*1≤140737488355328 by omega) ?_
 refine And.intro (fun h0=>absurd h0 (show ¬ e.D.length=0 by omega)) (fun h0 c2 hc2=>?_)
 (repeat show _∧_;first|refine yr ?_|refine yt ?_|refine yf ?_|refine yo ?_)
 refine ⟨.a (.agg [.one (.w8 e.k),.one (.w64 e.t),.one (.sl 1 0 0 e.N.length c1),.one (.sl 2 0 0 e.D.length c2)]),[[.past W ms],[.row c1 (numsF e.N)],lsC e.D c2],⟨[0,3,4],⟨rfl,rfl,rfl⟩,?_⟩,c1,c2,hc1,hc2,rfl,rfl⟩
 (repeat first|exact trivial|refine ent1 ?_)
 refine ⟨fun j hj=>eqC_newN rfl,?_⟩
 (repeat first|exact trivial|refine ent1 ?_)
 exact ⟨fun j hj=>eqC_newB rfl,by (repeat first|exact trivial|refine ent1 ?_)⟩
end Sx
end
end Go.Proofs.YtnehmcpkeamghaaDoor
