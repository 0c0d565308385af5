/-
  Texts of this claim, part 9: QjI, QjJ, QjK, QjO, QjP, QjV, QjW, QjT, QjU, QjX, EpH, QkH, EpI, JtL. No condition of its own.
-/
import Derived.Lib.LaidU8
import Derived.MakeChecks
import Derived.Test.YtnehmcpkeamghaaDoorG8
namespace Go.Proofs.YtnehmcpkeamghaaDoor
set_option linter.unusedVariables false
section
namespace Sx
open Go.RowKit Sha Vi Js Ev Qj

def PrtA (W:World) (ms:List Nat) (es:List Ev) (y:SV) (hs:List (List Seg)):Prop :=
 ∃ W' ms',Later W ms W' ms'∧hs=[[.past W' ms']]∧y=if prtM es=0 then .tup [.c (.str (U8 (put 4 (rootJ es)))),.c (.int .i64 0)] else .tup [.c (.str []),.c (.int .i64 (prtM es))]
abbrev lo0:List Seg:=[.one (.w8 5#8),.one (.w64 0#64),.one (.str []),.one (.slc none 0 0),.one (.slc none 0 0)]
abbrev lo1 (i n c:Nat):List Seg:=[.one (.w8 5#8),.one (.w64 0#64),.one (.str []),.one (.sl i 0 0 n c),.one (.slc none 0 0)]
def lstJ (es:List Ev):JT:=.mk 5#8 0#64 [] (es.map evJ) []
set_option maxRecDepth 20000 in
set_option maxHeartbeats 32000000 in
theorem fn_qprint {W:World} {ms:List Nat} {a:Option Addr} {n c:Nat} {es:List Ev} (hT:Tabs W ms) (h:EvsAt W ms a n c es) (hp:prtM es=0→norm 4 (rootJ es)∧(put 4 (rootJ es)).length≤70368744177664):FnR Tryd.prog tds 24 1 [[.past W ms]] [.c (.slc a n c)] (fun _=>True) (PrtA W ms es):=by
 refine fn_of_bodyW tds_ok follows_ Tryd.func24 rfl (t:=.a (.c (.slc a n c))::anys (Tryd.f24.ntmps-1)) rfl (fun w r0 hr0 _=>?_)
 obtain ⟨x0,rfl⟩:=len1' hr0
 have hl:=h.len
 have hle:=h.le
 have hcap:=h.cap
 by_cases hn:2048<n
 ·have e0:decide ((2048:Int)<(n:Int))=true:=decide_eq_true (by omega)
  have hP:prtM es=7:=by unfold prtM; rw [if_pos (by omega)]
  (repeat show _∧_;first|refine yr ?_|refine yt ?_|refine yf ?_|refine ya e0 ?_|refine yb e0 ?_|refine yo ?_)
  exact FinW.of ⟨.tup [.c (.str []),.c (.int .i64 7)],_,⟨[0],⟨rfl,rfl,rfl⟩,by (repeat first|exact trivial|refine ent1 ?_)⟩,W,ms,Later.refl _ _,rfl,by rw [hP]; rfl⟩
 have e0:decide ((2048:Int)<(n:Int))=false:=decide_eq_false (by omega)
 have hP0:prtM es=prtF es 0#64:=by unfold prtM; rw [if_neg (by omega)]
 (repeat show _∧_;first|refine yr ?_|refine yt ?_|refine yf ?_|refine ya e0 ?_|refine yb e0 ?_|refine yo ?_)
 refine .inl ⟨Nat × BitVec 64 × Option (List SC × Nat) × World × List Nat,fun y=>match y with
  | (j,t,none,W',ms')=>⟨[.a (.c (.slc a n c)),.any,.a (.c (.str ([]))),.a (.c (.int .i64 (0))),.a (.c (.p 1 0 0)),.a (.c (.w64 (t))),.any,.any,.any,.any,.any,.any,.any,.any,.any,.a (.c (.slc a n c)),.a (.c (.int .i64 (n))),.a (.c (.int .i64 (((j:Nat):Int)))),.any,.any,.any,.any,.any,.any,.any,.any,.any,.any,.any,.any,.any,.any,.any,.any,.any,.any,.any,.any,.any,.any,.any,.any,.any,.any,.any,.any,.any,.any,.any,.any,.any,.any,.any,.any,.any,.any,.any,.any],[[.past W' ms'],lo0]⟩
  | (j,t,some (cs,cc),W',ms')=>⟨[.a (.c (.slc a n c)),.any,.a (.c (.str ([]))),.a (.c (.int .i64 (0))),.a (.c (.p 1 0 0)),.a (.c (.w64 (t))),.any,.any,.any,.any,.any,.any,.any,.any,.any,.a (.c (.slc a n c)),.a (.c (.int .i64 (n))),.a (.c (.int .i64 (((j:Nat):Int)))),.any,.any,.any,.any,.any,.any,.any,.any,.any,.any,.any,.any,.any,.any,.any,.any,.any,.any,.any,.any,.any,.any,.any,.any,.any,.any,.any,.any,.any,.any,.any,.any,.any,.any,.any,.any,.any,.any,.any,.any],[[.past W' ms'],lo1 2 j cc,[.row (scale cc (4+1)) (nthC cs)]]⟩,
  fun y=>match y with
  | (j,t,none,W',ms')=>j=0∧t=0#64∧Later W ms W' ms'
  | (j,t,some (cs,cc),W',ms')=>0<j∧j≤n∧j≤cc∧Later W ms W' ms'∧prtM es=prtF (es.drop j) t∧RowJ W' ms' 2 cs ((es.take j).map evJ),fun y=>n-y.1,⟨(0,0#64,none,W,ms),[0,1],⟨⟨rfl,rfl,rfl⟩,by (repeat first|exact trivial|refine ent1 ?_)⟩,rfl,rfl,Later.refl _ _⟩,fun y hy=>?_⟩
 rcases y with ⟨j,t,_|⟨cs,cc⟩,W',ms'⟩
 ·obtain ⟨rfl,rfl,hL'⟩:=hy
  dsimp only
  have hPj:prtM es=prtF (es.drop 0) 0#64:=by rw [List.drop_zero]; exact hP0
  by_cases hj:0<n
  rotate_left
  ·have e1:decide (((0:Nat):Int)<(n:Int))=false:=decide_eq_false (by omega)
   have hP:prtM es=0:=by rw [hPj,List.drop_eq_nil_of_le (by omega)]; rfl
   obtain rfl:es=[]:=List.eq_nil_of_length_eq_zero (by omega)
   (repeat show _∧_;first|refine yr ?_|refine yt ?_|refine yf ?_|refine ya e1 ?_|refine yb e1 ?_|refine yo ?_)
   refine call_same (fn_qtext v03B) [] rfl (by exact And.intro rfl trivial) trivial (fun _ _=>trivial) ?_
   rintro y hs ⟨rfl,rfl⟩
   (repeat show _∧_;first|refine yr ?_|refine yt ?_|refine yf ?_|refine yo ?_)
   refine call_same (fn_qadd0 (tText v03B) jc0 verB) [2] rfl (by (repeat first|exact trivial|refine ent1 ?_)) (by (repeat first|exact trivial|refine ent1 ?_)) (fun _ _=>trivial) ?_
   rintro y hs ⟨c3,d3,hc3,hd3,rfl,rfl⟩
   (repeat show _∧_;first|refine yr ?_|refine yt ?_|refine yf ?_|refine yo ?_)
   refine call_same (fn_qadd1 (flat (jvS (tText v03B) jc0)) [verB] 1 c3 d3 (jv_raw _ _) rfl rfl hc3 hd3 (by decide) (lstJ []) jc0 evsB) [2,3,4] rfl (by (repeat first|exact trivial|refine ent1 ?_)) ?_ (fun _ _=>trivial) ?_
   ·(repeat first|exact trivial|refine ent1 ?_)
    refine ⟨fun j hj=>eqJ_csM (jv_raw _ _) j,?_⟩
    (repeat first|exact trivial|refine ent1 ?_)
    exact ⟨fun j hj=>eqJ_csM (nmL_raw _) j,by (repeat first|exact trivial|refine ent1 ?_)⟩
   rintro y hs ⟨c4,d4,hc4,hd4,rfl,rfl⟩
   (repeat show _∧_;first|refine yr ?_|refine yt ?_|refine yf ?_|refine yo ?_)
   obtain ⟨hn4,hp4⟩:=hp hP
   refine call_lendU [5,6] 0 [] rfl rfl (by (repeat first|exact trivial|refine ent1 ?_)) NoP.nil (fun _ _=>trivial) (fun W9 ms9 α hL9 hI=>⟨[.agg (jvS (rootJ []) ⟨some ((α 5).add (0+0)),2,c4,some ((α 6).add (0+0)),2,d4⟩)],?_,(fn_print (d:=4) (by decide) (hT.later (hL'.trans hL9)) ?_ hn4 hp4).mono (Res':=fun y hs=>y=.tup [.c (.str (U8 (put 4 (rootJ [])))),.c (.int .i64 0)]∧hs.drop 1=[]) (fun x hs hr=>⟨hr.1,by rw [hr.2]; rfl⟩)⟩) (fun x hs hr=>by rw [hr.2]; exact NoP.nil) ?_
   ·(repeat first|exact trivial|refine ent1 ?_)
   ·have hlst:TAt W9 ms9 3 (lstJ []) jc0:=TAt.leaf (v:=lstJ []) rfl rfl 3
    have hroot:RowJ W9 ms9 3 (flat (jvS (tText v03B) jc0)++flat (jvS (lstJ []) jc0)) [tText v03B,lstJ []]:=(RowJ.nil.snoc (v:=tText v03B) (x:=jc0) (TAt.leaf rfl rfl 3)).snoc hlst
    have hfn:=strs_frz (l:=[verB,evsB].map U8) (F:=fun j=>memB j [5,6]) (fun j hj=>mpJ_raw (nmL_raw _ _ (nthJ_mem (l:=nmJ [verB,evsB]) hj))) (fun hf=>(hI 6 rfl hf).1) (n:=2) rfl hd4 (by decide)
    have hrawF:∀ y∈flat (jvS (tText v03B) jc0)++flat (jvS (lstJ []) jc0),y.raw=y:=fun y hy=>(List.mem_append.1 hy).elim (jv_raw _ _ y) (jv_raw _ _ y)
    exact ⟨hroot.frz2 (F:=fun j=>memB j [5,6]) (fun j hj=>by simp only [mpJ_raw (hrawF _ (nthJ_mem hj)),rzJ_raw (hrawF _ (nthJ_mem hj))]) (fun hf=>⟨(hI 5 rfl hf).1,fun hm=>(hI 5 rfl hf).2 hm rfl⟩) marks_off (n:=2) rfl hc4 (by decide),hfn⟩
   ·rintro x hs ⟨rfl,hdrop⟩
    rw [hdrop]
    (repeat show _∧_;first|refine yr ?_|refine yt ?_|refine yf ?_|refine yo ?_)
    exact FinW.of ⟨.tup [.c (.str (U8 (put 4 (rootJ [])))),.c (.int .i64 0)],_,⟨[0],⟨rfl,rfl,rfl⟩,by (repeat first|exact trivial|refine ent1 ?_)⟩,W',ms',hL',rfl,by rw [if_pos hP]⟩
  have e1:decide (((0:Nat):Int)<(n:Int))=true:=decide_eq_true (by omega)
  obtain ⟨A,rfl⟩:∃ A,a=some A:=by
   cases a with
   | none=>exact absurd (h.nil rfl) (by omega)
   | some A=>exact ⟨A,rfl⟩
  have hjl:0<es.length:=by omega
  obtain ⟨x,him,hxe⟩:=(h.later hL').elt A rfl 0 (es[0]'hjl) (List.getElem?_eq_getElem hjl)
  have hlast:decide (((0:Nat):Int)+1=(n:Int))=(es.drop (0+1)).isEmpty:=by
   by_cases hz:0+1=n
   ·rw [List.drop_eq_nil_of_le (by omega)]; exact decide_eq_true (by omega)
   ·rw [List.drop_eq_getElem_cons (show 0+1<es.length by omega)]; exact decide_eq_false (by omega)
  have htk:(es.take (0+1)).map evJ=(es.take 0).map evJ++[evJ (es[0]'hjl)]:=by rw [List.take_add_one,List.getElem?_eq_getElem hjl,Option.toList_some,List.map_append]; rfl
  rw [List.drop_eq_getElem_cons hjl,prtF,← hlast] at hPj
  generalize (es[0]'hjl)=e at him hxe hPj htk
  (repeat show _∧_;first|refine yr ?_|refine yt ?_|refine yf ?_|refine ya e1 ?_|refine yb e1 ?_|refine yo ?_)
  refine ⟨evS e x,⟨.past (i:=0) rfl (by exact him),rfl⟩,?_⟩
  (repeat show _∧_;first|refine yr ?_|refine yt ?_|refine yf ?_|refine yo ?_)
  refine call_past (fn_qvalue hxe) 0 [] rfl rfl (by (repeat first|exact trivial|refine ent1 ?_)) (by (repeat first|exact trivial|refine ent1 ?_)) (fun _ _=>trivial) (fun x hs hr=>?_) ?_
  ·rcases hr with ⟨_,_,rfl⟩|⟨_,xj,W5,ms5,hL5,_,_,rfl⟩
   ·exact ⟨W',ms',rfl,Later.refl _ _⟩
   ·exact ⟨W5,ms5,rfl,hL5⟩
  rintro y hs (⟨hc0,rfl,rfl⟩|⟨hc0,xj,W5,ms5,hL5,hxj,rfl,rfl⟩)
  ·have f0:decide (checkM e=0)=false:=decide_eq_false hc0
   have f1:decide (checkM e≠0)=true:=decide_eq_true hc0
   rw [if_pos hc0] at hPj
   (repeat show _∧_;first|refine yr ?_|refine yt ?_|refine yf ?_|refine ya f0 ?_|refine yb f0 ?_|refine ya f1 ?_|refine yb f1 ?_|refine yo ?_)
   exact FinW.of ⟨.tup [.c (.str []),.c (.int .i64 (checkM e))],_,⟨[0],⟨rfl,rfl,rfl⟩,by (repeat first|exact trivial|refine ent1 ?_)⟩,W',ms',hL',rfl,by rw [hPj,if_neg hc0]⟩
  rw [if_neg (not_not_intro hc0)] at hPj
  (repeat show _∧_;first|refine yr ?_|refine yt ?_|refine yf ?_|refine yo ?_)
  refine call_same (fn_qfoll (W:=W5) (ms:=ms5) (x:=x) (e:=e) 0#64 (decide (((0:Nat):Int)+1=(n:Int)))) [0] rfl (by (repeat first|exact trivial|refine ent1 ?_)) (by (repeat first|exact trivial|refine ent1 ?_)) (fun _ _=>trivial) ?_
  rintro y hs ⟨rfl,rfl⟩
  by_cases hf:follM e 0#64 (decide (((0:Nat):Int)+1=(n:Int)))=0
  rotate_left
  ·have f1:decide (follM e 0#64 (decide (((0:Nat):Int)+1=(n:Int)))≠0)=true:=decide_eq_true hf
   rw [if_pos hf] at hPj
   (repeat show _∧_;first|refine yr ?_|refine yt ?_|refine yf ?_|refine ya f1 ?_|refine yb f1 ?_|refine yo ?_)
   exact FinW.of ⟨.tup [.c (.str []),.c (.int .i64 (follM e 0#64 (decide (((0:Nat):Int)+1=(n:Int)))))],_,⟨[0],⟨rfl,rfl,rfl⟩,by (repeat first|exact trivial|refine ent1 ?_)⟩,W5,ms5,hL'.trans hL5,rfl,by rw [hPj,if_neg hf]⟩
  have f1:decide (follM e 0#64 (decide (((0:Nat):Int)+1=(n:Int)))≠0)=false:=decide_eq_false (not_not_intro hf)
  rw [if_neg (not_not_intro hf)] at hPj
  (repeat show _∧_;first|refine yr ?_|refine yt ?_|refine yf ?_|refine ya f1 ?_|refine yb f1 ?_|refine yo ?_)
  refine And.intro (show 0+5≤5 by decide) ?_
  (repeat show _∧_;first|refine yr ?_|refine yt ?_|refine yf ?_|refine yo ?_)
  intro c2 hc2
  (repeat show _∧_;first|refine yr ?_|refine yt ?_|refine yf ?_|refine yo ?_)
  refine ⟨(1,e.t,some (flat (jvS (evJ e) xj),c2),W5,ms5),[0,1,5],⟨⟨rfl,rfl,rfl⟩,?_⟩,⟨Nat.zero_lt_one,hj,hc2,hL'.trans hL5,hPj,by rw [htk]; exact RowJ.nil.snoc hxj⟩,by dsimp only; omega⟩
  dsimp only
  (repeat first|exact trivial|refine ent1 ?_)
  exact ⟨fun j hj=>eqJ_cs (jv_raw _ _) (newJ_cs (m:=1) (sz:=4) rfl fun j hj=>updJ_new hj) j,by (repeat first|exact trivial|refine ent1 ?_)⟩
 ·obtain ⟨hj0,hjn,hjc,hL',hPj,hrow⟩:=hy
  dsimp only
  by_cases hj:j<n
  rotate_left
  ·have e1:decide (((j:Nat):Int)<(n:Int))=false:=decide_eq_false (by omega)
   have hP:prtM es=0:=by rw [hPj,List.drop_eq_nil_of_le (by omega)]; rfl
   obtain rfl:j=n:=by omega
   rw [List.take_of_length_le (by omega)] at hrow
   subst hl
   (repeat show _∧_;first|refine yr ?_|refine yt ?_|refine yf ?_|refine ya e1 ?_|refine yb e1 ?_|refine yo ?_)
   refine call_same (fn_qtext v03B) [] rfl (by exact And.intro rfl trivial) trivial (fun _ _=>trivial) ?_
   rintro y hs ⟨rfl,rfl⟩
   (repeat show _∧_;first|refine yr ?_|refine yt ?_|refine yf ?_|refine yo ?_)
   refine call_same (fn_qadd0 (tText v03B) jc0 verB) [3] rfl (by (repeat first|exact trivial|refine ent1 ?_)) (by (repeat first|exact trivial|refine ent1 ?_)) (fun _ _=>trivial) ?_
   rintro y hs ⟨c3,d3,hc3,hd3,rfl,rfl⟩
   (repeat show _∧_;first|refine yr ?_|refine yt ?_|refine yf ?_|refine yo ?_)
   refine call_same (fn_qadd3 (flat (jvS (tText v03B) jc0)) [verB] 1 c3 d3 (jv_raw _ _) rfl rfl hc3 hd3 (by decide) es.length cc (nthC cs) (scale cc (4+1)) (fun q j=>eqJ_cs hrow.raw (fun _ _=>rfl) j) evsB) [3,4,5,2] rfl (by (repeat first|exact trivial|refine ent1 ?_)) ?_ (fun _ _=>trivial) ?_
   ·(repeat first|exact trivial|refine ent1 ?_)
    refine ⟨fun j hj=>eqJ_csM (jv_raw _ _) j,?_⟩
    (repeat first|exact trivial|refine ent1 ?_)
    refine ⟨fun j hj=>eqJ_csM (nmL_raw _) j,?_⟩
    (repeat first|exact trivial|refine ent1 ?_)
    exact ⟨fun j hj=>eqJ_cs hrow.raw (fun _ _=>rfl) j,by (repeat first|exact trivial|refine ent1 ?_)⟩
   rintro y hs ⟨c4,d4,hc4,hd4,rfl,rfl⟩
   (repeat show _∧_;first|refine yr ?_|refine yt ?_|refine yf ?_|refine yo ?_)
   obtain ⟨hn4,hp4⟩:=hp hP
   refine call_lendU [6,7,2] 0 [] rfl rfl (by (repeat first|exact trivial|refine ent1 ?_)) NoP.nil (fun _ _=>trivial) (fun W9 ms9 α hL9 hI=>⟨[.agg (jvS (rootJ es) ⟨some ((α 6).add (0+0)),2,c4,some ((α 7).add (0+0)),2,d4⟩)],?_,(fn_print (d:=4) (by decide) (hT.later (hL'.trans hL9)) ?_ hn4 hp4).mono (Res':=fun y hs=>y=.tup [.c (.str (U8 (put 4 (rootJ es)))),.c (.int .i64 0)]∧hs.drop 1=[]) (fun x hs hr=>⟨hr.1,by rw [hr.2]; rfl⟩)⟩) (fun x hs hr=>by rw [hr.2]; exact NoP.nil) ?_
   ·(repeat first|exact trivial|refine ent1 ?_)
   ·have hlst:TAt W9 ms9 3 (lstJ es) ⟨some ((α 2).add (0+0)),es.length,cc,none,0,0⟩:=⟨(hrow.later hL9).frz2 (F:=fun j=>memB j [6,7,2]) (fun j hj=>by simp only [mpJ_raw (hrow.raw _ (nthJ_mem hj)),rzJ_raw (hrow.raw _ (nthJ_mem hj))]) (fun hf=>⟨(hI 2 rfl hf).1,fun hm=>(hI 2 rfl hf).2 hm rfl⟩) marks_off (n:=es.length) (by simp) hjc (by omega),(TAt.leaf (W:=W9) (ms:=ms9) (v:=lstJ []) rfl rfl 0).ns⟩
    have hroot:RowJ W9 ms9 3 (flat (jvS (tText v03B) jc0)++flat (jvS (lstJ es) ⟨some ((α 2).add (0+0)),es.length,cc,none,0,0⟩)) [tText v03B,lstJ es]:=(RowJ.nil.snoc (v:=tText v03B) (x:=jc0) (TAt.leaf rfl rfl 3)).snoc hlst
    have hfn:=strs_frz (l:=[verB,evsB].map U8) (F:=fun j=>memB j [6,7,2]) (fun j hj=>mpJ_raw (nmL_raw _ _ (nthJ_mem (l:=nmJ [verB,evsB]) hj))) (fun hf=>(hI 7 rfl hf).1) (n:=2) rfl hd4 (by decide)
    refine ⟨hroot.frz2 (F:=fun j=>memB j [6,7,2]) (fun j hj=>rz_app (g:=bk 6 [3,4,5,2]) (D:=[.w8 5#8,.w64 0#64,.str [],.sl 3 0 0 es.length cc,.slc none 0 0]) (E:=flat (jvS (lstJ es) ⟨some ((α 2).add (0+0)),es.length,cc,none,0,0⟩)) (jv_raw (tText v03B) jc0) rfl (fun i hi=>?_) j hj) (fun hf=>⟨(hI 6 rfl hf).1,fun hm=>(hI 6 rfl hf).2 hm rfl⟩) marks_off (n:=2) rfl hc4 (by decide),hfn⟩
    match i,hi with
    | 0,_=>rfl
    | 1,_=>rfl
    | 2,_=>rfl
    | 3,_=>rfl
    | 4,_=>rfl
   ·rintro x hs ⟨rfl,hdrop⟩
    rw [hdrop]
    (repeat show _∧_;first|refine yr ?_|refine yt ?_|refine yf ?_|refine yo ?_)
    exact FinW.of ⟨.tup [.c (.str (U8 (put 4 (rootJ es)))),.c (.int .i64 0)],_,⟨[0],⟨rfl,rfl,rfl⟩,by (repeat first|exact trivial|refine ent1 ?_)⟩,W',ms',hL',rfl,by rw [if_pos hP]⟩
  have e1:decide (((j:Nat):Int)<(n:Int))=true:=decide_eq_true (by omega)
  obtain ⟨A,rfl⟩:∃ A,a=some A:=by
   cases a with
   | none=>exact absurd (h.nil rfl) (by omega)
   | some A=>exact ⟨A,rfl⟩
  have hjl:j<es.length:=by omega
  obtain ⟨x,him,hxe⟩:=(h.later hL').elt A rfl j (es[j]'hjl) (List.getElem?_eq_getElem hjl)
  have hlast:decide (((j:Nat):Int)+1=(n:Int))=(es.drop (j+1)).isEmpty:=by
   by_cases hz:j+1=n
   ·rw [List.drop_eq_nil_of_le (by omega)]; exact decide_eq_true (by omega)
   ·rw [List.drop_eq_getElem_cons (show j+1<es.length by omega)]; exact decide_eq_false (by omega)
  have htk:(es.take (j+1)).map evJ=(es.take j).map evJ++[evJ (es[j]'hjl)]:=by rw [List.take_add_one,List.getElem?_eq_getElem hjl,Option.toList_some,List.map_append]; rfl
  rw [List.drop_eq_getElem_cons hjl,prtF,← hlast] at hPj
  generalize (es[j]'hjl)=e at him hxe hPj htk
  (repeat show _∧_;first|refine yr ?_|refine yt ?_|refine yf ?_|refine ya e1 ?_|refine yb e1 ?_|refine yo ?_)
  refine ⟨evS e x,⟨.past (i:=0) rfl (by exact him),rfl⟩,?_⟩
  (repeat show _∧_;first|refine yr ?_|refine yt ?_|refine yf ?_|refine yo ?_)
  refine call_past (fn_qvalue hxe) 0 [] rfl rfl (by (repeat first|exact trivial|refine ent1 ?_)) (by (repeat first|exact trivial|refine ent1 ?_)) (fun _ _=>trivial) (fun x hs hr=>?_) ?_
  ·rcases hr with ⟨_,_,rfl⟩|⟨_,xj,W5,ms5,hL5,_,_,rfl⟩
   ·exact ⟨W',ms',rfl,Later.refl _ _⟩
   ·exact ⟨W5,ms5,rfl,hL5⟩
  rintro y hs (⟨hc0,rfl,rfl⟩|⟨hc0,xj,W5,ms5,hL5,hxj,rfl,rfl⟩)
  ·have f0:decide (checkM e=0)=false:=decide_eq_false hc0
   have f1:decide (checkM e≠0)=true:=decide_eq_true hc0
   rw [if_pos hc0] at hPj
   (repeat show _∧_;first|refine yr ?_|refine yt ?_|refine yf ?_|refine ya f0 ?_|refine yb f0 ?_|refine ya f1 ?_|refine yb f1 ?_|refine yo ?_)
   exact FinW.of ⟨.tup [.c (.str []),.c (.int .i64 (checkM e))],_,⟨[0],⟨rfl,rfl,rfl⟩,by (repeat first|exact trivial|refine ent1 ?_)⟩,W',ms',hL',rfl,by rw [hPj,if_neg hc0]⟩
  rw [if_neg (not_not_intro hc0)] at hPj
  (repeat show _∧_;first|refine yr ?_|refine yt ?_|refine yf ?_|refine yo ?_)
  refine call_same (fn_qfoll (W:=W5) (ms:=ms5) (x:=x) (e:=e) t (decide (((j:Nat):Int)+1=(n:Int)))) [0] rfl (by (repeat first|exact trivial|refine ent1 ?_)) (by (repeat first|exact trivial|refine ent1 ?_)) (fun _ _=>trivial) ?_
  rintro y hs ⟨rfl,rfl⟩
  by_cases hf:follM e t (decide (((j:Nat):Int)+1=(n:Int)))=0
  rotate_left
  ·have f1:decide (follM e t (decide (((j:Nat):Int)+1=(n:Int)))≠0)=true:=decide_eq_true hf
   rw [if_pos hf] at hPj
   (repeat show _∧_;first|refine yr ?_|refine yt ?_|refine yf ?_|refine ya f1 ?_|refine yb f1 ?_|refine yo ?_)
   exact FinW.of ⟨.tup [.c (.str []),.c (.int .i64 (follM e t (decide (((j:Nat):Int)+1=(n:Int)))))],_,⟨[0],⟨rfl,rfl,rfl⟩,by (repeat first|exact trivial|refine ent1 ?_)⟩,W5,ms5,hL'.trans hL5,rfl,by rw [hPj,if_neg hf]⟩
  have f1:decide (follM e t (decide (((j:Nat):Int)+1=(n:Int)))≠0)=false:=decide_eq_false (not_not_intro hf)
  rw [if_neg (not_not_intro hf)] at hPj
  (repeat show _∧_;first|refine yr ?_|refine yt ?_|refine yf ?_|refine ya f1 ?_|refine yb f1 ?_|refine yo ?_)
  refine And.intro (show 0+5≤5 by decide) ?_
  refine And.intro (show 0+scale 1 (4+1)≤5 by decide) ?_
  refine And.intro ⟨hjc,by rw [sc5]; omega,show (j+1)*80≤140737488355328 by omega⟩ ?_
  intro c2 hc2
  (repeat show _∧_;first|refine yr ?_|refine yt ?_|refine yf ?_|refine yo ?_)
  have hrl:cs.length=j*5:=by have:=hrow.len; rw [List.length_map,List.length_take] at this; omega
  have hrw:RowJ W5 ms5 2 (cs++flat (jvS (evJ e) xj)) ((es.take (j+1)).map evJ):=by rw [htk]; exact (hrow.later hL5).snoc hxj
  refine ⟨(j+1,e.t,some (cs++flat (jvS (evJ e) xj),c2),W5,ms5),[0,1,6],⟨⟨rfl,rfl,rfl⟩,?_⟩,⟨by omega,hj,hc2,hL'.trans hL5,hPj,hrw⟩,by dsimp only; omega⟩
  dsimp only
  (repeat first|exact trivial|refine ent1 ?_)
  exact ⟨fun j hj=>eqJ_cs hrw.raw (appJ_cs (m:=1) (sz:=4) (by rw [hrl]) (fun _ _=>rfl) rfl fun j hj=>updJ_new hj) j,by (repeat first|exact trivial|refine ent1 ?_)⟩
end Sx
end
section
namespace Qj
open Sha Vi Js Ev
def preE (d:List Ev):List Ev ⊕ Int→List Ev ⊕ Int
 | .inl es=>.inl (d++es)
 | .inr e=>.inr e
theorem evsF_step {x:JT} {l:List JT} {t:BitVec 64} {e:Ev} (d:List Ev) (h:evOf x=.inl e) (hf:follM e t l.isEmpty=0):preE d (evsF (x::l) t)=preE (d++[e]) (evsF l e.t):=by
 rw [evsF,h]
 dsimp only
 rw [if_pos hf]
 cases evsF l e.t with
 | inl es=>simp [preE]
 | inr c=>rfl
theorem evsF_bad {x:JT} {l:List JT} {t:BitVec 64} {c:Int} (d:List Ev) (h:evOf x=.inr c):preE d (evsF (x::l) t)=.inr c:=by
 rw [evsF,h]
 rfl
theorem evsF_fol {x:JT} {l:List JT} {t:BitVec 64} {e:Ev} (d:List Ev) (h:evOf x=.inl e) (hf:follM e t l.isEmpty≠0):preE d (evsF (x::l) t)=.inr (follM e t l.isEmpty):=by
 rw [evsF,h]
 dsimp only
 rw [if_neg hf]
 rfl
theorem evsF_pre (l:List JT) (t:BitVec 64):preE [] (evsF l t)=evsF l t:=by
 cases evsF l t <;> rfl
theorem parse_no {s:Bs} {v:JT} (hp:parse s=.ok v []) (h:hasJ v 2=false∨idxN verB v.ns=none∨memJ v evsB 5#8=none):parseM s=.inr 4:=by
 unfold parseM
 rw [hp]
 dsimp only
 rcases h with h|h|h
 ·split
  ·rw [if_pos h]
  ·rfl
 ·rw [h]
 ·rw [h]
  split
  ·rename_i h2; cases h2
  ·rfl
end Qj
namespace Sx
open Go.RowKit Sha Vi Js Ev Qj

def PrsA (W:World) (ms:List Nat) (o:List Ev ⊕ Int) (y:SV) (hs:List (List Seg)):Prop:=match o with
 | .inr e=>e≠0∧∃ W' ms',Later W ms W' ms'∧y=.tup [.c (.slc none 0 0),.c (.int .i64 e)]∧hs=[[.past W' ms']]
 | .inl es=>∃ a n c W' ms',Later W ms W' ms'∧EvsAt W' ms' a n c es∧y=.tup [.c (.slc a n c),.c (.int .i64 0)]∧hs=[[.past W' ms']]
set_option maxRecDepth 20000 in
set_option maxHeartbeats 32000000 in
theorem fn_qparse {W:World} {ms:List Nat} (hT:Tabs W ms) (s:Bs) (hs0:s.length≤4611686018427387904) (hSh:∀ v y,parse s=.ok v []→memJ v evsB 5#8=some y→∀ z∈y.l,Shrt 4194304 2 z):FnR Tryd.prog tds 25 1 [[.past W ms]] [.c (.str (U8 s))] (fun _=>True) (PrsA W ms (parseM s)):=by
 refine fn_of_bodyW tds_ok follows_ Tryd.func25 rfl (t:=.a (.c (.str (U8 s)))::anys (Tryd.f25.ntmps-1)) rfl (fun w r0 hr0 _=>?_)
 obtain ⟨x0,rfl⟩:=len1' hr0
 (repeat show _∧_;first|refine yr ?_|refine yt ?_|refine yf ?_|refine yo ?_)
 refine call_past (fn_parse hT s hs0) 0 [] rfl rfl (by (repeat first|exact trivial|refine ent1 ?_)) (by (repeat first|exact trivial|refine ent1 ?_)) (fun _ _=>trivial) (fun x hs hr=>?_) ?_
 ·rcases hr with ⟨_,_,W5,ms5,_,hL5,_,_,rfl⟩|⟨_,_,W5,ms5,_,_,_,hL5,_,rfl⟩
  ·exact ⟨W5,ms5,rfl,hL5⟩
  ·exact ⟨W5,ms5,rfl,hL5⟩
 rintro y hs (⟨v,x,W1,ms1,hp,hL1,hx,rfl,rfl⟩|⟨e,k,W1,ms1,hp,he,hk,hL1,rfl,rfl⟩)
 rotate_left
 ·have hM:parseM s=.inr e:=by unfold parseM; rw [hp]
  have k1:decide (e≠0)=true:=decide_eq_true he
  rw [hM]
  (repeat show _∧_;first|refine yr ?_|refine yt ?_|refine yf ?_|refine yt ?_ (by first|decide|(rw[k1];decide))|refine yf ?_ (by first|decide|(rw[k1];decide))|refine yo ?_)
  (repeat show _∧_;first|refine yr ?_|refine yt ?_|refine yf ?_|refine yo ?_)
  exact FinW.of ⟨.tup [.c (.slc none 0 0),.c (.int .i64 e)],_,⟨[0],⟨rfl,rfl,rfl⟩,by (repeat first|exact trivial|refine ent1 ?_)⟩,he,W1,ms1,hL1,rfl,rfl⟩
 have hxl:=hx.len
 (repeat show _∧_;first|refine yr ?_|refine yt ?_|refine yf ?_|refine yo ?_)
 (repeat show _∧_;first|refine yr ?_|refine yt ?_|refine yf ?_|refine yo ?_)
 refine call_same (fn_index hx.ns verB) [0] rfl (by (repeat first|exact trivial|refine ent1 ?_)) (by (repeat first|exact trivial|refine ent1 ?_)) (fun _ _=>trivial) ?_
 rintro y hs ⟨rfl,rfl⟩
 (repeat show _∧_;first|refine yr ?_|refine yt ?_|refine yf ?_|refine yo ?_)
 refine call_same (fn_qmember hx evsB 5#8) [0] rfl (by (repeat first|exact trivial|refine ent1 ?_)) (by (repeat first|exact trivial|refine ent1 ?_)) (fun _ _=>trivial) ?_
 intro y hs h
 obtain ⟨rfl,v1,x1,b1,rfl,h1,h1'⟩:=h.gen
 clear h
 (repeat show _∧_;first|refine yr ?_|refine yt ?_|refine yf ?_|refine yo ?_)
 refine call_same (fn_qhas hx 2) [0] rfl (by (repeat first|exact trivial|refine ent1 ?_)) (by (repeat first|exact trivial|refine ent1 ?_)) (fun _ _=>trivial) ?_
 rintro y hs ⟨rfl,rfl⟩
 cases hh:hasJ v 2
 ·rw [parse_no hp (.inl hh)]
  (repeat show _∧_;first|refine yr ?_|refine yt ?_|refine yf ?_|refine yo ?_)
  (repeat show _∧_;first|refine yr ?_|refine yt ?_|refine yf ?_|refine yo ?_)
  exact FinW.of ⟨.tup [.c (.slc none 0 0),.c (.int .i64 4)],_,⟨[0],⟨rfl,rfl,rfl⟩,by (repeat first|exact trivial|refine ent1 ?_)⟩,by decide,W1,ms1,hL1,rfl,rfl⟩
 cases hI:idxN verB v.ns with
 | none =>
  rw [parse_no hp (.inr (.inl hI))]
  have e0:decide (idxI none<0)=true:=rfl
  (repeat show _∧_;first|refine yr ?_|refine yt ?_|refine yf ?_|refine yt ?_ (by first|decide|(rw[e0];decide))|refine yf ?_ (by first|decide|(rw[e0];decide))|refine yo ?_)
  (repeat show _∧_;first|refine yr ?_|refine yt ?_|refine yf ?_|refine yo ?_)
  exact FinW.of ⟨.tup [.c (.slc none 0 0),.c (.int .i64 4)],_,⟨[0],⟨rfl,rfl,rfl⟩,by (repeat first|exact trivial|refine ent1 ?_)⟩,by decide,W1,ms1,hL1,rfl,rfl⟩
 | some i =>
 rw [show idxI (some i)=(i:Int) from rfl]
 have e0:decide ((i:Int)<0)=false:=decide_eq_false (by omega)
 cases b1
 ·rw [parse_no hp (.inr (.inr (h1' rfl)))]
  (repeat show _∧_;first|refine yr ?_|refine yt ?_|refine yf ?_|refine yt ?_ (by first|decide|(rw[e0];decide))|refine yf ?_ (by first|decide|(rw[e0];decide))|refine yo ?_)
  (repeat show _∧_;first|refine yr ?_|refine yt ?_|refine yf ?_|refine yo ?_)
  exact FinW.of ⟨.tup [.c (.slc none 0 0),.c (.int .i64 4)],_,⟨[0],⟨rfl,rfl,rfl⟩,by (repeat first|exact trivial|refine ent1 ?_)⟩,by decide,W1,ms1,hL1,rfl,rfl⟩
 obtain ⟨m1,t1⟩:=h1 rfl
 have hin:=idxN_lt hI
 have hvl:v.l.length=2∧v.ns.length=2:=by
  unfold hasJ at hh
  simp only [Bool.and_eq_true,decide_eq_true_eq] at hh
  exact ⟨hh.2.2,hh.2.1⟩
 have hi:i<v.l.length:=by omega
 obtain ⟨A,xv,hA,him,y1,y2⟩:=hx.elt hi
 have hM:parseM s=if v.l[i].k=4#8∧v.l[i].s=v03B then if 2048<v1.l.length then .inr 7 else evsF v1.l 0#64 else .inr 12:=by
  unfold parseM
  rw [hp]
  dsimp only
  rw [hI,m1]
  dsimp only
  rw [hh,if_neg (by decide),List.getElem?_eq_getElem hi]
 have hSh2:=hSh v v1 hp m1
 obtain ⟨xa,xm,xc,xb,xp,xq⟩:=x
 dsimp only at hA him hxl
 subst hA
 generalize v.l[i]=u at y1 y2 hM
 (repeat show _∧_;first|refine yr ?_|refine yt ?_|refine yf ?_|refine yt ?_ (by first|decide|(rw[e0];decide))|refine yf ?_ (by first|decide|(rw[e0];decide))|refine yo ?_)
 (repeat show _∧_;first|refine yr ?_|refine yt ?_|refine yf ?_|refine yt ?_ (by first|decide|(rw[e0];decide))|refine yf ?_ (by first|decide|(rw[e0];decide))|refine yo ?_)
 (repeat show _∧_;first|refine yr ?_|refine yt ?_|refine yf ?_|refine yo ?_)
 refine And.intro (show (0:Int)≤(i:Int)∧(i:Int)<(xm:Int) by omega) ?_
 refine ⟨jvS u xv,⟨.past (i:=0) rfl (by exact y1),rfl⟩,?_⟩
 by_cases k4:u.k=4#8
 rotate_left
 ·have f4:decide (u.k≠4#8)=true:=decide_eq_true k4
  rw [if_neg (fun h=>k4 h.1)] at hM
  rw [hM]
  (repeat show _∧_;first|refine yr ?_|refine yt ?_|refine yf ?_|refine yt ?_ (by first|decide|(rw[f4];decide))|refine yf ?_ (by first|decide|(rw[f4];decide))|refine yo ?_)
  (repeat show _∧_;first|refine yr ?_|refine yt ?_|refine yf ?_|refine yt ?_ (by first|decide|(rw[f4];decide))|refine yf ?_ (by first|decide|(rw[f4];decide))|refine yo ?_)
  exact FinW.of ⟨.tup [.c (.slc none 0 0),.c (.int .i64 12)],_,⟨[0],⟨rfl,rfl,rfl⟩,by (repeat first|exact trivial|refine ent1 ?_)⟩,by decide,W1,ms1,hL1,rfl,rfl⟩
 have f4:decide (u.k≠4#8)=false:=decide_eq_false (not_not_intro k4)
 (repeat show _∧_;first|refine yr ?_|refine yt ?_|refine yf ?_|refine yt ?_ (by first|decide|(rw[f4];decide))|refine yf ?_ (by first|decide|(rw[f4];decide))|refine yo ?_)
 (repeat show _∧_;first|refine yr ?_|refine yt ?_|refine yf ?_|refine yt ?_ (by first|decide|(rw[f4];decide))|refine yf ?_ (by first|decide|(rw[f4];decide))|refine yo ?_)
 by_cases k5:u.s=v03B
 rotate_left
 ·have f5:decide (U8 u.s≠[48,46,51])=true:=decide_eq_true (fun e=>k5 (U8_inj (e.trans (by decide))))
  have f6:decide (U8 u.s=[48,46,51])=false:=decide_eq_false (fun e=>k5 (U8_inj (e.trans (by decide))))
  rw [if_neg (fun h=>k5 h.2)] at hM
  rw [hM]
  (repeat show _∧_;first|refine yr ?_|refine yt ?_|refine yf ?_|refine yt ?_ (by first|decide|(rw[f5];decide)|(rw[f6];decide))|refine yf ?_ (by first|decide|(rw[f5];decide)|(rw[f6];decide))|refine yo ?_)
  (repeat show _∧_;first|refine yr ?_|refine yt ?_|refine yf ?_|refine yt ?_ (by first|decide|(rw[f5];decide)|(rw[f6];decide))|refine yf ?_ (by first|decide|(rw[f5];decide)|(rw[f6];decide))|refine yo ?_)
  exact FinW.of ⟨.tup [.c (.slc none 0 0),.c (.int .i64 12)],_,⟨[0],⟨rfl,rfl,rfl⟩,by (repeat first|exact trivial|refine ent1 ?_)⟩,by decide,W1,ms1,hL1,rfl,rfl⟩
 have f5:decide (U8 u.s≠[48,46,51])=false:=decide_eq_false (not_not_intro (by rw [k5]; decide))
 have f6:decide (U8 u.s=[48,46,51])=true:=decide_eq_true (by rw [k5]; decide)
 rw [if_pos ⟨k4,k5⟩] at hM
 (repeat show _∧_;first|refine yr ?_|refine yt ?_|refine yf ?_|refine yt ?_ (by first|decide|(rw[f5];decide)|(rw[f6];decide))|refine yf ?_ (by first|decide|(rw[f5];decide)|(rw[f6];decide))|refine yo ?_)
 obtain ⟨ya,ym,yc,yb,yp,yq⟩:=x1
 have hyl:=t1.len
 dsimp only at hyl
 have hcap:=t1.1.2.2.1
 dsimp only at hcap
 by_cases hn:2048<ym
 ·have k7:decide ((2048:Int)<(ym:Int))=true:=decide_eq_true (by omega)
  rw [if_pos (by omega)] at hM
  rw [hM]
  (repeat show _∧_;first|refine yr ?_|refine yt ?_|refine yf ?_|refine yt ?_ (by first|decide|(rw[k7];decide))|refine yf ?_ (by first|decide|(rw[k7];decide))|refine yo ?_)
  (repeat show _∧_;first|refine yr ?_|refine yt ?_|refine yf ?_|refine yt ?_ (by first|decide|(rw[k7];decide))|refine yf ?_ (by first|decide|(rw[k7];decide))|refine yo ?_)
  exact FinW.of ⟨.tup [.c (.slc none 0 0),.c (.int .i64 7)],_,⟨[0],⟨rfl,rfl,rfl⟩,by (repeat first|exact trivial|refine ent1 ?_)⟩,by decide,W1,ms1,hL1,rfl,rfl⟩
 have k7:decide ((2048:Int)<(ym:Int))=false:=decide_eq_false (by omega)
 rw [if_neg (by omega)] at hM
 (repeat show _∧_;first|refine yr ?_|refine yt ?_|refine yf ?_|refine yt ?_ (by first|decide|(rw[k7];decide))|refine yf ?_ (by first|decide|(rw[k7];decide))|refine yo ?_)
 (repeat show _∧_;first|refine yr ?_|refine yt ?_|refine yf ?_|refine yt ?_ (by first|decide|(rw[k7];decide))|refine yf ?_ (by first|decide|(rw[k7];decide))|refine yo ?_)
 refine .inl ⟨Nat × BitVec 64 × Option (List Ev × List SC × Nat) × World × List Nat,fun y=>match y with
  | (j,t,none,W',ms')=>⟨[.any,.any,.any,.any,.any,.any,.any,.any,.a (.c (.p 1 0 0)),.any,.any,.a (.c (.slc none 0 0)),.a (.c (.w64 (t))),.any,.any,.any,.any,.any,.any,.any,.any,.any,.any,.any,.any,.any,.any,.any,.any,.any,.any,.any,.any,.any,.any,.any,.any,.any,.any,.any,.any,.any,.any,.any,.any,.any,.any,.any,.any,.any,.any,.any,.any,.any,.any,.any,.any,.any,.any,.any,.any,.any,.any,.a (.c (.slc ya ym yc)),.a (.c (.int .i64 (ym))),.a (.c (.int .i64 (((j:Nat):Int)))),.any,.any,.any,.any,.any,.any,.any,.any,.any,.any,.any,.any,.any,.any,.any,.any,.any,.any,.any,.any,.any,.any,.any,.any,.any,.any,.any,.any,.any,.any,.any],[[.past W' ms'],jvS v1 ⟨ya,ym,yc,yb,yp,yq⟩]⟩
  | (j,t,some (done,cs,cc),W',ms')=>⟨[.any,.any,.any,.any,.any,.any,.any,.any,.a (.c (.p 1 0 0)),.any,.any,.a (.c (.sl 2 0 0 j cc)),.a (.c (.w64 (t))),.any,.any,.any,.any,.any,.any,.any,.any,.any,.any,.any,.any,.any,.any,.any,.any,.any,.any,.any,.any,.any,.any,.any,.any,.any,.any,.any,.any,.any,.any,.any,.any,.any,.any,.any,.any,.any,.any,.any,.any,.any,.any,.any,.any,.any,.any,.any,.any,.any,.any,.a (.c (.slc ya ym yc)),.a (.c (.int .i64 (ym))),.a (.c (.int .i64 (((j:Nat):Int)))),.any,.any,.any,.any,.any,.any,.any,.any,.any,.any,.any,.any,.any,.any,.any,.any,.any,.any,.any,.any,.any,.any,.any,.any,.any,.any,.any,.any,.any,.any,.any],[[.past W' ms'],jvS v1 ⟨ya,ym,yc,yb,yp,yq⟩,[.row (scale cc (3+1)) (nthC cs)]]⟩,
  fun y=>match y with
  | (j,t,none,W',ms')=>j=0∧t=0#64∧Later W1 ms1 W' ms'
  | (j,t,some (done,cs,cc),W',ms')=>0<j∧j≤ym∧j≤cc∧done.length=j∧Later W1 ms1 W' ms'∧parseM s=preE done (evsF (v1.l.drop j) t)∧RowAt W' ms' cs done,fun y=>ym-y.1,⟨(0,0#64,none,W1,ms1),[0,2],⟨⟨rfl,rfl,rfl⟩,by (repeat first|exact trivial|refine ent1 ?_)⟩,rfl,rfl,Later.refl _ _⟩,fun y hy=>?_⟩
 rcases y with ⟨j,t,_|⟨done,cs,cc⟩,W',ms'⟩
 ·obtain ⟨rfl,rfl,hL'⟩:=hy
  dsimp only
  have hPj:parseM s=preE [] (evsF (v1.l.drop 0) 0#64):=by rw [List.drop_zero,evsF_pre]; exact hM
  by_cases hj:0<ym
  rotate_left
  ·have e1:decide (((0:Nat):Int)<(ym:Int))=false:=decide_eq_false (by omega)
   have hP:parseM s=.inl []:=by rw [hPj,List.drop_eq_nil_of_le (by omega)]; simp [evsF,preE]
   rw [hP]
   (repeat show _∧_;first|refine yr ?_|refine yt ?_|refine yf ?_|refine yt ?_ (by first|decide|(rw[e1];decide))|refine yf ?_ (by first|decide|(rw[e1];decide))|refine yo ?_)
   exact FinW.of ⟨.tup [.c (.slc none 0 0),.c (.int .i64 0)],_,⟨[0],⟨rfl,rfl,rfl⟩,by (repeat first|exact trivial|refine ent1 ?_)⟩,none,0,0,W',ms',hL1.trans hL',EvsAt.nul,rfl,rfl⟩
  have e1:decide (((0:Nat):Int)<(ym:Int))=true:=decide_eq_true (by omega)
  have hjl:0<v1.l.length:=by omega
  obtain ⟨B,xz,hB,him2,z1,z2⟩:=(t1.later hL').elt hjl
  dsimp only at hB him2
  subst hB
  have hzS:=hSh2 _ (List.getElem_mem hjl)
  have hlast:decide (((0:Nat):Int)+1=(ym:Int))=(v1.l.drop (0+1)).isEmpty:=by
   by_cases hz:0+1=ym
   ·rw [List.drop_eq_nil_of_le (by omega)]; exact decide_eq_true (by omega)
   ·rw [List.drop_eq_getElem_cons (show 0+1<v1.l.length by omega)]; exact decide_eq_false (by omega)
  rw [List.drop_eq_getElem_cons hjl] at hPj
  generalize (v1.l[0]'hjl)=z at z1 z2 hzS hPj
  (repeat show _∧_;first|refine yr ?_|refine yt ?_|refine yf ?_|refine yt ?_ (by first|decide|(rw[e1];decide))|refine yf ?_ (by first|decide|(rw[e1];decide))|refine yo ?_)
  refine ⟨jvS z xz,⟨.past (i:=0) rfl (by exact z1),rfl⟩,?_⟩
  (repeat show _∧_;first|refine yr ?_|refine yt ?_|refine yf ?_|refine yo ?_)
  refine call_past (fn_qevent (d:=4) z2 hzS) 0 [] rfl rfl (by (repeat first|exact trivial|refine ent1 ?_)) (by (repeat first|exact trivial|refine ent1 ?_)) (fun _ _=>trivial) (fun x hs hr=>?_) ?_
  ·unfold EvA at hr
   split at hr
   ·obtain ⟨_,W5,ms5,hL5,_,rfl⟩:=hr
    exact ⟨W5,ms5,rfl,hL5⟩
   ·obtain ⟨_,W5,ms5,hL5,_,_,rfl⟩:=hr
    exact ⟨W5,ms5,rfl,hL5⟩
  intro y hs hr
  cases hE:evOf z with
  | inr c =>
   rw [hE] at hr
   obtain ⟨hc0,W5,ms5,hL5,rfl,rfl⟩:=hr
   have f0:decide (c=0)=false:=decide_eq_false hc0
   have f1:decide (c≠0)=true:=decide_eq_true hc0
   rw [evsF_bad _ hE] at hPj
   rw [hPj]
   (repeat show _∧_;first|refine yr ?_|refine yt ?_|refine yf ?_|refine yt ?_ (by first|decide|(rw[f0];decide)|(rw[f1];decide))|refine yf ?_ (by first|decide|(rw[f0];decide)|(rw[f1];decide))|refine yo ?_)
   (repeat show _∧_;first|refine yr ?_|refine yt ?_|refine yf ?_|refine yt ?_ (by first|decide|(rw[f0];decide)|(rw[f1];decide))|refine yf ?_ (by first|decide|(rw[f0];decide)|(rw[f1];decide))|refine yo ?_)
   exact FinW.of ⟨.tup [.c (.slc none 0 0),.c (.int .i64 c)],_,⟨[0],⟨rfl,rfl,rfl⟩,by (repeat first|exact trivial|refine ent1 ?_)⟩,hc0,W5,ms5,(hL1.trans hL').trans hL5,rfl,rfl⟩
  | inl e =>
  rw [hE] at hr
  obtain ⟨x,W5,ms5,hL5,hxe,rfl,rfl⟩:=hr
  (repeat show _∧_;first|refine yr ?_|refine yt ?_|refine yf ?_|refine yo ?_)
  refine call_same (fn_qfoll (W:=W5) (ms:=ms5) (x:=x) (e:=e) 0#64 (decide (((0:Nat):Int)+1=(ym:Int)))) [0] rfl (by (repeat first|exact trivial|refine ent1 ?_)) (by (repeat first|exact trivial|refine ent1 ?_)) (fun _ _=>trivial) ?_
  rintro y hs ⟨rfl,rfl⟩
  by_cases hf:follM e 0#64 (decide (((0:Nat):Int)+1=(ym:Int)))=0
  rotate_left
  ·have f1:decide (follM e 0#64 (decide (((0:Nat):Int)+1=(ym:Int)))≠0)=true:=decide_eq_true hf
   rw [evsF_fol _ hE (by rw [← hlast]; exact hf),← hlast] at hPj
   rw [hPj]
   (repeat show _∧_;first|refine yr ?_|refine yt ?_|refine yf ?_|refine yt ?_ (by first|decide|(rw[f1];decide))|refine yf ?_ (by first|decide|(rw[f1];decide))|refine yo ?_)
   (repeat show _∧_;first|refine yr ?_|refine yt ?_|refine yf ?_|refine yt ?_ (by first|decide|(rw[f1];decide))|refine yf ?_ (by first|decide|(rw[f1];decide))|refine yo ?_)
   exact FinW.of ⟨.tup [.c (.slc none 0 0),.c (.int .i64 (follM e 0#64 (decide (((0:Nat):Int)+1=(ym:Int)))))],_,⟨[0],⟨rfl,rfl,rfl⟩,by (repeat first|exact trivial|refine ent1 ?_)⟩,hf,W5,ms5,(hL1.trans hL').trans hL5,rfl,rfl⟩
  have f1:decide (follM e 0#64 (decide (((0:Nat):Int)+1=(ym:Int)))≠0)=false:=decide_eq_false (not_not_intro hf)
  rw [evsF_step _ hE (by rw [← hlast]; exact hf)] at hPj
  (repeat show _∧_;first|refine yr ?_|refine yt ?_|refine yf ?_|refine yt ?_ (by first|decide|(rw[f1];decide))|refine yf ?_ (by first|decide|(rw[f1];decide))|refine yo ?_)
  refine And.intro (show 0+4≤4 by decide) ?_
  (repeat show _∧_;first|refine yr ?_|refine yt ?_|refine yf ?_|refine yo ?_)
  intro c2 hc2
  (repeat show _∧_;first|refine yr ?_|refine yt ?_|refine yf ?_|refine yo ?_)
  refine ⟨(1,e.t,some ([e],flat (evS e x),c2),W5,ms5),[0,1,5],⟨⟨rfl,rfl,rfl⟩,?_⟩,⟨Nat.zero_lt_one,hj,hc2,rfl,hL'.trans hL5,hPj,RowAt.nil.snoc hxe⟩,by dsimp only; omega⟩
  dsimp only
  (repeat first|exact trivial|refine ent1 ?_)
  exact ⟨fun j hj=>eqC_cs ((RowAt.nil (W:=W5) (ms:=ms5)).snoc hxe).raw (new_cs rfl fun j hj=>updN_new hj) j,by (repeat first|exact trivial|refine ent1 ?_)⟩
 ·obtain ⟨hj0,hjn,hjc,hdl,hL',hPj,hrow⟩:=hy
  dsimp only
  by_cases hj:j<ym
  rotate_left
  ·have e1:decide (((j:Nat):Int)<(ym:Int))=false:=decide_eq_false (by omega)
   have hP:parseM s=.inl done:=by rw [hPj,List.drop_eq_nil_of_le (by omega)]; simp [evsF,preE]
   rw [hP]
   (repeat show _∧_;first|refine yr ?_|refine yt ?_|refine yf ?_|refine yt ?_ (by first|decide|(rw[e1];decide))|refine yf ?_ (by first|decide|(rw[e1];decide))|refine yo ?_)
   refine finW_frz [0] rfl (Nat.zero_lt_one) cx0_m rfl (fun W9 ms9 α hL9 hI=>?_)
   refine ⟨.tup [.c (.slc (some ((α 2).add (0+0))) j cc),.c (.int .i64 0)],[],⟨⟨rfl,rfl,rfl⟩,?_⟩,some ((α 2).add (0+0)),j,cc,W9,ms9,(hL1.trans hL').trans hL9,hrow.frz (F:=fun j=>!memB j [0]) hL9 (hI 2 rfl) hdl hjc (by omega),rfl,rfl⟩
   (repeat first|exact trivial|refine ent1 ?_)
  have e1:decide (((j:Nat):Int)<(ym:Int))=true:=decide_eq_true (by omega)
  have hjl:j<v1.l.length:=by omega
  obtain ⟨B,xz,hB,him2,z1,z2⟩:=(t1.later hL').elt hjl
  dsimp only at hB him2
  subst hB
  have hzS:=hSh2 _ (List.getElem_mem hjl)
  have hlast:decide (((j:Nat):Int)+1=(ym:Int))=(v1.l.drop (j+1)).isEmpty:=by
   by_cases hz:j+1=ym
   ·rw [List.drop_eq_nil_of_le (by omega)]; exact decide_eq_true (by omega)
   ·rw [List.drop_eq_getElem_cons (show j+1<v1.l.length by omega)]; exact decide_eq_false (by omega)
  rw [List.drop_eq_getElem_cons hjl] at hPj
  generalize (v1.l[j]'hjl)=z at z1 z2 hzS hPj
  (repeat show _∧_;first|refine yr ?_|refine yt ?_|refine yf ?_|refine yt ?_ (by first|decide|(rw[e1];decide))|refine yf ?_ (by first|decide|(rw[e1];decide))|refine yo ?_)
  refine ⟨jvS z xz,⟨.past (i:=0) rfl (by exact z1),rfl⟩,?_⟩
  (repeat show _∧_;first|refine yr ?_|refine yt ?_|refine yf ?_|refine yo ?_)
  refine call_past (fn_qevent (d:=4) z2 hzS) 0 [] rfl rfl (by (repeat first|exact trivial|refine ent1 ?_)) (by (repeat first|exact trivial|refine ent1 ?_)) (fun _ _=>trivial) (fun x hs hr=>?_) ?_
  ·unfold EvA at hr
   split at hr
   ·obtain ⟨_,W5,ms5,hL5,_,rfl⟩:=hr
    exact ⟨W5,ms5,rfl,hL5⟩
   ·obtain ⟨_,W5,ms5,hL5,_,_,rfl⟩:=hr
    exact ⟨W5,ms5,rfl,hL5⟩
  intro y hs hr
  cases hE:evOf z with
  | inr c =>
   rw [hE] at hr
   obtain ⟨hc0,W5,ms5,hL5,rfl,rfl⟩:=hr
   have f0:decide (c=0)=false:=decide_eq_false hc0
   have f1:decide (c≠0)=true:=decide_eq_true hc0
   rw [evsF_bad _ hE] at hPj
   rw [hPj]
   (repeat show _∧_;first|refine yr ?_|refine yt ?_|refine yf ?_|refine yt ?_ (by first|decide|(rw[f0];decide)|(rw[f1];decide))|refine yf ?_ (by first|decide|(rw[f0];decide)|(rw[f1];decide))|refine yo ?_)
   (repeat show _∧_;first|refine yr ?_|refine yt ?_|refine yf ?_|refine yt ?_ (by first|decide|(rw[f0];decide)|(rw[f1];decide))|refine yf ?_ (by first|decide|(rw[f0];decide)|(rw[f1];decide))|refine yo ?_)
   exact FinW.of ⟨.tup [.c (.slc none 0 0),.c (.int .i64 c)],_,⟨[0],⟨rfl,rfl,rfl⟩,by (repeat first|exact trivial|refine ent1 ?_)⟩,hc0,W5,ms5,(hL1.trans hL').trans hL5,rfl,rfl⟩
  | inl e =>
  rw [hE] at hr
  obtain ⟨x,W5,ms5,hL5,hxe,rfl,rfl⟩:=hr
  (repeat show _∧_;first|refine yr ?_|refine yt ?_|refine yf ?_|refine yo ?_)
  refine call_same (fn_qfoll (W:=W5) (ms:=ms5) (x:=x) (e:=e) t (decide (((j:Nat):Int)+1=(ym:Int)))) [0] rfl (by (repeat first|exact trivial|refine ent1 ?_)) (by (repeat first|exact trivial|refine ent1 ?_)) (fun _ _=>trivial) ?_
  rintro y hs ⟨rfl,rfl⟩
  by_cases hf:follM e t (decide (((j:Nat):Int)+1=(ym:Int)))=0
  rotate_left
  ·have f1:decide (follM e t (decide (((j:Nat):Int)+1=(ym:Int)))≠0)=true:=decide_eq_true hf
   rw [evsF_fol _ hE (by rw [← hlast]; exact hf),← hlast] at hPj
   rw [hPj]
   (repeat show _∧_;first|refine yr ?_|refine yt ?_|refine yf ?_|refine yt ?_ (by first|decide|(rw[f1];decide))|refine yf ?_ (by first|decide|(rw[f1];decide))|refine yo ?_)
   (repeat show _∧_;first|refine yr ?_|refine yt ?_|refine yf ?_|refine yt ?_ (by first|decide|(rw[f1];decide))|refine yf ?_ (by first|decide|(rw[f1];decide))|refine yo ?_)
   exact FinW.of ⟨.tup [.c (.slc none 0 0),.c (.int .i64 (follM e t (decide (((j:Nat):Int)+1=(ym:Int)))))],_,⟨[0],⟨rfl,rfl,rfl⟩,by (repeat first|exact trivial|refine ent1 ?_)⟩,hf,W5,ms5,(hL1.trans hL').trans hL5,rfl,rfl⟩
  have f1:decide (follM e t (decide (((j:Nat):Int)+1=(ym:Int)))≠0)=false:=decide_eq_false (not_not_intro hf)
  rw [evsF_step _ hE (by rw [← hlast]; exact hf)] at hPj
  (repeat show _∧_;first|refine yr ?_|refine yt ?_|refine yf ?_|refine yt ?_ (by first|decide|(rw[f1];decide))|refine yf ?_ (by first|decide|(rw[f1];decide))|refine yo ?_)
  refine And.intro (show 0+4≤4 by decide) ?_
  refine And.intro (show 0+scale 1 (3+1)≤4 by decide) ?_
  refine And.intro ⟨hjc,by first|omega|(rw [sc4]; omega),show (j+1)*64≤140737488355328 by omega⟩ ?_
  intro c2 hc2
  (repeat show _∧_;first|refine yr ?_|refine yt ?_|refine yf ?_|refine yo ?_)
  have hrw:RowAt W5 ms5 (cs++flat (evS e x)) (done++[e]):=(hrow.later hL5).snoc hxe
  refine ⟨(j+1,e.t,some (done++[e],cs++flat (evS e x),c2),W5,ms5),[0,1,6],⟨⟨rfl,rfl,rfl⟩,?_⟩,⟨by omega,hj,hc2,by rw [List.length_append,hdl]; rfl,hL'.trans hL5,hPj,hrw⟩,by dsimp only; omega⟩
  dsimp only
  (repeat first|exact trivial|refine ent1 ?_)
  exact ⟨fun j hj=>eqC_cs hrw.raw (app_cs (by rw [hrow.len,hdl]) (fun _ _=>rfl) rfl fun j hj=>updN_new hj) j,by (repeat first|exact trivial|refine ent1 ?_)⟩
end Sx
end
section
namespace Qj
open Sha Vi Js Ev
theorem enc_qr (r:Nat):(enc r).length≤(qr r).length:=by
 by_cases h:r<128
 ·have h1:(enc r).length=1:=by unfold enc; rw [if_pos h]; rfl
  have:=qr_pos r
  omega
 ·unfold qr
  rw [if_neg (by omega),if_neg (by omega),if_neg (by omega),if_neg (by omega),if_neg (by omega)]
  exact Nat.le_refl _
theorem flat_qr:∀ l:List Nat,(l.flatMap enc).length≤(l.flatMap qr).length
 | []=>Nat.le_refl _
 | r::l=>by
  have h1:=enc_qr r
  have h2:=flat_qr l
  rw [List.flatMap_cons,List.flatMap_cons,List.length_append,List.length_append]
  omega
theorem quote_len {s:Bs} (h:Utf s):s.length≤(quote s).length:=by
 obtain ⟨rs,h1,rfl⟩:=h
 rw [quote_of h1,List.length_cons,List.length_append]
 have:=flat_qr rs
 omega
theorem putL_mem {pv:JT→Bs}:∀ {l:List JT} {x:JT},x∈l→(pv x).length≤(putL pv l).length
 | [],x,h=>by cases h
 | [y],x,h=>by
  rw [List.mem_singleton] at h
  subst h
  exact Nat.le_refl _
 | y::z::l,x,h=>by
  rw [putL_cons _ _ _ (by simp),List.length_append,List.length_cons]
  rcases List.mem_cons.1 h with rfl|h
  ·omega
  ·have:=putL_mem (pv:=pv) h
   omega
theorem putO_mem {pv:JT→Bs}:∀ {ns:List Bs} {l:List JT} {x:JT},ns.length=l.length→x∈l→(pv x).length≤(putO pv ns l).length
 | _,[],x,_,h=>by cases h
 | [],_::_,x,hl,_=>by simp at hl
 | s::ns,[y],x,_,h=>by
  rw [List.mem_singleton] at h
  subst h
  show (pv x).length≤(quote s++58#8::pv x).length
  rw [List.length_append,List.length_cons]
  omega
 | s::ns,y::z::l,x,hl,h=>by
  rw [putO_cons _ _ _ _ _ (by simp),List.length_append,List.length_cons,List.length_append,List.length_cons]
  rcases List.mem_cons.1 h with rfl|h
  ·omega
  ·have:=putO_mem (pv:=pv) (ns:=ns) (by simpa using hl) h
   omega
theorem leaf_s {d:Nat} {v:JT} (h:leaf v):v.s.length≤(put d v).length:=by
 rw [put_leaf h]
 obtain ⟨_,_,_,hs,_,hu⟩:=h
 rcases hs with h4|h0
 ·unfold put1
  rw [h4,if_neg (by decide),if_neg (by decide),if_neg (by decide),if_neg (by decide),if_pos rfl]
  exact quote_len hu
 ·rw [h0]; exact Nat.zero_le _
theorem norm_s:∀ {d:Nat} {v:JT},norm d v→v.s.length≤(put d v).length
 | 0,_,h=>leaf_s h
 | d+1,v,h=>by
  rcases h with h|⟨_,hs,_⟩
  ·exact leaf_s h
  ·rw [hs]; exact Nat.zero_le _
theorem norm_kid:∀ {d:Nat} {v x:JT},norm d v→x∈v.l→∃ e,norm e x∧(put e x).length≤(put d v).length
 | 0,v,x,h,hx=>by rw [h.1] at hx; cases hx
 | d+1,v,x,h,hx=>by
  rcases h with h|⟨_,_,hl,hk⟩
  ·rw [h.1] at hx; cases hx
  ·refine ⟨d,hl x hx,?_⟩
   show _≤(put1 (putL (put d)) (putO (put d)) v).length
   unfold put1
   rcases hk with ⟨hk,_⟩|⟨hk,hn,_⟩
   ·rw [hk,if_neg (by decide),if_neg (by decide),if_neg (by decide),if_neg (by decide),if_neg (by decide),if_pos rfl,List.length_cons,List.length_append]
    have:=putL_mem (pv:=put d) hx
    omega
   ·rw [hk,if_neg (by decide),if_neg (by decide),if_neg (by decide),if_neg (by decide),if_neg (by decide),if_neg (by decide),List.length_cons,List.length_append]
    have:=putO_mem (pv:=put d) hn hx
    omega
end Qj
namespace Sx
open Go.RowKit Sha Vi Js Ev Qj
theorem shrt_of {N:Nat}:∀ (k:Nat) {d:Nat} {v:JT},norm d v→(put d v).length≤N→Shrt N k v
 | 0,d,v,h,hl=>Nat.le_trans (norm_s h) hl
 | k+1,d,v,h,hl=>⟨Nat.le_trans (norm_s h) hl,fun x hx=>let ⟨e,h1,h2⟩:=norm_kid h hx; shrt_of k h1 (Nat.le_trans h2 hl)⟩
theorem memJ_mem {v y:JT} {s:Bs} {k:BitVec 8} (h:memJ v s k=some y):y∈v.l:=by
 unfold memJ at h
 split at h
 ·cases h
 ·rename_i i _
  split at h
  ·cases h
  ·rename_i x hx
   split at h
   ·injection h with h
    subst h
    exact List.mem_of_getElem? hx
   ·cases h
theorem parse_shrt {s:Bs} {v y:JT} (hp:parse s=.ok v []) (hm:memJ v evsB 5#8=some y) (z:JT) (hz:z∈y.l):Shrt 4194304 2 z:=by
 have hs:s.length≤1048576:=by
  by_cases h:1048576<s.length
  ·unfold parse at hp
   rw [if_pos h] at hp
   cases hp
  ·omega
 obtain ⟨h1,h2⟩:=parse_ok hp
 obtain ⟨e,h3,h4⟩:=norm_kid h1 (memJ_mem hm)
 obtain ⟨f,h5,h6⟩:=norm_kid h3 hz
 exact shrt_of 2 h5 (by omega)
theorem fn_qparse' {W:World} {ms:List Nat} (hT:Tabs W ms) (s:Bs) (hs0:s.length≤4611686018427387904):FnR Tryd.prog tds 25 1 [[.past W ms]] [.c (.str (U8 s))] (fun _=>True) (PrsA W ms (parseM s)) :=
 fn_qparse hT s hs0 fun _ _ hp hm z hz=>parse_shrt hp hm z hz
end Sx
end
section
namespace Qj
open Sha Js Ev
end Qj
namespace Sx
open Go.RowKit Sha Vi Js Ev Qj
theorem fn_qprint' {W:World} {ms:List Nat} {a:Option Addr} {n c:Nat} {es:List Ev} (hT:Tabs W ms) (h:EvsAt W ms a n c es):FnR Tryd.prog tds 24 1 [[.past W ms]] [.c (.slc a n c)] (fun _=>True) (PrtA W ms es) :=
 fn_qprint hT h fun hp=>⟨norm_root hp,by have h1:=root_len hp; have h2:=(prtM_ok hp).1; omega⟩
end Sx
end
section
namespace Sx
open Go.RowKit Sha Vi Js Ev Qj
theorem prt_nil:prtM []=0:=rfl
set_option maxRecDepth 20000 in
set_option maxHeartbeats 8000000 in
theorem fn_qawake {W:World} {ms:List Nat} (hT:Tabs W ms):FnR Tryd.prog tds 9 1 [[.past W ms]] [] (fun _=>True) (fun y hs=>∃ W' ms',Later W ms W' ms'∧y=.a (.c (.bool true))∧hs=[[.past W' ms']]):=by
 refine fn_of_bodyW tds_ok follows_ Tryd.func9 rfl (t:=anys (Tryd.f9.ntmps)) rfl (fun w r0 hr0 _=>?_)
 obtain ⟨x0,rfl⟩:=len1' hr0
 (repeat show _∧_;first|refine yr ?_|refine yt ?_|refine yf ?_|refine yo ?_)
 refine call_past (fn_qprint' (W:=W) (ms:=ms) (es:=[]) hT EvsAt.nul) 0 [] rfl rfl (by (repeat first|exact trivial|refine ent1 ?_)) (by (repeat first|exact trivial|refine ent1 ?_)) (fun _ _=>trivial) (fun x hs hr=>?_) ?_
 ·obtain ⟨W5,ms5,hL5,rfl,_⟩:=hr
  exact ⟨W5,ms5,rfl,hL5⟩
 rintro y hs ⟨W5,ms5,hL5,rfl,rfl⟩
 rw [if_pos prt_nil]
 have hb:U8 (put 4 (rootJ []))=[123,34,113,108,111,103,95,118,101,114,115,105,111,110,34,58,34,48,46,51,34,44,34,101,118,101,110,116,115,34,58,91,93,125]:=by decide +kernel
 rw [hb]
 (repeat show _∧_;first|refine yr ?_|refine yt ?_|refine yf ?_|refine yo ?_)
 (repeat show _∧_;first|refine yr ?_|refine yt ?_|refine yf ?_|refine yo ?_)
 exact FinW.of ⟨.a (.c (.bool true)),_,⟨[0],⟨rfl,rfl,rfl⟩,by (repeat first|exact trivial|refine ent1 ?_)⟩,W5,ms5,hL5,rfl,rfl⟩
end Sx
end
section
namespace Qj
open Sha Js Ev Vi
theorem foll_good {last:BitVec 64} {e:Ev} {b:Bool} (h:GoodE last e) (hk:e.k=19#8→b=true):follM e last b=0:=by
 unfold follM
 rw [if_neg h.check.2,if_neg (fun hc=>absurd hc.2 (by rw [hk hc.1]; decide))]
theorem prtF_mid:∀ {es:List Ev} {last:BitVec 64} {e:Ev} {fs:List Ev},GoodL last es→(∀ x∈es,x.k≠19#8)→prtF (es++e::fs) last=prtF (e::fs) (lastT last es)
 | [],_,_,_,_,_=>rfl
 | x::r,last,e,fs,⟨h1,h2,h3⟩,hk=>by
  rw [List.cons_append]
  have:prtF (x::(r++e::fs)) last=prtF (r++e::fs) x.t:=by
   rw [prtF,if_neg (not_not_intro h1.check.1),if_neg (not_not_intro (foll_good h1 fun h=>absurd h (hk x (List.mem_cons_self ..))))]
  rw [this,prtF_mid h3 (fun y hy=>hk y (List.mem_cons_of_mem _ hy))]
  rfl
theorem prtM_mid {es fs:List Ev} {e:Ev} (hl:es.length+fs.length<2048) (h1:GoodL 0#64 es) (h2:∀ x∈es,x.k≠19#8):prtM (es++e::fs)=prtF (e::fs) (lastT 0#64 es):=by
 unfold prtM
 rw [if_neg (by rw [List.length_append,List.length_cons]; omega)]
 exact prtF_mid h1 h2
theorem prt_bad {es fs:List Ev} {e:Ev} (hl:es.length+fs.length<2048) (h1:GoodL 0#64 es) (h2:∀ x∈es,x.k≠19#8) (h:checkM e≠0):prtM (es++e::fs)=checkM e:=by
 rw [prtM_mid hl h1 h2,prtF,if_pos h]
theorem prt_cut {es fs:List Ev} {t:BitVec 64} (hl:es.length+fs.length<2048) (h1:GoodL 0#64 es) (h2:∀ x∈es,x.k≠19#8) (ht:t.toNat≤1125899906842624) (hle:(lastT 0#64 es).toNat≤t.toNat) (hf:fs≠[]) :
  checkM ⟨19#8,t,[],[]⟩=0∧prtM (es++⟨19#8,t,[],[]⟩::fs)=10:=by
 have hg:GoodE (lastT 0#64 es) ⟨19#8,t,[],[]⟩:=⟨rfl,hle,ht,rfl,(fun n hn=>by cases hn),Nat.zero_le _,fun _=>rfl⟩
 obtain ⟨c1,c2⟩:=hg.check
 refine ⟨c1,?_⟩
 have hn:fs.isEmpty=false:=by cases fs with
  | nil=>exact absurd rfl hf
  | cons _ _=>rfl
 have hfol:follM ⟨19#8,t,[],[]⟩ (lastT 0#64 es) fs.isEmpty=10:=by
  unfold follM
  rw [if_neg c2,if_pos ⟨rfl,hn⟩]
 rw [prtM_mid hl h1 h2,prtF,if_neg (not_not_intro c1),hfol]
 rfl
theorem prt_time {es fs:List Ev} {t:BitVec 64} (hl:es.length+fs.length<2048) (h1:GoodL 0#64 es) (h2:∀ x∈es,x.k≠19#8) (ht:t.toNat≤1125899906842624) (hp:0<t.toNat) (he:lastT 0#64 es=t) :
  checkM ⟨6#8,t-1#64,[1#64],[]⟩=0∧prtM (es++⟨6#8,t-1#64,[1#64],[]⟩::fs)=21:=by
 have h3:(t-1#64).toNat=t.toNat-1:=by
  have:=t.isLt
  rw [BitVec.toNat_sub,show (1#64).toNat=1 from rfl]
  omega
 have hg:GoodE (t-1#64) ⟨6#8,t-1#64,[1#64],[]⟩:=⟨rfl,Nat.le_refl _,by show (t-1#64).toNat≤_; omega,rfl,(fun n hn=>by simp at hn; subst hn; decide),Nat.zero_le _,fun _=>rfl⟩
 obtain ⟨c1,-⟩:=hg.check
 refine ⟨c1,?_⟩
 have hfol:follM ⟨6#8,t-1#64,[1#64],[]⟩ (lastT 0#64 es) fs.isEmpty=21:=by
  unfold follM
  rw [if_pos (by rw [he,BitVec.lt_def]; show (t-1#64).toNat<_; omega)]
 rw [prtM_mid hl h1 h2,prtF,if_neg (not_not_intro c1),hfol]
 rfl
theorem evsF_all:∀ (es:List Ev) (t:BitVec 64),(∀ e∈es,checkM e=0)→evsF (es.map evJ) t=if prtF es t=0 then .inl es else .inr (prtF es t)
 | [],_,_=>rfl
 | e::es,t,h=>by
  have hc:=h e (List.mem_cons_self ..)
  have ih:=evsF_all es e.t fun x hx=>h x (List.mem_cons_of_mem _ hx)
  have he:(es.map evJ).isEmpty=es.isEmpty:=by cases es <;> rfl
  rw [List.map_cons,evsF,ev_back hc]
  dsimp only
  rw [he,prtF,if_neg (not_not_intro hc),ih]
  by_cases hf:follM e t es.isEmpty=0
  ·rw [if_pos hf,if_neg (not_not_intro hf)]
   by_cases hp:prtF es e.t=0
   ·rw [if_pos hp,if_pos hp]
   ·rw [if_neg hp,if_neg hp]
  ·rw [if_neg hf,if_pos hf,if_neg hf]
theorem all_len {es:List Ev} (h:∀ e∈es,checkM e=0):(put 4 (rootJ es)).length≤es.length*4266+1000:=by
 have hl:(put 3 (.mk 5#8 0#64 [] (es.map evJ) [])).length≤(es.map evJ).length*(2132+1)+2:=lst_len (d:=2) fun x hx=>by
  obtain ⟨e,he,rfl⟩:=List.mem_map.1 hx
  exact ev_len (h e he)
 rw [List.length_map] at hl
 have:=obj_len (d:=3) (s:=[]) (n:=0#64) (l:=[tText v03B,.mk 5#8 0#64 [] (es.map evJ) []]) (ns:=[verB,evsB]) (B:=es.length*2133+7) (Q:=14) (fun x hx=>by
  simp only [List.mem_cons,List.not_mem_nil,or_false] at hx
  rcases hx with rfl|rfl
  ·rw [text_len 3 (by decide) (Utf.ascii (by decide))]
   show 3+2≤_
   omega
  ·exact Nat.le_trans hl (by omega)) (fun s hs=>q2 s hs)
 refine Nat.le_trans this ?_
 show 2*(es.length*2133+7+14+2)+2≤_
 omega
theorem parse_all {es:List Ev} (h:∀ e∈es,checkM e=0) (hl:es.length≤240):parseM (put 4 (rootJ es))=if prtF es 0#64=0 then .inl es else .inr (prtF es 0#64):=by
 have h4:norm 4 (rootJ es):=by
  refine .inr ⟨rfl,rfl,fun x hx=>?_,.inr ⟨rfl,rfl,nd2,fun s hs=>?_⟩⟩
  ·simp only [rootJ,JT.l,List.mem_cons,List.not_mem_nil,or_false] at hx
   rcases hx with rfl|rfl
   ·exact .inl (leaf_text (Utf.ascii (by decide)))
   ·refine .inr ⟨rfl,rfl,fun y hy=>?_,.inl ⟨rfl,rfl⟩⟩
    obtain ⟨e,he,rfl⟩:=List.mem_map.1 hy
    exact norm_ev (h e he)
  ·have:∀ s∈[verB,evsB],∀ c∈s,c.toNat<128:=by decide
   exact Utf.ascii (this s hs)
 have h5:=norm_up h4
 have h6:=norm_up h5
 have h7:=norm_up h6
 have h8:=norm_up h7
 have e8:put 8 (rootJ es)=put 4 (rootJ es):=by rw [put_up h7,put_up h6,put_up h5,put_up h4]
 have hlen:=all_len h
 have hp:=parse_put h8 (by rw [e8]; omega)
 rw [e8] at hp
 have m1:idxN verB (rootJ es).ns=some 0:=rfl
 have m2:memJ (rootJ es) evsB 5#8=some (.mk 5#8 0#64 [] (es.map evJ) []):=rfl
 have m3:(rootJ es).l[0]?=some (tText v03B):=rfl
 unfold parseM
 rw [hp]
 dsimp only
 rw [m1,m2]
 dsimp only
 rw [show hasJ (rootJ es) 2=true from rfl,if_neg (by decide),m3]
 dsimp only
 rw [if_pos ⟨rfl,rfl⟩,show (JT.mk 5#8 0#64 [] (es.map evJ) []).l=es.map evJ from rfl,List.length_map,if_neg (by omega),evsF_all es _ h]
end Qj
end
section
namespace Sx
open Go.RowKit Sha Vi Js Ev Qj

theorem good_all0:∀ {es:List Ev} {last:BitVec 64},GoodL last es→∀ e∈es,checkM e=0
 | [],_,_,_,he=>nomatch he
 | x::r,_,⟨h1,_,h3⟩,e,he=>by
  rcases List.mem_cons.1 he with rfl|he
  ·exact h1.check.1
  ·exact good_all0 h3 e he
theorem light2 {es:List Ev} (hL:lightE es=true):(∀ e∈es,e.N.length≤30∧e.D.length≤100)∧es.length≤60:=by
 unfold lightE at hL
 rw [Bool.and_eq_true] at hL
 exact ⟨of_decide_eq_true hL.1,of_decide_eq_true hL.2⟩
end Sx
end
section
namespace Js
open Sha
end Js
namespace Qj
open Sha Js Ev
end Qj
end
section
namespace Qj
open Sha Js Ev
end Qj
end
section
namespace Sx
open Go.RowKit Sha Vi Js Ev Qj

theorem fn_qparseN {W:World} {ms:List Nat} (hT:Tabs W ms) (s:Bs) (hs0:s.length≤4611686018427387904) {e:Int} (he:parseM s=.inr e):FnR Tryd.prog tds 25 1 [[.past W ms]] [.c (.str (U8 s))] (fun _=>True)
  (fun y hs=>∃ W' ms',e≠0∧Later W ms W' ms'∧y=.tup [.c (.slc none 0 0),.c (.int .i64 e)]∧hs=[[.past W' ms']]) :=
 (fn_qparse' hT s hs0).mono fun y hs hr=>by
  rw [he] at hr
  obtain ⟨h1,W',ms',h2,h3,h4⟩:=hr
  exact ⟨W',ms',h1,h2,h3,h4⟩
def two (s z:Bs):Nat→SC:=nthC [.str (U8 s),.str (U8 z)]
end Sx
end
section
namespace Sx
open Go.RowKit Sha Vi Ev

theorem RowAt.im {W:World} {ms:List Nat} {A:Addr} {cs m:List SC} {es:List Ev} (k:RowAt W ms cs es) (h:cs.length≠0→ImAt W ms A m) (hm:∀ j,j<cs.length→m[j]?=some (nthC cs j)) {n c:Nat} (hn:es.length=n) (hc:n≤c) (hcap:n≤9223372036854775807):EvsAt W ms (some (A.add (0+0))) n c es:=by
 have hlen:=k.len
 refine ⟨hn,hc,hcap,(fun e=>by cases e),fun B hB j e he=>?_⟩
 injection hB with hB
 subst hB
 obtain ⟨x,h1,h2⟩:=k.elt j e he
 have hj:j<es.length:=(List.getElem?_eq_some_iff.1 he).1
 refine ⟨x,(((h (by omega)).part (0+0) (m:=m) (fun j x hx=>by simpa using hx)).part (j*4) fun i y hy=>?_),h2⟩
 have hcs:=h1 i y hy
 rw [hm _ (List.getElem?_eq_some_iff.1 hcs).1,nthC_get? hcs]
theorem map_keep {cs:List SC} {φ:SC→SC} (hφ:∀ x:SC,x.raw=x→φ x=x) (h:∀ x∈cs,x.raw=x):cs.map φ=cs:=by
 refine (List.map_congr_left (g:=id) fun x hx=>hφ x (h x hx)).trans (List.map_id _)
theorem nthC_map {L:List SC} {φ:SC→SC} {j:Nat} (h:j<L.length):nthC (L.map φ) j=φ (nthC L j) :=
 nthC_get? (by rw [List.getElem?_map,nthC_get h]; rfl)
theorem lendN {W W':World} {ms ms':List Nat} {cs:List SC} {es:List Ev} {n c k nb nr:Nat} {t:BitVec 64} {α:Nat→Addr} {F:Nat→Bool} {g:Nat→Nat} (hr:RowAt W ms cs es) (hL:Later W ms W' ms') (hg:g 3=nb) (hF:F nb=true) (hk:k≤n) (hn:es.length=n) (hc:n+1≤c) (hn2:n≤1000)
  (h1:ImAt W' ms' (α nb) [.w64 1#64]) (h2:flat (mpL g [.row (scale c (3+1)) (nthC ((cs.take (k*4)++ev4 t)++cs.drop (k*4)))])≠[]→ImAt W' ms' (α nr) (((flat (mpL g [.row (scale c (3+1)) (nthC ((cs.take (k*4)++ev4 t)++cs.drop (k*4)))])).map (SC.rz F α)).map SC.raw)) :
  EvsAt W' ms' (some ((α nr).add (0+0))) (n+1) c (es.take k++⟨6#8,t,[1#64],[]⟩::es.drop k):=by
 have hcl:=hr.len
 have hev:EvAt W' ms' ⟨some ((α nb).add (0+0)),1,1,none,0,0⟩ ⟨6#8,t,[1#64],[]⟩ :=
  ⟨⟨rfl,Nat.le_refl _,(show (1:Nat)≤9223372036854775807 by decide),(fun e=>by cases e),fun x e _=>by injection e with e; subst e; exact h1.part (0+0) (fun j x hx=>by simpa using hx)⟩,SlAt.nul⟩
 have hR:RowAt W' ms' ((cs.take (k*4)++flat (evS ⟨6#8,t,[1#64],[]⟩ ⟨some ((α nb).add (0+0)),1,1,none,0,0⟩))++cs.drop (k*4)) (es.take k++⟨6#8,t,[1#64],[]⟩::es.drop k):=by
  have:=(((hr.later hL).take k (by omega)).snoc hev).append ((hr.later hL).drop k (by omega))
  rw [List.append_assoc (es.take k)] at this
  exact this
 have hφ:∀ x:SC,x.raw=x→((x.mp g).rz F α).raw=x:=fun x hx=>by rw [mp_raw hx,rz_raw hx]
 have hmap:((cs.take (k*4)++ev4 t)++cs.drop (k*4)).map (fun x=>((x.mp g).rz F α).raw)=(cs.take (k*4)++flat (evS ⟨6#8,t,[1#64],[]⟩ ⟨some ((α nb).add (0+0)),1,1,none,0,0⟩))++cs.drop (k*4):=by
  rw [List.map_append,List.map_append,map_keep hφ (fun x hx=>hr.raw x (List.mem_of_mem_take hx)),map_keep hφ (fun x hx=>hr.raw x (List.mem_of_mem_drop hx))]
  congr 2
  show [_,_,_,_]=_
  simp only [SC.mp,SC.rz,hg,hF]
  rfl
 have hLl:((cs.take (k*4)++ev4 t)++cs.drop (k*4)).length=(n+1)*4:=by rw [List.length_append,List.length_append,List.length_take,List.length_drop]; show _+4+_=_; omega
 rw [← hmap] at hR
 refine hR.im (fun _=>h2 (fun e=>?_)) (fun j hj=>?_) (by rw [List.length_append,List.length_take,List.length_cons,List.length_drop]; omega) hc (by omega)
 ·have:=congrArg List.length e
  simp [mpL,Seg.mp,flat,sc4] at this
  omega
 ·rw [List.length_map,hLl] at hj
  have hjn:j<scale c (3+1):=by rw [sc4]; omega
  rw [nthC_map (by omega)]
  rw [List.getElem?_map,List.getElem?_map]
  simp only [mpL,Seg.mp,flat,List.append_nil,List.getElem?_map,List.getElem?_range hjn,Option.map_some]
end Sx
end
section
namespace Sx
open Go.RowKit Sha Vi Js Ev Qj

set_option maxRecDepth 20000 in
set_option maxHeartbeats 16000000 in
theorem fn_qprintM {W:World} {ms:List Nat} {a:Option Addr} {n c:Nat} (hn:2048<n):FnR Tryd.prog tds 24 1 [[.past W ms]] [.c (.slc a n c)] (fun _=>True) (fun y hs=>y=.tup [.c (.str []),.c (.int .i64 7)]∧hs=[[.past W ms]]):=by
 refine fn_of_body tds_ok follows_ Tryd.func24 rfl (t:=.a (.c (.slc a n c))::anys (Tryd.f24.ntmps-1)) rfl (fun w r0 hr0 _=>?_)
 obtain ⟨x0,rfl⟩:=List.length_eq_one_iff.1 hr0
 have e1:decide ((2048:Int)<(n:Int))=true:=decide_eq_true (by omega)
 (repeat show _∧_;first|refine yr ?_|refine yt ?_|refine yf ?_|refine ya e1 ?_|refine yb e1 ?_|refine yo ?_)
 exact ⟨.tup [.c (.str []),.c (.int .i64 7)],[[.past W ms]],⟨[0],⟨rfl,rfl,rfl⟩,by (repeat first|exact trivial|refine ent1 ?_)⟩,rfl,rfl⟩
theorem ins_ok {row:List Ev} {e:Ev} (k:Nat) (h:∀ x∈row,checkM x=0) (he:checkM e=0):∀ x∈row.take k++e::row.drop k,checkM x=0:=by
 intro x hx
 rcases List.mem_append.1 hx with hx|hx
 ·exact h x (List.mem_of_mem_take hx)
 ·rcases List.mem_cons.1 hx with rfl|hx
  ·exact he
  ·exact h x (List.mem_of_mem_drop hx)
theorem ins_len {row:List Ev} {e:Ev} {n k:Nat} (hn:row.length=n) (hk:k≤n):(row.take k++e::row.drop k).length=n+1:=by
 rw [List.length_append,List.length_cons,List.length_take,List.length_drop]; omega
theorem parse_bad {es:List Ev} {c:Int} (h:∀ e∈es,checkM e=0) (hl:es.length≤100) (hp:prtM es=c) (hc:c≠0):parseM (put 4 (rootJ es))=.inr c∧(put 4 (rootJ es)).length≤4611686018427387904:=by
 have hF:prtF es 0#64=c:=by
  unfold prtM at hp
  rw [if_neg (by omega)] at hp
  exact hp
 refine ⟨by rw [parse_all h (by omega),hF,if_neg hc],?_⟩
 exact Nat.le_trans (all_len h) (by omega)
theorem evs_some {W:World} {ms:List Nat} {a:Option Addr} {n c:Nat} {es:List Ev} (h:EvsAt W ms a n c es) (hn:0<n):∃ A,a=some A:=by
 cases a with
 | none=>have:=h.nil rfl; have:=h.le; omega
 | some A=>exact ⟨A,rfl⟩
set_option maxRecDepth 20000 in
set_option maxHeartbeats 64000000 in
theorem fn_qerrors {W:World} {ms:List Nat} (hT:Tabs W ms) {a:Option Addr} {n c:Nat} {es:List Ev} (h:EvsAt W ms a n c es) {aK:Option Addr} {nK cK:Nat} {ks:Bs} (hK:BsAt W ms aK nK cK ks) {x:EvC} {e:Ev} (hx:EvAt W ms x e) (at_:BitVec 8) :
  FnR Tryd.prog tds 6 1 [[.past W ms]] [.c (.slc a n c),.c (.slc aK nK cK),.agg (evS e x),.c (.w8 at_)] (fun _=>True)
  (fun y hs=>y=.a (.c (.bool true))):=by
 have hlen:=h.len
 refine fn_of_body tds_ok follows_ Tryd.func6 rfl (t:=.a (.c (.slc a n c))::.a (.c (.slc aK nK cK))::.a (.agg (evS e x))::.a (.c (.w8 at_))::anys (Tryd.f6.ntmps-4)) rfl (fun w r0 hr _=>?_)
 obtain ⟨x0,rfl⟩:=List.length_eq_one_iff.1 hr
 (repeat show _∧_;first|refine yr ?_|refine yt ?_|refine yf ?_|refine yo ?_)
 refine call_past (fn_qawake hT) 0 [] rfl rfl (by (repeat first|exact trivial|refine ent1 ?_)) (by (repeat first|exact trivial|refine ent1 ?_)) (fun _ _=>trivial) (fun x hs hr=>?_) ?_
 ·obtain ⟨W',ms',hL,_,rfl⟩:=hr
  exact ⟨W',ms',rfl,hL⟩
 rintro y hs ⟨W0,ms0,hL0,rfl,rfl⟩
 have hT:=hT.later hL0
 have h:=h.later hL0
 have hK:=hK.later hL0
 have hx:=hx.later hL0
 (repeat show _∧_;first|refine yr ?_|refine yt ?_|refine yf ?_|refine yo ?_)
 refine call_same (fn_light h) [0] rfl (by (repeat first|exact trivial|refine ent1 ?_)) (by (repeat first|exact trivial|refine ent1 ?_)) (fun _ _=>trivial) ?_
 rintro y hs' ⟨rfl,rfl⟩
 cases hL:lightE es with
 | false =>
  (repeat show _∧_;first|refine yr ?_|refine yt ?_|refine yf ?_|refine yo ?_)
  exact ⟨.a (.c (.bool true)),[[.past W0 ms0]],⟨[0],⟨rfl,rfl,rfl⟩,by (repeat first|exact trivial|refine ent1 ?_)⟩,rfl⟩
 | true =>
 have hl2:=light2 hL
 (repeat show _∧_;first|refine yr ?_|refine yt ?_|refine yf ?_|refine yo ?_)
 refine And.intro (show 0+4≤4 by decide) ?_
 (repeat show _∧_;first|refine yr ?_|refine yt ?_|refine yf ?_|refine yo ?_)
 have hR1:RowAt W0 ms0 ([]++flat (evS e x)) [e]:=RowAt.nil.snoc hx
 refine call_lend [2] 0 [] rfl rfl (by (repeat first|exact trivial|refine ent1 ?_)) NoP.nil (fun _ _=>trivial) (fun W' ms' α hL' hI=>⟨[.c (.slc (some ((α 2).add (0+0))) 1 1)],?_,(fn_light (hR1.frzF (F:=fun j=>memB j [2]) (n:=1) (c:=1) hL' (by exact fun j hj=>updN_new hj) (hI 2 rfl) rfl (by decide) (by decide))).mono (Res':=fun y hs=>y=.a (.c (.bool (lightE [e])))∧hs.drop 1=[]) (fun x hs hr=>?_)⟩) (fun x hs hr=>?_) ?_
 ·(repeat first|exact trivial|refine ent1 ?_)
 ·obtain ⟨rfl,rfl⟩:=hr
  exact ⟨rfl,rfl⟩
 ·rw [hr.2]; exact NoP.nil
 rintro y hs' ⟨rfl,hdrop⟩
 rw [hdrop]
 cases hL2:lightE [e] with
 | false =>
  (repeat show _∧_;first|refine yr ?_|refine yt ?_|refine yf ?_|refine yo ?_)
  exact ⟨.a (.c (.bool true)),[[.past W0 ms0]],⟨[0],⟨rfl,rfl,rfl⟩,by (repeat first|exact trivial|refine ent1 ?_)⟩,rfl⟩
 | true =>
 (repeat show _∧_;first|refine yr ?_|refine yt ?_|refine yf ?_|refine yo ?_)
 refine call_past (fn_erowG h hK hl2.1 (by omega)) 0 [] rfl rfl (by (repeat first|exact trivial|refine ent1 ?_)) (by (repeat first|exact trivial|refine ent1 ?_)) (fun _ _=>trivial) (fun x hs hr=>?_) ?_
 ·obtain ⟨a',c',W',ms',h1,_,_,_,rfl⟩:=hr
  exact ⟨W',ms',rfl,h1⟩
 rintro y hs' ⟨aR,cR,W1,ms1,hL1,hrow,hrz,rfl,rfl⟩
 obtain ⟨row,hrw⟩:∃ row,rowE ks es 0 0#64=row:=⟨_,rfl⟩
 have hg0:=row_good ks es 0 0#64 (by decide)
 rw [hrw] at hrow hg0
 have hrl:row.length=n:=hrow.len
 have hx:=hx.later hL1
 have hT:=hT.later hL1
 have hn60:n≤60:=by omega
 (repeat show _∧_;first|refine yr ?_|refine yt ?_|refine yf ?_|refine yo ?_)
 rw [show ((at_.toNat:Nat):Int) % ((n:Nat)+1:Int)=((at_.toNat % (n+1):Nat):Int) by rw [Int.natCast_emod,Int.natCast_add]; rfl]
 obtain ⟨k,hk⟩:∃ k,at_.toNat % (n+1)=k:=⟨_,rfl⟩
 have hkn:k≤n:=by have:=Nat.mod_lt at_.toNat (show n+1 > 0 by omega); rw [← hk]; omega
 rw [hk]
 (repeat show _∧_;first|refine yr ?_|refine yt ?_|refine yf ?_|refine yo ?_)
 refine call_same (fn_echeck hx) [0] rfl (by (repeat first|exact trivial|refine ent1 ?_)) (by (repeat first|exact trivial|refine ent1 ?_)) (fun _ _=>trivial) ?_
 rintro y hs' ⟨rfl,rfl⟩
 (repeat show _∧_;first|refine yr ?_|refine yt ?_|refine yf ?_|refine yo ?_)
 refine call_past (fn_qvalue hx) 0 [] rfl rfl (by (repeat first|exact trivial|refine ent1 ?_)) (by (repeat first|exact trivial|refine ent1 ?_)) (fun _ _=>trivial) (fun x hs hr=>?_) ?_
 ·rcases hr with ⟨_,_,rfl⟩|⟨_,_,W',ms',h1,_,_,rfl⟩
  ·exact ⟨W1,ms1,rfl,Later.refl _ _⟩
  ·exact ⟨W',ms',rfl,h1⟩
 rintro y hs hr
 obtain ⟨v5,x5,W2,ms2,hL2,rfl,rfl⟩:∃ v5 x5 W2 ms2,Later W1 ms1 W2 ms2∧y=.tup [.agg (jvS v5 x5),.c (.int .i64 (checkM e))]∧hs=[[.past W2 ms2]]:=by
  rcases hr with ⟨_,rfl,rfl⟩|⟨h0,x',W',ms',h1,_,rfl,rfl⟩
  ·exact ⟨_,_,W1,ms1,Later.refl _ _,rfl,rfl⟩
  ·exact ⟨_,_,W',ms',h1,by rw [h0],rfl⟩
 have hall:=good_all0 hg0.1
 have hT:=hT.later hL2
 have hx:=hx.later hL2
 have hrow:=hrow.later hL2
 clear hlen hl2 hR1 hL hrw hL0 hL1 hL2
 have ec:decide (checkM e≠checkM e)=false:=decide_eq_false fun h=>h rfl
 (repeat show _∧_;first|refine yr ?_|refine yt ?_|refine yf ?_|refine ya ec ?_|refine yb ec ?_|refine yo ?_)
 by_cases hce:checkM e=0
 case' pos =>
  rw [hce]
  (repeat show _∧_;first|refine yr ?_|refine yt ?_|refine yf ?_|refine yo ?_)
  have hrowA:=hrow
  have hTA:=hT
  clear hrow hT ec
 case' neg =>
  have k1:decide (checkM e≠0)=true:=decide_eq_true hce
  (repeat show _∧_;first|refine yr ?_|refine yt ?_|refine yf ?_|refine ya k1 ?_|refine yb k1 ?_|refine yo ?_)
  refine call_past (fn_qwith hrow hrz (by omega) hx k hkn) 0 [3,4] rfl rfl (by (repeat first|exact trivial|refine ent1 ?_)) (by (repeat first|exact trivial|refine ent1 ?_)) (fun _ _=>trivial) (fun x hs hr=>?_) ?_
  ·obtain ⟨a',c',W',ms',h1,_,_,rfl⟩:=hr
   exact ⟨W',ms',rfl,h1⟩
  rintro y hs' ⟨a3,c3,W3,ms3,hL3,hE3,rfl,rfl⟩
  (repeat show _∧_;first|refine yr ?_|refine yt ?_|refine yf ?_|refine yo ?_)
  refine call_past (fn_qprint' (hT.later hL3) hE3) 0 [] rfl rfl (by (repeat first|exact trivial|refine ent1 ?_)) (by (repeat first|exact trivial|refine ent1 ?_)) (fun _ _=>trivial) (fun x hs hr=>?_) ?_
  ·obtain ⟨W',ms',h1,rfl,_⟩:=hr
   exact ⟨W',ms',rfl,h1⟩
  rintro y hs ⟨W4,ms4,hL4,rfl,rfl⟩
  rw [prt_bad (by rw [List.length_take,List.length_drop]; omega) (hg0.1.take k) (fun z hz=>hg0.2 z (List.mem_of_mem_take hz)) hce,if_neg hce]
  (repeat show _∧_;first|refine yr ?_|refine yt ?_|refine yf ?_|refine ya k1 ?_|refine yb k1 ?_|refine ya ec ?_|refine yb ec ?_|refine yo ?_)
  (repeat show _∧_;first|refine yr ?_|refine yt ?_|refine yf ?_|refine ya k1 ?_|refine yb k1 ?_|refine ya ec ?_|refine yb ec ?_|refine yo ?_)
  have hrowA:=(hrow.later hL3).later hL4
  have hTA:=(hT.later hL3).later hL4
  clear hrow hT ec k1 hE3 hL3 hL4
 all_goals
  by_cases h2:k<n
  case' pos =>
   have k2:decide ((k:Int)<(n:Int))=true:=decide_eq_true (by omega)
   obtain ⟨A,hA⟩:=evs_some hrowA (by omega)
   subst hA
   obtain ⟨z,hz⟩:∃ z,row[k]?=some z:=⟨_,List.getElem?_eq_getElem (by omega)⟩
   obtain ⟨zx,him,hza⟩:=hrowA.elt A rfl k z hz
   obtain ⟨c1,c2⟩:=prt_cut (es:=row.take k) (fs:=row.drop k) (t:=z.t) (by rw [List.length_take,List.length_drop]; omega) (hg0.1.take k) (fun z hz=>hg0.2 z (List.mem_of_mem_take hz)) (hg0.1.hi hz) (lastT_le hg0.1 hz) (by rw [← List.length_pos_iff,List.length_drop]; omega)
   (repeat show _∧_;first|refine yr ?_|refine yt ?_|refine yf ?_|refine ya k2 ?_|refine yb k2 ?_|refine yo ?_)
   refine loadR (i:=0) rfl him (j:=1) (y:=.w64 z.t) rfl ?_
   (repeat show _∧_;first|refine yr ?_|refine yt ?_|refine yf ?_|refine yo ?_)
   refine call_past (fn_qwith hrowA hrz (by omega) (e:=⟨19#8,z.t,[],[]⟩) (x:=⟨none,0,0,none,0,0⟩) ⟨SlAt.nul,SlAt.nul⟩ k hkn) 0 [3,4] rfl rfl (by (repeat first|exact trivial|refine ent1 ?_)) (by (repeat first|exact trivial|refine ent1 ?_)) (fun _ _=>trivial) (fun x hs hr=>?_) ?_
   ·obtain ⟨a',c',W',ms',h1,_,_,rfl⟩:=hr
    exact ⟨W',ms',rfl,h1⟩
   rintro y hs' ⟨a6,c6,W6,ms6,hL6,hE6,rfl,rfl⟩
   have hT6:=hTA.later hL6
   (repeat show _∧_;first|refine yr ?_|refine yt ?_|refine yf ?_|refine yo ?_)
   refine call_past (fn_qprint' hT6 hE6) 0 [] rfl rfl (by (repeat first|exact trivial|refine ent1 ?_)) (by (repeat first|exact trivial|refine ent1 ?_)) (fun _ _=>trivial) (fun x hs hr=>?_) ?_
   ·obtain ⟨W',ms',h1,rfl,_⟩:=hr
    exact ⟨W',ms',rfl,h1⟩
   rintro y hs ⟨W7,ms7,hL7,rfl,rfl⟩
   rw [c2,if_neg (by decide)]
   (repeat show _∧_;first|refine yr ?_|refine yt ?_|refine yf ?_|refine yo ?_)
   refine call_same (fn_printed (hE6.later hL7) (ins_ok k hall c1) (by omega)) [0] rfl (by (repeat first|exact trivial|refine ent1 ?_)) (by (repeat first|exact trivial|refine ent1 ?_)) (fun _ _=>trivial) ?_
   rintro y hs' ⟨rfl,rfl⟩
   obtain ⟨p1,p2⟩:=parse_bad (ins_ok k hall c1) (by rw [ins_len hrl hkn]; omega) c2 (by decide)
   (repeat show _∧_;first|refine yr ?_|refine yt ?_|refine yf ?_|refine yo ?_)
   refine call_past (fn_qparseN (hT6.later hL7) _ p2 p1) 0 [] rfl rfl (by exact And.intro rfl trivial) (by (repeat first|exact trivial|refine ent1 ?_)) (fun _ _=>trivial) (fun x hs hr=>?_) ?_
   ·obtain ⟨W',ms',_,h1,_,rfl⟩:=hr
    exact ⟨W',ms',rfl,h1⟩
   rintro y hs ⟨W8,ms8,_,hL8,rfl,rfl⟩
   (repeat show _∧_;first|refine yr ?_|refine yt ?_|refine yf ?_|refine yo ?_)
   (repeat show _∧_;first|refine yr ?_|refine yt ?_|refine yf ?_|refine yo ?_)
   have hrowB:=((hrowA.later hL6).later hL7).later hL8
   have hTB:=(hT6.later hL7).later hL8
   clear hrowA hTA k2 him hza zx c1 c2 p1 p2 hE6 hL6 hL7 hL8 hT6 hz
  case' neg =>
   have k2:decide ((k:Int)<(n:Int))=false:=decide_eq_false (by omega)
   (repeat show _∧_;first|refine yr ?_|refine yt ?_|refine yf ?_|refine ya k2 ?_|refine yb k2 ?_|refine yo ?_)
   have hrowB:=hrowA
   have hTB:=hTA
   clear hrowA hTA k2
 all_goals
  by_cases hk0:0<k
  rotate_left
  ·have k3:decide ((0:Int)<(k:Int))=false:=decide_eq_false (by omega)
   (repeat show _∧_;first|refine yr ?_|refine yt ?_|refine yf ?_|refine ya k3 ?_|refine yb k3 ?_|refine yo ?_)
   (repeat show _∧_;first|refine yr ?_|refine yt ?_|refine yf ?_|refine yo ?_)
   refine call_lend [6] 0 [] rfl rfl (by (repeat first|exact trivial|refine ent1 ?_)) NoP.nil (fun _ _=>trivial) (fun W' ms' α hL' hI=>⟨[.c (.slc (some ((α 6).add (0+0))) 2049 2049)],?_,(fn_qprintM (by omega)).mono (Res':=fun y hs=>y=.tup [.c (.str []),.c (.int .i64 7)]∧hs.drop 1=[]) (fun x hs hr=>?_)⟩) (fun x hs hr=>?_) ?_
   ·(repeat first|exact trivial|refine ent1 ?_)
   ·obtain ⟨rfl,rfl⟩:=hr
    exact ⟨rfl,rfl⟩
   ·rw [hr.2]; exact NoP.nil
   rintro y hs' ⟨rfl,hdropT⟩
   rw [hdropT]
   (repeat show _∧_;first|refine yr ?_|refine yt ?_|refine yf ?_|refine yo ?_)
   exact ⟨.a (.c (.bool true)),[[.past _ _]],⟨[0],⟨rfl,rfl,rfl⟩,by (repeat first|exact trivial|refine ent1 ?_)⟩,rfl⟩
  have k3:decide ((0:Int)<(k:Int))=true:=decide_eq_true (by omega)
  obtain ⟨A2,hA2⟩:=evs_some hrowB (by omega)
  cases hA2
  obtain ⟨z,hz⟩:∃ z,row[k-1]?=some z:=⟨_,List.getElem?_eq_getElem (by omega)⟩
  obtain ⟨zx,him,hza⟩:=hrowB.elt _ rfl (k-1) z hz
  rw [show k-1=((k:Int)-1).toNat by omega] at him
  (repeat show _∧_;first|refine yr ?_|refine yt ?_|refine yf ?_|refine ya k3 ?_|refine yb k3 ?_|refine yo ?_)
  refine loadR (i:=0) rfl him (j:=1) (y:=.w64 z.t) rfl ?_
  by_cases h4:0#64<z.t
  rotate_left
  ·have k4:decide (0#64<z.t)=false:=decide_eq_false h4
   (repeat show _∧_;first|refine yr ?_|refine yt ?_|refine yf ?_|refine ya k3 ?_|refine yb k3 ?_|refine ya k4 ?_|refine yb k4 ?_|refine yo ?_)
   (repeat show _∧_;first|refine yr ?_|refine yt ?_|refine yf ?_|refine yo ?_)
   refine call_lend [6] 0 [] rfl rfl (by (repeat first|exact trivial|refine ent1 ?_)) NoP.nil (fun _ _=>trivial) (fun W' ms' α hL' hI=>⟨[.c (.slc (some ((α 6).add (0+0))) 2049 2049)],?_,(fn_qprintM (by omega)).mono (Res':=fun y hs=>y=.tup [.c (.str []),.c (.int .i64 7)]∧hs.drop 1=[]) (fun x hs hr=>?_)⟩) (fun x hs hr=>?_) ?_
   ·(repeat first|exact trivial|refine ent1 ?_)
   ·obtain ⟨rfl,rfl⟩:=hr
    exact ⟨rfl,rfl⟩
   ·rw [hr.2]; exact NoP.nil
   rintro y hs' ⟨rfl,hdropT⟩
   rw [hdropT]
   (repeat show _∧_;first|refine yr ?_|refine yt ?_|refine yf ?_|refine yo ?_)
   exact ⟨.a (.c (.bool true)),[[.past _ _]],⟨[0],⟨rfl,rfl,rfl⟩,by (repeat first|exact trivial|refine ent1 ?_)⟩,rfl⟩
  have k4:decide (0#64<z.t)=true:=decide_eq_true h4
  (repeat show _∧_;first|refine yr ?_|refine yt ?_|refine yf ?_|refine ya k3 ?_|refine yb k3 ?_|refine ya k4 ?_|refine yb k4 ?_|refine yo ?_)
  refine loadR (i:=0) rfl him (j:=1) (y:=.w64 z.t) rfl ?_
  (repeat show _∧_;first|refine yr ?_|refine yt ?_|refine yf ?_|refine yo ?_)
  obtain ⟨csN,hrN,hiN⟩:=hrowB.row (by omega)
  refine call_same (fn_qwithN hrN hiN hrowB.len hrowB.le (by omega) (by omega) (z.t-1#64) k hkn) [0,3,4,6] rfl (by (repeat first|exact trivial|refine ent1 ?_)) (by (repeat first|exact trivial|refine ent1 ?_); refine ⟨fun j _=>eqC_cells (L:=[.w64 1#64]) (fun _ _=>rfl) (fun x hx=>by simp at hx; subst hx; (repeat first|exact trivial|refine ent1 ?_)) j,?_⟩; (repeat first|exact trivial|refine ent1 ?_)) (fun _ _=>trivial) ?_
  rintro y hs' ⟨cN,hcN,rfl,rfl⟩
  (repeat show _∧_;first|refine yr ?_|refine yt ?_|refine yf ?_|refine yo ?_)
  obtain ⟨c1,c2⟩:=prt_time (es:=row.take k) (fs:=row.drop k) (t:=z.t) (by rw [List.length_take,List.length_drop]; omega) (hg0.1.take k) (fun z hz=>hg0.2 z (List.mem_of_mem_take hz)) (hg0.1.hi hz) (by rw [BitVec.lt_def] at h4; simpa using h4) (by have:=lastT_eq (last:=0#64) hz; rwa [show k-1+1=k by omega] at this)
  have hlN:=fun {W':World} {ms':List Nat} {α:Nat→Addr} hL' h6 h7=>lendN (W':=W') (ms':=ms') (α:=α) (F:=fun j=>memB j [6,7]) (g:=bk 7 [0,3,4,6]) (nb:=6) (nr:=7) (t:=z.t-1#64) hrN hL' rfl rfl hkn hrowB.len hcN (by omega) h6 h7
  refine call_lend [6,7] 0 [] rfl rfl (by (repeat first|exact trivial|refine ent1 ?_)) NoP.nil (fun _ _=>trivial) (fun W' ms' α hL' hI=>⟨[.c (.slc (some ((α 7).add (0+0))) (n+1) cN)],?_,(fn_qprint' (hTB.later hL') (hlN hL' (hI 6 rfl (by show flat [Seg.row 1 _]≠[]; simp [flat])) (hI 7 rfl))).mono (Res':=fun y hs=>y=.tup [.c (.str []),.c (.int .i64 21)]∧hs.drop 1=[]) (fun x hs hr=>?_)⟩) (fun x hs hr=>?_) ?_
  ·(repeat first|exact trivial|refine ent1 ?_)
  ·obtain ⟨_,_,_,rfl,rfl⟩:=hr
   rw [c2,if_neg (by decide)]
   exact ⟨rfl,rfl⟩
  ·rw [hr.2]; exact NoP.nil
  rintro y hs' ⟨rfl,hdropN⟩
  rw [hdropN]
  (repeat show _∧_;first|refine yr ?_|refine yt ?_|refine yf ?_|refine yo ?_)
  refine call_lend [6,7] 0 [] rfl rfl (by (repeat first|exact trivial|refine ent1 ?_)) NoP.nil (fun _ _=>trivial) (fun W' ms' α hL' hI=>⟨[.c (.slc (some ((α 7).add (0+0))) (n+1) cN)],?_,(fn_printed (hlN hL' (hI 6 rfl (by show flat [Seg.row 1 _]≠[]; simp [flat])) (hI 7 rfl)) (ins_ok k hall c1) (by omega)).mono (Res':=fun y hs=>y=.a (.c (.str (U8 (put 4 (rootJ (row.take k++⟨6#8,z.t-1#64,[1#64],[]⟩::row.drop k))))))∧hs.drop 1=[]) (fun x hs hr=>?_)⟩) (fun x hs hr=>?_) ?_
  ·(repeat first|exact trivial|refine ent1 ?_)
  ·obtain ⟨rfl,rfl⟩:=hr
   exact ⟨rfl,rfl⟩
  ·rw [hr.2]; exact NoP.nil
  rintro y hs' ⟨rfl,hdropN⟩
  rw [hdropN]
  obtain ⟨p1,p2⟩:=parse_bad (ins_ok k hall c1) (by rw [ins_len hrl hkn]; omega) c2 (by decide)
  (repeat show _∧_;first|refine yr ?_|refine yt ?_|refine yf ?_|refine yo ?_)
  refine call_past (fn_qparseN hTB _ p2 p1) 0 [] rfl rfl (by exact And.intro rfl trivial) (by (repeat first|exact trivial|refine ent1 ?_)) (fun _ _=>trivial) (fun x hs hr=>?_) ?_
  ·obtain ⟨W',ms',_,h1,_,rfl⟩:=hr
   exact ⟨W',ms',rfl,h1⟩
  rintro y hs ⟨W9,ms9,_,hL9,rfl,rfl⟩
  (repeat show _∧_;first|refine yr ?_|refine yt ?_|refine yf ?_|refine yo ?_)
  (repeat show _∧_;first|refine yr ?_|refine yt ?_|refine yf ?_|refine yo ?_)
  (repeat show _∧_;first|refine yr ?_|refine yt ?_|refine yf ?_|refine yo ?_)
  refine call_lend [8] 0 [] rfl rfl (by (repeat first|exact trivial|refine ent1 ?_)) NoP.nil (fun _ _=>trivial) (fun W' ms' α hL' hI=>⟨[.c (.slc (some ((α 8).add (0+0))) 2049 2049)],?_,(fn_qprintM (by omega)).mono (Res':=fun y hs=>y=.tup [.c (.str []),.c (.int .i64 7)]∧hs.drop 1=[]) (fun x hs hr=>?_)⟩) (fun x hs hr=>?_) ?_
  ·(repeat first|exact trivial|refine ent1 ?_)
  ·obtain ⟨rfl,rfl⟩:=hr
   exact ⟨rfl,rfl⟩
  ·rw [hr.2]; exact NoP.nil
  rintro y hs' ⟨rfl,hdropT⟩
  rw [hdropT]
  (repeat show _∧_;first|refine yr ?_|refine yt ?_|refine yf ?_|refine yo ?_)
  exact ⟨.a (.c (.bool true)),[[.past _ _]],⟨[0],⟨rfl,rfl,rfl⟩,by (repeat first|exact trivial|refine ent1 ?_)⟩,rfl⟩
end Sx
end
section
namespace Sx
open Go.RowKit Go.ChangeShapes Go.WideShapes Sha Vi Ev

structure EvIn (w:World) (e:Ev) (x:EvC) (cs:Array Value):Prop where
 at_:EvAt w [] x e
 is:∀ r:Rho,SA.Is r (.agg (evS e x)) (.agg cs)
variable {H : Type} {enc : TypeId × Value → H} {w : World} {base : Nat} {held : Bool}
set_option maxRecDepth 100000 in
theorem open_evA {rc:Reach} {b0:Nat} {v:Value} {d:DataW H} {p:List MemPlace} (hval:Value.okWide Tryd.prog w rc b0 27 v) (h:DataW.Trod enc Tryd.prog w base (fun _=>true) held 27 v d p) :
  ∃ (e:Ev) (x:EvC) (cs:Array Value),v=.agg cs∧EvIn w e x cs:=by
 obtain ⟨cs,rfl,hsz⟩:=okWide_struct Tryd.underlying27 hval
 have hsz:cs.size=4:=hsz.trans (by kernel_rfl)
 obtain ⟨fuel,hf⟩:=h
 obtain ⟨e,x,hx,hi⟩:=open_ev (cs:=cs.toList) (by simpa using hsz) hf
 exact ⟨e,x,cs,rfl,hx,fun ρ=>⟨cs.toList,by simp,hi ρ⟩⟩
end Sx
end
section
namespace Sx
open Go.RowKit Sha Vi Js

theorem laysU8:Go.Proofs.Lays.n260 Tryd.prog Tryd.lays197_ren:={ Tryd.lays197 with }
theorem extraU8:Go.Proofs.U8Extra Tryd.prog Tryd.lays197_ren:=⟨by kernel_rfl,by kernel_rfl,by kernel_rfl,by kernel_rfl,by kernel_rfl,by kernel_rfl,by kernel_rfl⟩
theorem first_eq:Rows.laid_unicode_utf8_first=Lib.firstData:=by kernel_rfl
theorem accept_eq:(Rows.laid_unicode_utf8_acceptRanges:DataW Unit)=Lib.acceptData:=by kernel_rfl
theorem pow_eq:(Rows.laid_internal_strconv_uint64pow10:DataW Unit)=Lib.tabData .u64 Lib.pow10Tab:=by kernel_rfl
theorem tabIs_reads {P:Program} {W:World} {name:String} {k:IntKind} {zs:List Int} {g:Nat} {t e:TypeId} {n:Nat}
  (hg:P.globalNamed name=some g) (hty:(P.globals[g]?).map (·.type)=some t) (ht:P.underlying t=some (.array n e)) (he:P.underlying e=some (.int k)) (hce:P.cellsOf e=1) (hct:P.cellsOf t=n)
  (h:Lib.VarReads P W name (Lib.tabData k zs)):Lib.TabIs P W name k zs:=by
 obtain ⟨g',t',cs,fuel,p,hg',ht',hvar,hd⟩:=h
 obtain rfl:=Option.some.inj (hg.symm.trans hg')
 obtain rfl:=Option.some.inj (hty.symm.trans ht')
 unfold Lib.TabIs
 rw [hvar,← Lib.cells_of_tab ht he hce hct hd]
theorem size_reads {P:Program} {W:World} {name:String} {d:DataW Unit} {g:Nat} (hg:P.globalNamed name=some g) (h:Lib.VarReads P W name d):g<W.heap.size:=by
 obtain ⟨g',t',cs,fuel,p,hg',ht',hvar,hd⟩:=h
 obtain rfl:=Option.some.inj (hg.symm.trans hg')
 rcases Nat.lt_or_ge g W.heap.size with h|h
 ·exact h
 ·unfold World.var? at hvar
  rw [hg] at hvar
  simp [Array.getElem?_eq_none h] at hvar
theorem tabs_of_laid {W:World} (h:laidMetH Tryd.prog Rows.jsonErrorsRow.laid W):Tabs W []:=by
 rw [MakeChecks.laidMetH_plain _ _ _ (by kernel_rfl)] at h
 have r5:=Lib.laidMet.reads h (.tail _ (.head _))
 have r3:=Lib.laidMet.reads h (.tail _ (.tail _ (.head _)))
 have r1:=Lib.laidMet.reads h (.tail _ (.tail _ (.tail _ (.head _))))
 have r0:=Lib.laidMet.reads h (.tail _ (.tail _ (.tail _ (.tail _ (.head _)))))
 rw [first_eq] at r0
 rw [accept_eq] at r1
 rw [pow_eq] at r3
 refine ⟨Go.Proofs.utf8Tabs_of_reads laysU8 extraU8 r0 r1,tabIs_reads (P:=Tryd.prog) (name:=p10n) p10_glob (by kernel_rfl) (t:=156) (e:=23) (n:=20) Tryd.underlying156 Tryd.underlying23 (by kernel_rfl) (by kernel_rfl) (by exact r3),?_,fun B _=>List.not_mem_nil⟩
 exact size_reads (g:=5) (by kernel_rfl) r5
end Sx
end
end Go.Proofs.YtnehmcpkeamghaaDoor
