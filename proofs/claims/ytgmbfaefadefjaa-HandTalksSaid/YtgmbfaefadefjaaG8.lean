/-
  Texts of this claim, part 8: KdfD, ShaZ, KdfN, HnF, HnH, HnG, HnK, HnP, HnW, Sxz, Sxzn, Rw, HnS, HnT. No condition of its own.
-/
import Derived.Test.YtgmbfaefadefjaaG7
namespace Go.Proofs.Ytgmbfaefadefjaa
set_option linter.unusedVariables false
section
namespace Sx
open Sha

theorem fn_knew:Fn Try.prog tds 6 [] [] (fun _=>True) (fun x hs=>x=.a (.c (.p 0 0 0))∧hs=[shaT 0 0 (fun _=>0#32) (fun _=>0#32)]):=by
 refine fn_of_body tds_ok follows_ Try.func6 rfl (t:=anys 2) rfl (fun w r0 hr _=>?_)
 obtain rfl:r0=[]:=List.eq_nil_of_length_eq_zero hr
 refine ⟨.a (.c (.p 0 0 0)),[shaT 0 0 (fun _=>0#32) (fun _=>0#32)],⟨[0],⟨rfl,rfl,rfl⟩,?_⟩,rfl,rfl⟩
 (repeat first|exact trivial|refine ⟨rfl,?_⟩|refine ⟨fun _ _=>⟨rfl,trivial⟩,?_⟩|refine ⟨by omega,?_⟩)
set_option maxRecDepth 20000 in
theorem fn_extract (zs zk:Bool) (Ns Nk os ok cs ck:Nat) (salt known:Bs) (dn:BitVec 32) (f g:Nat→BitVec 32) (hd:dn=0#32∨dn=1#32∧f=first∧g=steps)
  (hNs:os+salt.length≤Ns) (hcs:salt.length≤cs) (hzs:zs=true→salt=[]) (hNk:ok+known.length≤Nk) (hck:known.length≤ck) (hzk:zk=true→known=[]) :
  FnR Try.prog tds 17 2 [bts zs Ns os salt.length (L salt),bts zk Nk ok known.length (L known),shaT dn 0 f g] [.c (.p 2 0 0),.c (.sn zs 0 0 os salt.length cs),.c (.sn zk 1 0 ok known.length ck)] (fun _=>True)
   (fun x hs=>x=.a (.agg [.row 32 fun i=>.w8 (L (markL salt known) i)])∧hs=[bts zs Ns os salt.length (L salt),bts zk Nk ok known.length (L known),shaT 1 0 first steps]):=by
 refine fn_of_body tds_ok follows_ Try.func17 rfl (t:=[.a (.c (.p 2 0 0)),.a (.c (.sn zs 0 0 os salt.length cs)),.a (.c (.sn zk 1 0 ok known.length ck)),.any,.any,.any,.any,.any,.any,.any,.any,.any,.any,.any,.any,.any,.any]) rfl (fun w r0 hr _=>?_)
 obtain ⟨x0,x1,x2,rfl⟩:=len3' hr
 refine ⟨fun h=>Bool.noConfusion h,fun _=>?_⟩
 (repeat first|refine And.intro (by omega) ?_|refine And.intro (by decide) ?_|(with_reducible refine frc_parts (by first|omega|decide) ?_)|(with_reducible refine frc_bytesL (by first|omega|decide) ?_)|refine And.intro rfl ?_)
 refine call_same (fn_smark zs zk true true Ns Nk 0 0 os ok 0 0 cs ck 0 0 salt known [] [] 1 1 1 dn f g hd hNs hcs hzs hNk hck hzk (by decide) (by decide) (fun _=>rfl) (by decide) (by decide) (fun _=>rfl) (by decide) (by decide)) [0,1,4,4,4,2] rfl (by (repeat first|exact trivial|refine ent1 ?_)) ?_ (fun _ _=>trivial) ?_
 ·refine eqC_bts (eqC_bts ?_)
  (repeat first|exact trivial|refine ent1 ?_)
  refine ⟨fun j hj=>eqC_parts (fun i hi=>?_) j,?_⟩
  ·obtain rfl:i=0:=by omega
   exact ⟨rfl,rfl,rfl,rfl,trivial⟩
  ·(repeat first|exact trivial|refine ent1 ?_)
 rintro x hs ⟨rfl,rfl⟩
 rw [cat1]
 (repeat first|refine And.intro (by omega) ?_|refine And.intro (by decide) ?_|(with_reducible refine frc_parts (by first|omega|decide) ?_)|(with_reducible refine frc_bytesL (by first|omega|decide) ?_)|refine And.intro rfl ?_)
 refine ⟨.a (.agg [.row 32 fun i=>.w8 (L (markL salt known) i)]),[bts zs Ns os salt.length (L salt),bts zk Nk ok known.length (L known),shaT 1 0 first steps],⟨[0,1,2],⟨rfl,rfl,rfl⟩,?_⟩,rfl,rfl⟩
 (repeat first|exact trivial|refine ent1 ?_)
 refine eqC_bts (eqC_bts ?_)
 (repeat first|exact trivial|refine ent1 ?_)
set_option maxRecDepth 20000 in
theorem fn_kderive (zd:Bool) (Nd od cd:Nat) (s said:Bs) (lab:List UInt8) (dn:BitVec 32) (f g:Nat→BitVec 32) (hd:dn=0#32∨dn=1#32∧f=first∧g=steps)
  (hs:s.length=32) (hl:lab.length≤249) (hNd:od+said.length≤Nd) (hcd:said.length≤cd) (hzd:zd=true→said=[]) :
  FnR Try.prog tds 27 1 [bts zd Nd od said.length (L said),shaT dn 0 f g] [.c (.p 1 0 0),.agg [.row 32 fun i=>.w8 (L s i)],.c (.str lab),.c (.sn zd 0 0 od said.length cd)] (fun _=>True)
   (fun x hs=>x=.a (.agg [.row 32 fun i=>.w8 (exF s (labT lab (sumL said) 32) i)])∧∃ (dn':BitVec 32) (f' g':Nat→BitVec 32),(dn'=0#32∨dn'=1#32∧f'=first∧g'=steps)∧hs=[bts zd Nd od said.length (L said),shaT dn' 0 f' g']):=by
 refine fn_of_body tds_ok follows_ Try.func27 rfl (t:=[.a (.c (.p 1 0 0)),.a (.agg [.row 32 fun i=>.w8 (L s i)]),.a (.c (.str (lab))),.a (.c (.sn zd 0 0 od said.length cd)),.any,.any,.any,.any,.any,.any,.any,.any,.any,.any,.any,.any,.any,.any,.any,.any,.any,.any,.any,.any,.any,.any,.any,.any,.any,.any,.any,.any,.any,.any]) rfl (fun w r0 hr _=>?_)
 obtain ⟨x0,x1,rfl⟩:=len2' hr
 (repeat first|refine And.intro (by omega) ?_|refine And.intro (by decide) ?_|(with_reducible refine frc_parts (by first|omega|decide) ?_)|(with_reducible refine frc_bytesL (by first|omega|decide) ?_)|refine And.intro rfl ?_)
 refine ⟨fun h=>Bool.noConfusion h,fun _=>?_⟩
 (repeat first|refine And.intro (by omega) ?_|refine And.intro (by decide) ?_|(with_reducible refine frc_parts (by first|omega|decide) ?_)|(with_reducible refine frc_bytesL (by first|omega|decide) ?_)|refine And.intro rfl ?_)
 refine call_same (fn_ssum3 zd true true Nd 0 0 od 0 0 cd 0 0 said [] [] 1 1 1 dn f g hd hNd (by decide) (by decide) hcd (by decide) (by decide) hzd (fun _=>rfl) (fun _=>rfl) (by decide) (by decide)) [0,5,5,5,1] rfl (by (repeat first|exact trivial|refine ent1 ?_)) ?_ (fun _ _=>trivial) ?_
 ·refine eqC_bts ?_
  (repeat first|exact trivial|refine ent1 ?_)
  refine ⟨fun j hj=>eqC_parts (fun i hi=>?_) j,?_⟩
  ·obtain rfl:i=0:=by omega
   exact ⟨rfl,rfl,rfl,rfl,trivial⟩
  ·(repeat first|exact trivial|refine ent1 ?_)
 rintro x hs' ⟨rfl,rfl⟩
 rw [cat1]
 obtain ⟨S,hS⟩:∃ S,sumL said=S:=⟨_,rfl⟩
 have hSl:S.length=32:=by rw [← hS,sumL_len]
 rw [hS]
 (repeat first|refine And.intro (by omega) ?_|refine And.intro (by decide) ?_|(with_reducible refine frc_parts (by first|omega|decide) ?_)|(with_reducible refine frc_bytesL (by first|omega|decide) ?_)|refine And.intro rfl ?_)
 refine ⟨some [2],[],[(0,true),(1,true),(2,true),(3,true),(4,false),(5,true),(6,true),(7,true),(8,true),(9,true)],[],by kernel_rfl,?_⟩
 (repeat first|refine And.intro (by omega) ?_|refine And.intro (by decide) ?_|(with_reducible refine frc_parts (by first|omega|decide) ?_)|(with_reducible refine frc_bytesL (by first|omega|decide) ?_)|refine And.intro rfl ?_)
 refine call_same (fn_klabel false 32 0 32 s S lab 32 1 first steps (.inr ⟨rfl,rfl,rfl⟩) hs (by omega) (by omega) (fun h=>Bool.noConfusion h)) [6,1] rfl ⟨rfl,rfl,rfl,fun j hj=>⟨rfl,trivial⟩,rfl,rfl,rfl,hSl.symm,rfl,rfl,trivial⟩ ?_ (fun _ _=>trivial) ?_
 ·refine ⟨rfl,fun j hj=>eqC_win0 (fun i hi=>rfl) j,?_⟩
  (repeat first|exact trivial|refine ent1 ?_)
 rintro x hs' ⟨_,_,hgood⟩
 obtain ⟨z,N,dn',f',g',hd',hz,hz2,hN,rfl,rfl⟩:=hgood hl (by omega) (by decide) (by decide)
 obtain rfl:=hz2 (by decide)
 have hN:32≤N:=hN
 (repeat first|refine And.intro (by omega) ?_|refine And.intro (by decide) ?_|(with_reducible refine frc_parts (by first|omega|decide) ?_)|(with_reducible refine frc_bytesL (by first|omega|decide) ?_)|refine And.intro rfl ?_)
 refine sn_btsM (g:=bk 7 [6,1]) (N:=N) (b:=exF s (labT lab S 32)) ?_ hN (fun h=>Bool.noConfusion h) (fun gx hg=>?_)
 ·rfl
 (repeat first|refine And.intro (by omega) ?_|refine And.intro (by decide) ?_|(with_reducible refine frc_parts (by first|omega|decide) ?_)|(with_reducible refine frc_bytesL (by first|omega|decide) ?_)|refine And.intro rfl ?_)
 refine ⟨.a (.agg [.row 32 fun i=>.w8 (exF s (labT lab S 32) i)]),[bts zd Nd od said.length (L said),shaT dn' 0 f' g'],⟨[0,1],⟨rfl,rfl,rfl⟩,?_⟩,rfl,dn',f',g',hd',rfl⟩
 (repeat first|exact trivial|refine ent1 ?_)
 refine ⟨fun j hj=>eqC_w8 ?_,?_⟩
 ·show updN (fun _=>SC.w8 0) 0 32 gx j=_
  unfold updN
  rw [if_pos ⟨by omega,by omega⟩,Nat.sub_zero]
  exact hg j hj
 ·(repeat first|exact trivial|refine ent1 ?_)
  refine eqC_bts ?_
  (repeat first|exact trivial|refine ent1 ?_)
set_option maxRecDepth 20000 in
theorem fn_rderive (zs zd:Bool) (Ns Nd os od cs cd:Nat) (s said:Bs) (lab:List UInt8) (hNs:os+s.length≤Ns) (hcs:s.length≤cs) (hzs:zs=true→s=[]) (hNd:od+said.length≤Nd) (hcd:said.length≤cd) (hzd:zd=true→said=[])
  (hsl:s.length<1000000) (hdl:said.length<1000000) (hll:lab.length<100000) :
  FnR Try.prog tds 11 2 [bts zs Ns os s.length (L s),bts zd Nd od said.length (L said)] [.c (.sn zs 0 0 os s.length cs),.c (.str lab),.c (.sn zd 1 0 od said.length cd)] (fun _=>True)
   (fun x hs=>∃ N c:Nat,32≤N∧32≤c∧x=.a (.c (.sl 2 0 0 32 c))∧hs=[bts zs Ns os s.length (L s),bts zd Nd od said.length (L said),[.row N (winF 0 32 (exF s (labT lab (sumL said) 32)))]]):=by
 refine fn_of_body tds_ok follows_ Try.func11 rfl (t:=.a (.c (.sn zs 0 0 os s.length cs))::.a (.c (.str lab))::.a (.c (.sn zd 1 0 od said.length cd))::anys (Try.f11.ntmps-3)) rfl (fun w r0 hr _=>?_)
 obtain ⟨x0,x1,rfl⟩:=len2' hr
 refine ⟨by kernel_rfl,call_same (fn_rsum zd Nd od cd said hNd hcd hzd (by omega)) [1] rfl (by (repeat first|exact trivial|refine ent1 ?_)) ?_ (fun _ _=>trivial) ?_⟩
 ·exact eqC_bts trivial
 rintro x hs' ⟨c1,rfl,rfl,hc1⟩
 obtain ⟨S,hS⟩:∃ S,sumL said=S:=⟨_,rfl⟩
 have hSl:S.length=32:=by rw [← hS,sumL_len]
 rw [hS]
 refine ⟨by kernel_rfl,call_same (fn_rlabel zs false Ns c1 os 0 cs c1 s S lab 32 hNs hcs hzs (by omega) (by omega) (fun h=>Bool.noConfusion h) hsl (by omega) hll (by decide)) [0,2] rfl ⟨rfl,rfl,rfl,rfl,rfl,rfl,rfl,hSl.symm,rfl,rfl,trivial⟩ ?_ (fun _ _=>trivial) ?_⟩
 ·refine eqC_bts ?_
  exact ⟨rfl,fun j hj=>eqC_winBM (by omega),trivial⟩
 rintro x hs' ⟨_,h1⟩
 obtain ⟨N,c,hN,hc,rfl,rfl⟩:=h1 (by decide)
 refine ⟨.a (.c (.sl 2 0 0 32 c)),[bts zs Ns os s.length (L s),bts zd Nd od said.length (L said),[.row N (winF 0 32 (exF s (labT lab S 32)))]],⟨[0,1,3],⟨rfl,rfl,rfl⟩,?_⟩,N,c,hN,hc,rfl,rfl⟩
 (repeat first|exact trivial|refine ent1 ?_)
 refine eqC_bts (eqC_bts ?_)
 (repeat first|exact trivial|refine ent1 ?_)
end Sx
end
section
namespace Sx
open Sha

end Sx
end
section
namespace Sx
open Sha

theorem fn_tables (dn:BitVec 32) (f g:Nat→BitVec 32):Fn Try.prog tds 36 [shaT dn 0 f g] [.c (.p 0 0 0)] (fun _=>True) (fun x hs=>x=.a (.c (.p 0 0 0))∧hs=[shaT dn 0 f g]):=by
 refine fn_of_body tds_ok follows_ Try.func36 rfl (t:=.a (.c (.p 0 0 0))::anys (Try.f36.ntmps-1)) rfl (fun w r0 hr _=>?_)
 obtain ⟨x0,rfl⟩:=List.length_eq_one_iff.1 hr
 refine ⟨fun h=>Bool.noConfusion h,fun _=>?_⟩
 refine ⟨.a (.c (.p 0 0 0)),[shaT dn 0 f g],⟨[0],⟨rfl,rfl,rfl⟩,?_⟩,rfl,rfl⟩
 (repeat first|exact trivial|refine ent1 ?_)
end Sx
end
section
namespace Vi
open Sha Sx
def dervL (s:Bs) (lab:List UInt8) (said:Bs):Bs:=tab 32 (exF s (labT lab (sumL said) 32))
theorem derv_len (s:Bs) (lab:List UInt8) (said:Bs):(dervL s lab said).length=32:=tab_len _ _
def labM (k:BitVec 8):List UInt8:=if k=1#8 then [114,101,115,32,98,105,110,100,101,114] else if k=2#8 then [115,32,118,101,114,105,102,121] else [99,32,102,105,110,105,115,104,101,100]
def hmarkL (early:Bs) (k:BitVec 8) (said ahead:Bs):Bs:=markL (dervL early (labM k) []) (said++ahead)
theorem hmark_len (early:Bs) (k:BitVec 8) (said ahead:Bs):(hmarkL early k said ahead).length=32:=markL_len _ _
end Vi
namespace Sx
open Sha Vi

abbrev scC (t:Nat) (early:Bs) (i:Nat) (S:Sl):List Seg:=[.one (.p t 0 0),ar early,.one (svC i S)]
def TabOk (dn:BitVec 32) (f g:Nat→BitVec 32):Prop:=dn=0#32∨dn=1#32∧f=first∧g=steps
theorem derv_row {s said:Bs} {lab:List UInt8} (i:Nat) (hi:i<32):exF s (labT lab (sumL said) 32) i=L (dervL s lab said) i:=(L_tab hi).symm
set_option maxRecDepth 20000 in
set_option maxHeartbeats 8000000 in
theorem fn_hmark (S A:Sl) (hS:S.Ok) (hA:A.Ok) (early:Bs) (he:early.length=32) (k:BitVec 8) (dn:BitVec 32) (f g:Nat→BitVec 32) (hd:TabOk dn f g) :
  FnR Try.prog tds 21 3 [svB S,svB A,scC 3 early 0 S,shaT dn 0 f g] [.c (.p 2 0 0),.c (.w8 k),.c (svC 1 A)] (fun _=>True)
  (fun y hs=>y=.a (.agg [ar (hmarkL early k S.l A.l)])∧hs=[svB S,svB A,scC 3 early 0 S,shaT 1 0 first steps]):=by
 refine fn_of_body tds_ok follows_ Try.func21 rfl (t:=.a (.c (.p 2 0 0))::.a (.c (.w8 k))::.a (.c (svC 1 A))::anys (Try.f21.ntmps-3)) rfl (fun w r0 hr _=>?_)
 obtain ⟨x0,x1,x2,x3,rfl⟩:=len4' hr
 by_cases h1:k=1#8
 ·have e1:decide (k=1#8)=true:=decide_eq_true h1
  rw [show hmarkL early k S.l A.l=markL (dervL early [114,101,115,32,98,105,110,100,101,114] []) (S.l++A.l) by unfold hmarkL labM; rw [if_pos h1]]
  (repeat show _∧_;first|refine yr ?_|refine yt ?_|refine yf ?_|refine ya e1 ?_|refine yb e1 ?_|refine yo ?_)
  refine ⟨some [2],[10],[(0,true),(1,true),(2,true),(3,true),(4,true),(5,true),(6,true),(7,true),(8,true),(9,false),(10,false)],[11],by kernel_rfl,?_⟩
  (repeat show _∧_;first|refine yr ?_|refine yt ?_|refine yf ?_|refine yo ?_)
  refine call_same (fn_kderive true 0 0 0 early [] [114,101,115,32,98,105,110,100,101,114] dn f g hd he (by decide) (Nat.le_refl _) (Nat.le_refl _) (fun _=>rfl)) [0,3] rfl (by (repeat first|exact trivial|refine ent1 ?_)) (by exact eqSegs_nil (by (repeat first|exact trivial|refine ent1 ?_))) (fun _ _=>trivial) ?_
  rintro y hs' ⟨rfl,dn2,f2,g2,hd2,rfl⟩
  have hrow:=fun i hi=>derv_row (s:=early) (said:=[]) (lab:=[114,101,115,32,98,105,110,100,101,114]) i hi
  have hKl:=derv_len early [114,101,115,32,98,105,110,100,101,114] []
  generalize dervL early [114,101,115,32,98,105,110,100,101,114] []=K at hrow hKl ⊢
  (repeat show _∧_;first|refine yr ?_|refine yt ?_|refine yf ?_|refine yo ?_)
  refine ⟨some [2],[1000,4,11],[(0,true),(1,true),(2,true),(3,true),(5,true),(6,true),(7,true),(8,true),(9,true),(10,true),(4,false),(11,false),(12,false)],[13],by kernel_rfl,?_⟩
  (repeat show _∧_;first|refine yr ?_|refine yt ?_|refine yf ?_|refine yo ?_)
  refine And.intro ?_ ?_
  ·(repeat show _∧_;first|refine yr ?_|refine yt ?_|refine yf ?_|refine yo ?_)
   refine call_same (fn_tables dn2 f2 g2) [3] rfl (by (repeat first|exact trivial|refine ent1 ?_)) (by (repeat first|exact trivial|refine ent1 ?_)) (fun _ _=>trivial) ?_
   rintro y hs' ⟨rfl,rfl⟩
   (repeat show _∧_;first|refine yr ?_|refine yt ?_|refine yf ?_|refine yo ?_)
   refine call_same (fn_smark false S.z A.z true 32 S.N A.N 0 0 S.o A.o 0 32 S.c A.c 0 K S.l A.l [] 2 2 2 dn2 f2 g2 hd2 (by omega) (by omega) (fun h=>Bool.noConfusion h) hS.fit hS.cap hS.nil hA.fit hA.cap hA.nil (by decide) (by decide) (fun _=>rfl) (by decide) (by decide)) [5,0,1,6,6,3] rfl (by (repeat first|exact trivial|refine ent1 ?_); refine ⟨hKl.symm,rfl,?_⟩; (repeat first|exact trivial|refine ent1 ?_)) ?_ (fun _ _=>trivial) ?_
   ·refine ⟨rfl,fun j hj=>eqC_win0 (fun i hi=>congrArg SC.w8 (hrow i (by rw [hKl] at hi; exact hi))) j,?_⟩
    refine eqC_bts (eqC_bts ?_)
    (repeat first|exact trivial|refine ent1 ?_)
    refine ⟨fun j hj=>eqC_parts (fun i hi=>?_) j,?_⟩
    ·have hi:i=0∨i=1:=by omega
     rcases hi with rfl|rfl
     ·exact ⟨rfl,rfl,rfl,rfl,trivial⟩
     ·exact ⟨rfl,rfl,rfl,rfl,trivial⟩
    ·(repeat first|exact trivial|refine ent1 ?_)
   rintro y hs' ⟨rfl,rfl⟩
   rw [cat2]
   (repeat show _∧_;first|refine yr ?_|refine yt ?_|refine yf ?_|refine yo ?_)
   (repeat first|refine And.intro (by omega) ?_|refine And.intro (by decide) ?_|(with_reducible refine frc_parts (by first|omega|decide) ?_)|(with_reducible refine frc_bytesL (by first|omega|decide) ?_)|refine And.intro rfl ?_)
   refine ⟨.a (.agg [ar (markL K (S.l++A.l))]),_,⟨[0,1,2,3],⟨rfl,rfl,rfl⟩,?_⟩,rfl,rfl⟩
   (repeat first|exact trivial|refine ent1 ?_)
   refine eqC_bts (eqC_bts ?_)
   (repeat first|exact trivial|refine ent1 ?_)
  ·(repeat show _∧_;first|refine yr ?_|refine yt ?_|refine yf ?_|refine yo ?_)
   refine call_same (fn_tables dn2 f2 g2) [3] rfl (by (repeat first|exact trivial|refine ent1 ?_)) (by (repeat first|exact trivial|refine ent1 ?_)) (fun _ _=>trivial) ?_
   rintro y hs' ⟨rfl,rfl⟩
   (repeat show _∧_;first|refine yr ?_|refine yt ?_|refine yf ?_|refine yo ?_)
   refine call_same (fn_smark false S.z A.z true 32 S.N A.N 0 0 S.o A.o 0 32 S.c A.c 0 K S.l A.l [] 2 2 2 dn2 f2 g2 hd2 (by omega) (by omega) (fun h=>Bool.noConfusion h) hS.fit hS.cap hS.nil hA.fit hA.cap hA.nil (by decide) (by decide) (fun _=>rfl) (by decide) (by decide)) [5,0,1,6,6,3] rfl (by (repeat first|exact trivial|refine ent1 ?_); refine ⟨hKl.symm,rfl,?_⟩; (repeat first|exact trivial|refine ent1 ?_)) ?_ (fun _ _=>trivial) ?_
   ·refine ⟨rfl,fun j hj=>eqC_win0 (fun i hi=>congrArg SC.w8 (hrow i (by rw [hKl] at hi; exact hi))) j,?_⟩
    refine eqC_bts (eqC_bts ?_)
    (repeat first|exact trivial|refine ent1 ?_)
    refine ⟨fun j hj=>eqC_parts (fun i hi=>?_) j,?_⟩
    ·have hi:i=0∨i=1:=by omega
     rcases hi with rfl|rfl
     ·exact ⟨rfl,rfl,rfl,rfl,trivial⟩
     ·exact ⟨rfl,rfl,rfl,rfl,trivial⟩
    ·(repeat first|exact trivial|refine ent1 ?_)
   rintro y hs' ⟨rfl,rfl⟩
   rw [cat2]
   (repeat show _∧_;first|refine yr ?_|refine yt ?_|refine yf ?_|refine yo ?_)
   (repeat first|refine And.intro (by omega) ?_|refine And.intro (by decide) ?_|(with_reducible refine frc_parts (by first|omega|decide) ?_)|(with_reducible refine frc_bytesL (by first|omega|decide) ?_)|refine And.intro rfl ?_)
   refine ⟨.a (.agg [ar (markL K (S.l++A.l))]),_,⟨[0,1,2,3],⟨rfl,rfl,rfl⟩,?_⟩,rfl,rfl⟩
   (repeat first|exact trivial|refine ent1 ?_)
   refine eqC_bts (eqC_bts ?_)
   (repeat first|exact trivial|refine ent1 ?_)
 have e1:decide (k=1#8)=false:=decide_eq_false h1
 by_cases h2:k=2#8
 ·have e2:decide (k=2#8)=true:=decide_eq_true h2
  rw [show hmarkL early k S.l A.l=markL (dervL early [115,32,118,101,114,105,102,121] []) (S.l++A.l) by unfold hmarkL labM; rw [if_neg h1,if_pos h2]]
  (repeat show _∧_;first|refine yr ?_|refine yt ?_|refine yf ?_|refine ya e1 ?_|refine yb e1 ?_|refine ya e2 ?_|refine yb e2 ?_|refine yo ?_)
  refine ⟨some [2],[10],[(0,true),(1,true),(2,true),(3,true),(4,true),(5,true),(6,true),(7,true),(8,true),(9,false),(10,false)],[11],by kernel_rfl,?_⟩
  (repeat show _∧_;first|refine yr ?_|refine yt ?_|refine yf ?_|refine yo ?_)
  refine call_same (fn_kderive true 0 0 0 early [] [115,32,118,101,114,105,102,121] dn f g hd he (by decide) (Nat.le_refl _) (Nat.le_refl _) (fun _=>rfl)) [0,3] rfl (by (repeat first|exact trivial|refine ent1 ?_)) (by exact eqSegs_nil (by (repeat first|exact trivial|refine ent1 ?_))) (fun _ _=>trivial) ?_
  rintro y hs' ⟨rfl,dn2,f2,g2,hd2,rfl⟩
  have hrow:=fun i hi=>derv_row (s:=early) (said:=[]) (lab:=[115,32,118,101,114,105,102,121]) i hi
  have hKl:=derv_len early [115,32,118,101,114,105,102,121] []
  generalize dervL early [115,32,118,101,114,105,102,121] []=K at hrow hKl ⊢
  (repeat show _∧_;first|refine yr ?_|refine yt ?_|refine yf ?_|refine yo ?_)
  refine ⟨some [2],[1000,4,11],[(0,true),(1,true),(2,true),(3,true),(5,true),(6,true),(7,true),(8,true),(9,true),(10,true),(4,false),(11,false),(12,false)],[13],by kernel_rfl,?_⟩
  (repeat show _∧_;first|refine yr ?_|refine yt ?_|refine yf ?_|refine yo ?_)
  refine And.intro ?_ ?_
  ·(repeat show _∧_;first|refine yr ?_|refine yt ?_|refine yf ?_|refine yo ?_)
   refine call_same (fn_tables dn2 f2 g2) [3] rfl (by (repeat first|exact trivial|refine ent1 ?_)) (by (repeat first|exact trivial|refine ent1 ?_)) (fun _ _=>trivial) ?_
   rintro y hs' ⟨rfl,rfl⟩
   (repeat show _∧_;first|refine yr ?_|refine yt ?_|refine yf ?_|refine yo ?_)
   refine call_same (fn_smark false S.z A.z true 32 S.N A.N 0 0 S.o A.o 0 32 S.c A.c 0 K S.l A.l [] 2 2 2 dn2 f2 g2 hd2 (by omega) (by omega) (fun h=>Bool.noConfusion h) hS.fit hS.cap hS.nil hA.fit hA.cap hA.nil (by decide) (by decide) (fun _=>rfl) (by decide) (by decide)) [5,0,1,6,6,3] rfl (by (repeat first|exact trivial|refine ent1 ?_); refine ⟨hKl.symm,rfl,?_⟩; (repeat first|exact trivial|refine ent1 ?_)) ?_ (fun _ _=>trivial) ?_
   ·refine ⟨rfl,fun j hj=>eqC_win0 (fun i hi=>congrArg SC.w8 (hrow i (by rw [hKl] at hi; exact hi))) j,?_⟩
    refine eqC_bts (eqC_bts ?_)
    (repeat first|exact trivial|refine ent1 ?_)
    refine ⟨fun j hj=>eqC_parts (fun i hi=>?_) j,?_⟩
    ·have hi:i=0∨i=1:=by omega
     rcases hi with rfl|rfl
     ·exact ⟨rfl,rfl,rfl,rfl,trivial⟩
     ·exact ⟨rfl,rfl,rfl,rfl,trivial⟩
    ·(repeat first|exact trivial|refine ent1 ?_)
   rintro y hs' ⟨rfl,rfl⟩
   rw [cat2]
   (repeat show _∧_;first|refine yr ?_|refine yt ?_|refine yf ?_|refine yo ?_)
   (repeat first|refine And.intro (by omega) ?_|refine And.intro (by decide) ?_|(with_reducible refine frc_parts (by first|omega|decide) ?_)|(with_reducible refine frc_bytesL (by first|omega|decide) ?_)|refine And.intro rfl ?_)
   refine ⟨.a (.agg [ar (markL K (S.l++A.l))]),_,⟨[0,1,2,3],⟨rfl,rfl,rfl⟩,?_⟩,rfl,rfl⟩
   (repeat first|exact trivial|refine ent1 ?_)
   refine eqC_bts (eqC_bts ?_)
   (repeat first|exact trivial|refine ent1 ?_)
  ·(repeat show _∧_;first|refine yr ?_|refine yt ?_|refine yf ?_|refine yo ?_)
   refine call_same (fn_tables dn2 f2 g2) [3] rfl (by (repeat first|exact trivial|refine ent1 ?_)) (by (repeat first|exact trivial|refine ent1 ?_)) (fun _ _=>trivial) ?_
   rintro y hs' ⟨rfl,rfl⟩
   (repeat show _∧_;first|refine yr ?_|refine yt ?_|refine yf ?_|refine yo ?_)
   refine call_same (fn_smark false S.z A.z true 32 S.N A.N 0 0 S.o A.o 0 32 S.c A.c 0 K S.l A.l [] 2 2 2 dn2 f2 g2 hd2 (by omega) (by omega) (fun h=>Bool.noConfusion h) hS.fit hS.cap hS.nil hA.fit hA.cap hA.nil (by decide) (by decide) (fun _=>rfl) (by decide) (by decide)) [5,0,1,6,6,3] rfl (by (repeat first|exact trivial|refine ent1 ?_); refine ⟨hKl.symm,rfl,?_⟩; (repeat first|exact trivial|refine ent1 ?_)) ?_ (fun _ _=>trivial) ?_
   ·refine ⟨rfl,fun j hj=>eqC_win0 (fun i hi=>congrArg SC.w8 (hrow i (by rw [hKl] at hi; exact hi))) j,?_⟩
    refine eqC_bts (eqC_bts ?_)
    (repeat first|exact trivial|refine ent1 ?_)
    refine ⟨fun j hj=>eqC_parts (fun i hi=>?_) j,?_⟩
    ·have hi:i=0∨i=1:=by omega
     rcases hi with rfl|rfl
     ·exact ⟨rfl,rfl,rfl,rfl,trivial⟩
     ·exact ⟨rfl,rfl,rfl,rfl,trivial⟩
    ·(repeat first|exact trivial|refine ent1 ?_)
   rintro y hs' ⟨rfl,rfl⟩
   rw [cat2]
   (repeat show _∧_;first|refine yr ?_|refine yt ?_|refine yf ?_|refine yo ?_)
   (repeat first|refine And.intro (by omega) ?_|refine And.intro (by decide) ?_|(with_reducible refine frc_parts (by first|omega|decide) ?_)|(with_reducible refine frc_bytesL (by first|omega|decide) ?_)|refine And.intro rfl ?_)
   refine ⟨.a (.agg [ar (markL K (S.l++A.l))]),_,⟨[0,1,2,3],⟨rfl,rfl,rfl⟩,?_⟩,rfl,rfl⟩
   (repeat first|exact trivial|refine ent1 ?_)
   refine eqC_bts (eqC_bts ?_)
   (repeat first|exact trivial|refine ent1 ?_)
 have e2:decide (k=2#8)=false:=decide_eq_false h2
 rw [show hmarkL early k S.l A.l=markL (dervL early [99,32,102,105,110,105,115,104,101,100] []) (S.l++A.l) by unfold hmarkL labM; rw [if_neg h1,if_neg h2]]
 (repeat show _∧_;first|refine yr ?_|refine yt ?_|refine yf ?_|refine ya e1 ?_|refine yb e1 ?_|refine ya e2 ?_|refine yb e2 ?_|refine yo ?_)
 refine ⟨some [2],[10],[(0,true),(1,true),(2,true),(3,true),(4,true),(5,true),(6,true),(7,true),(8,true),(9,false),(10,false)],[11],by kernel_rfl,?_⟩
 (repeat show _∧_;first|refine yr ?_|refine yt ?_|refine yf ?_|refine yo ?_)
 refine call_same (fn_kderive true 0 0 0 early [] [99,32,102,105,110,105,115,104,101,100] dn f g hd he (by decide) (Nat.le_refl _) (Nat.le_refl _) (fun _=>rfl)) [0,3] rfl (by (repeat first|exact trivial|refine ent1 ?_)) (by exact eqSegs_nil (by (repeat first|exact trivial|refine ent1 ?_))) (fun _ _=>trivial) ?_
 rintro y hs' ⟨rfl,dn2,f2,g2,hd2,rfl⟩
 have hrow:=fun i hi=>derv_row (s:=early) (said:=[]) (lab:=[99,32,102,105,110,105,115,104,101,100]) i hi
 have hKl:=derv_len early [99,32,102,105,110,105,115,104,101,100] []
 generalize dervL early [99,32,102,105,110,105,115,104,101,100] []=K at hrow hKl ⊢
 (repeat show _∧_;first|refine yr ?_|refine yt ?_|refine yf ?_|refine yo ?_)
 refine ⟨some [2],[1000,4,11],[(0,true),(1,true),(2,true),(3,true),(5,true),(6,true),(7,true),(8,true),(9,true),(10,true),(4,false),(11,false),(12,false)],[13],by kernel_rfl,?_⟩
 (repeat show _∧_;first|refine yr ?_|refine yt ?_|refine yf ?_|refine yo ?_)
 refine And.intro ?_ ?_
 ·(repeat show _∧_;first|refine yr ?_|refine yt ?_|refine yf ?_|refine yo ?_)
  refine call_same (fn_tables dn2 f2 g2) [3] rfl (by (repeat first|exact trivial|refine ent1 ?_)) (by (repeat first|exact trivial|refine ent1 ?_)) (fun _ _=>trivial) ?_
  rintro y hs' ⟨rfl,rfl⟩
  (repeat show _∧_;first|refine yr ?_|refine yt ?_|refine yf ?_|refine yo ?_)
  refine call_same (fn_smark false S.z A.z true 32 S.N A.N 0 0 S.o A.o 0 32 S.c A.c 0 K S.l A.l [] 2 2 2 dn2 f2 g2 hd2 (by omega) (by omega) (fun h=>Bool.noConfusion h) hS.fit hS.cap hS.nil hA.fit hA.cap hA.nil (by decide) (by decide) (fun _=>rfl) (by decide) (by decide)) [5,0,1,6,6,3] rfl (by (repeat first|exact trivial|refine ent1 ?_); refine ⟨hKl.symm,rfl,?_⟩; (repeat first|exact trivial|refine ent1 ?_)) ?_ (fun _ _=>trivial) ?_
  ·refine ⟨rfl,fun j hj=>eqC_win0 (fun i hi=>congrArg SC.w8 (hrow i (by rw [hKl] at hi; exact hi))) j,?_⟩
   refine eqC_bts (eqC_bts ?_)
   (repeat first|exact trivial|refine ent1 ?_)
   refine ⟨fun j hj=>eqC_parts (fun i hi=>?_) j,?_⟩
   ·have hi:i=0∨i=1:=by omega
    rcases hi with rfl|rfl
    ·exact ⟨rfl,rfl,rfl,rfl,trivial⟩
    ·exact ⟨rfl,rfl,rfl,rfl,trivial⟩
   ·(repeat first|exact trivial|refine ent1 ?_)
  rintro y hs' ⟨rfl,rfl⟩
  rw [cat2]
  (repeat show _∧_;first|refine yr ?_|refine yt ?_|refine yf ?_|refine yo ?_)
  (repeat first|refine And.intro (by omega) ?_|refine And.intro (by decide) ?_|(with_reducible refine frc_parts (by first|omega|decide) ?_)|(with_reducible refine frc_bytesL (by first|omega|decide) ?_)|refine And.intro rfl ?_)
  refine ⟨.a (.agg [ar (markL K (S.l++A.l))]),_,⟨[0,1,2,3],⟨rfl,rfl,rfl⟩,?_⟩,rfl,rfl⟩
  (repeat first|exact trivial|refine ent1 ?_)
  refine eqC_bts (eqC_bts ?_)
  (repeat first|exact trivial|refine ent1 ?_)
 ·(repeat show _∧_;first|refine yr ?_|refine yt ?_|refine yf ?_|refine yo ?_)
  refine call_same (fn_tables dn2 f2 g2) [3] rfl (by (repeat first|exact trivial|refine ent1 ?_)) (by (repeat first|exact trivial|refine ent1 ?_)) (fun _ _=>trivial) ?_
  rintro y hs' ⟨rfl,rfl⟩
  (repeat show _∧_;first|refine yr ?_|refine yt ?_|refine yf ?_|refine yo ?_)
  refine call_same (fn_smark false S.z A.z true 32 S.N A.N 0 0 S.o A.o 0 32 S.c A.c 0 K S.l A.l [] 2 2 2 dn2 f2 g2 hd2 (by omega) (by omega) (fun h=>Bool.noConfusion h) hS.fit hS.cap hS.nil hA.fit hA.cap hA.nil (by decide) (by decide) (fun _=>rfl) (by decide) (by decide)) [5,0,1,6,6,3] rfl (by (repeat first|exact trivial|refine ent1 ?_); refine ⟨hKl.symm,rfl,?_⟩; (repeat first|exact trivial|refine ent1 ?_)) ?_ (fun _ _=>trivial) ?_
  ·refine ⟨rfl,fun j hj=>eqC_win0 (fun i hi=>congrArg SC.w8 (hrow i (by rw [hKl] at hi; exact hi))) j,?_⟩
   refine eqC_bts (eqC_bts ?_)
   (repeat first|exact trivial|refine ent1 ?_)
   refine ⟨fun j hj=>eqC_parts (fun i hi=>?_) j,?_⟩
   ·have hi:i=0∨i=1:=by omega
    rcases hi with rfl|rfl
    ·exact ⟨rfl,rfl,rfl,rfl,trivial⟩
    ·exact ⟨rfl,rfl,rfl,rfl,trivial⟩
   ·(repeat first|exact trivial|refine ent1 ?_)
  rintro y hs' ⟨rfl,rfl⟩
  rw [cat2]
  (repeat show _∧_;first|refine yr ?_|refine yt ?_|refine yf ?_|refine yo ?_)
  (repeat first|refine And.intro (by omega) ?_|refine And.intro (by decide) ?_|(with_reducible refine frc_parts (by first|omega|decide) ?_)|(with_reducible refine frc_bytesL (by first|omega|decide) ?_)|refine And.intro rfl ?_)
  refine ⟨.a (.agg [ar (markL K (S.l++A.l))]),_,⟨[0,1,2,3],⟨rfl,rfl,rfl⟩,?_⟩,rfl,rfl⟩
  (repeat first|exact trivial|refine ent1 ?_)
  refine eqC_bts (eqC_bts ?_)
  (repeat first|exact trivial|refine ent1 ?_)
end Sx
end
section
namespace Vi
open Sha Sx
def kindF (k:BitVec 8):BitVec 8:=if k.toNat % 3=0 then 1#8 else if k.toNat % 3=1 then 2#8 else 20#8
def fitMs (x:Ms) (k:BitVec 8):Ms:=if kindF k=20#8 then ⟨20#8,zer32,pm0,x.m⟩ else ⟨kindF k,x.r,fitP x.p,x.m⟩
theorem kind_known (k:BitVec 8):knownK (kindF k)=true:=by
 unfold kindF
 split
 ·rfl
 ·split <;> rfl
theorem zer_len:zer32.length=32:=by simp [zer32]
theorem fitMs_ok {x:Ms} (hx:x.Ok) (k:BitVec 8):(fitMs x k).Ok∧errMs (fitMs x k)=0∧bare (fitMs x k):=by
 unfold fitMs
 split
 ·exact ⟨⟨zer_len,nil_ok,hx.m⟩,rfl,fun _=>⟨rfl,rfl,rfl,rfl,rfl,rfl,rfl,rfl,rfl,rfl,rfl⟩⟩
 ·rename_i h
  refine ⟨⟨hx.r,take_ok20 hx.p 20,hx.m⟩,?_,fun h2=>absurd h2 h⟩
  unfold errMs
  rw [if_neg (by rw [show (Ms.mk (kindF k) x.r (fitP x.p) x.m).k=kindF k from rfl,kind_known]; decide),if_neg h]
  exact fit_check x.p
def frontMs (x:Ms):Bs:=if x.k=20#8 then [] else x.r++longL (putP x.p)
def openMs (x:Ms):Bs:=headMs x.k ((frontMs x).length+32)++frontMs x
theorem open_put {x:Ms} (hx:x.Ok):openMs x++x.m=putMs x:=by
 have hm:=hx.m
 unfold openMs putMs frontMs bodyMs
 split
 ·rw [List.length_nil,hm,List.append_nil]
 ·simp only [List.length_append,hm,List.append_assoc,Nat.add_assoc]
end Vi
namespace Sx
open Sha Vi
theorem nthC_repl:∀ {n j:Nat} {x:SC},j<n→nthC (List.replicate n x) j=x
 | n+1,0,x,_=>rfl
 | n+1,j+1,x,h=>nthC_repl (n:=n) (Nat.lt_of_succ_lt_succ h)
theorem zrow2 {q:List Nat}:∀ j,j<32→eqC q (nthC (List.replicate 32 (.w8 0)) j) (.w8 (L zer32 j)) True:=fun j hj=>by
 rw [nthC_repl hj]
 exact zrow j hj
set_option maxRecDepth 20000 in
set_option maxHeartbeats 8000000 in
theorem fn_hbody (x:Ms) (hx:x.Ok) (hE:errMs x=0):FnR Try.prog tds 10 1 [svB x.p.s] [.agg (msC 0 x)] (fun _=>True)
  (fun y hs=>∃ c,(openMs x).length≤c∧y=.a (.c (.sl 1 0 0 (openMs x).length c))∧hs=[svB x.p.s,lsC (openMs x) c]):=by
 refine fn_of_body tds_ok follows_ Try.func10 rfl (t:=.a (.agg (msC 0 x))::anys (Try.f10.ntmps-1)) rfl (fun w r0 hr _=>?_)
 obtain ⟨x0,rfl⟩:=List.length_eq_one_iff.1 hr
 have hr32:=hx.r
 obtain ⟨hkn,hcp⟩:=err_known hE
 by_cases h2:x.k=20#8
 ·have e2:decide (x.k≠20#8)=false:=decide_eq_false fun h=>h h2
  have ho:openMs x=headMs x.k 32:=by unfold openMs frontMs; rw [if_pos h2]; rfl
  rw [ho]
  (repeat show _∧_;first|refine yr ?_|refine yt ?_|refine yf ?_|refine ya e2 ?_|refine yb e2 ?_|refine yo ?_)
  intro c2 hc2
  (repeat show _∧_;first|refine yr ?_|refine yt ?_|refine yf ?_|refine ya e2 ?_|refine yb e2 ?_|refine yo ?_)
  refine ⟨.a (.c (.sl 1 0 0 4 c2)),_,⟨[0,3],⟨rfl,rfl,rfl⟩,?_⟩,c2,hc2,rfl,rfl⟩
  (repeat first|exact trivial|refine ent1 ?_)
  refine eqC_bts ?_
  (repeat first|exact trivial|refine ent1 ?_)
  refine ⟨fun j hj=>eqC_bytes (fun i hi=>?_) j,?_⟩
  ·have hi:i<4+0:=hi
   have:=app_row (l:=headMs x.k 32) (m:=[]) (n:=4) (k:=0) (f:=nthC [.w8 x.k,.w8 (BitVec.ofInt 8 ((((0:Nat):Int)+32) / 65536)),.w8 (BitVec.ofInt 8 ((((0:Nat):Int)+32) / 256)),.w8 (BitVec.ofInt 8 (((0:Nat):Int)+32))]) (g:=fun _=>.any) rfl rfl (fun i hi=>by
    have:i=0∨i=1∨i=2∨i=3:=by omega
    rcases this with rfl|rfl|rfl|rfl <;> rfl) (fun i hi=>absurd hi (by omega)) i hi
   rw [List.append_nil] at this
   exact this
  (repeat first|exact trivial|refine ent1 ?_)
 have e2:decide (x.k≠20#8)=true:=decide_eq_true h2
 have hc:=hcp h2
 (repeat show _∧_;first|refine yr ?_|refine yt ?_|refine yf ?_|refine ya e2 ?_|refine yb e2 ?_|refine yo ?_)
 refine call_same (fn_qparams x.p hx.p hc) [0] rfl (by (repeat first|exact trivial|refine ent1 ?_); refine ⟨fun j hj=>eqC_nums (numsN rfl) j,?_⟩; (repeat first|exact trivial|refine ent1 ?_)) (by refine eqC_bts ?_; (repeat first|exact trivial|refine ent1 ?_)) (fun _ _=>trivial) ?_
 rintro y hs' ⟨c1,hc1,rfl,rfl⟩
 have hbl:=(bodyMs_len hx hE).1
 have hfr:frontMs x=x.r++longL (putP x.p):=by unfold frontMs; rw [if_neg h2]
 have hbo:bodyMs x=x.r++longL (putP x.p)++x.m:=by unfold bodyMs; rw [if_neg h2]
 have ho:openMs x=headMs x.k ((frontMs x).length+32)++frontMs x:=rfl
 rw [hbo] at hbl
 rw [hfr] at ho
 have hQ0:longL (putP x.p)=putL (BitVec.ofNat 64 (putP x.p).length)++putP x.p:=rfl
 rw [hQ0] at hbl ho
 have hsm:(putP x.p).length≤1000000:=by simp only [List.length_append] at hbl; omega
 rw [ho]
 clear ho hQ0 hfr hbo
 generalize putP x.p=PP at hbl hsm hc1 ⊢
 (repeat show _∧_;first|refine yr ?_|refine yt ?_|refine yf ?_|refine ya e2 ?_|refine yb e2 ?_|refine yo ?_)
 intro c2 hc2
 (repeat show _∧_;first|refine yr ?_|refine yt ?_|refine yf ?_|refine ya e2 ?_|refine yb e2 ?_|refine yo ?_)
 rw [show BitVec.ofInt 64 ((PP.length:Nat):Int)=BitVec.ofNat 64 PP.length from BitVec.ofInt_natCast _ _]
 refine call_same (fn_qput (BitVec.ofNat 64 PP.length) (lenN_of hsm)) [] rfl (by (repeat first|exact trivial|refine ent1 ?_)) trivial (fun _ _=>trivial) ?_
 rintro y hs' ⟨c3,hc3,rfl,rfl⟩
 have hql:=putL_len (BitVec.ofNat 64 PP.length)
 generalize putL (BitVec.ofNat 64 PP.length)=Q at hbl hql ⊢
 simp only [List.length_append] at hbl
 refine ⟨by show 0+Q.length≤c3; omega,?_⟩
 refine ⟨⟨hc2,by show 0+c2≤c2; omega,by show (32+Q.length)*1≤140737488355328; omega⟩,fun c4 hc4=>?_⟩
 refine ⟨by show 0+PP.length≤c1; omega,?_⟩
 refine ⟨⟨hc4,by show 0+c4≤c4; omega,by show (32+Q.length+PP.length)*1≤140737488355328; omega⟩,fun c5 hc5=>?_⟩
 refine And.intro (show (-9223372036854775808:Int)≤((32+Q.length+PP.length:Nat):Int)+32∧((32+Q.length+PP.length:Nat):Int)+32≤9223372036854775807 by omega) ?_
 refine And.intro (show (0:Int)≤((32+Q.length+PP.length:Nat):Int)+32∧(0:Int)<65536∧((32+Q.length+PP.length:Nat):Int)+32≤9223372036854775807 by omega) ?_
 refine And.intro (show (0:Int)≤((32+Q.length+PP.length:Nat):Int)+32∧(0:Int)<256∧((32+Q.length+PP.length:Nat):Int)+32≤9223372036854775807 by omega) ?_
 (repeat show _∧_;first|refine yr ?_|refine yt ?_|refine yf ?_|refine ya e2 ?_|refine yb e2 ?_|refine yo ?_)
 refine ⟨by show 0+(32+Q.length+PP.length)≤c5; rw [Nat.zero_add]; exact hc5,?_⟩
 refine ⟨⟨Nat.le_refl _,Nat.le_refl _,by show (4+(32+Q.length+PP.length))*1≤140737488355328; omega⟩,fun c6 hc6=>?_⟩
 have hF:x.r++(Q++PP)=(x.r++Q)++PP:=(List.append_assoc _ _ _).symm
 have hFl:(x.r++(Q++PP)).length=32+Q.length+PP.length:=by simp only [List.length_append]; omega
 have hOl:(headMs x.k ((x.r++(Q++PP)).length+32)++(x.r++(Q++PP))).length=4+(32+Q.length+PP.length):=by rw [List.length_append,hFl]; rfl
 (repeat show _∧_;first|refine yr ?_|refine yt ?_|refine yf ?_|refine ya e2 ?_|refine yb e2 ?_|refine yo ?_)
 refine ⟨.a (.c (.sl 1 0 0 (headMs x.k ((x.r++(Q++PP)).length+32)++(x.r++(Q++PP))).length c6)),_,⟨[0,9],⟨rfl,rfl,rfl⟩,?_⟩,c6,by rw [hOl]; exact hc6,rfl,rfl⟩
 (repeat first|exact trivial|refine ent1 ?_)
 refine ⟨hOl.symm,rfl,?_⟩
 (repeat first|exact trivial|refine ent1 ?_)
 refine eqC_bts ?_
 (repeat first|exact trivial|refine ent1 ?_)
 refine ⟨fun j hj=>eqC_bytes (fun i hi=>?_) j,?_⟩
 ·rw [hOl] at hi
  refine app_row (l:=headMs x.k ((x.r++(Q++PP)).length+32)) (m:=x.r++(Q++PP)) (n:=4) (k:=32+Q.length+PP.length) rfl hFl (fun i hi=>?_) (fun q hq=>?_) i hi
  ·rw [hFl]
   have:i=0∨i=1∨i=2∨i=3:=by omega
   rcases this with rfl|rfl|rfl|rfl
   ·rfl
   ·exact congrArg SC.w8 (BitVec.ofInt_natCast 8 ((32+Q.length+PP.length+32) / 65536))
   ·exact congrArg SC.w8 (BitVec.ofInt_natCast 8 ((32+Q.length+PP.length+32) / 256))
   ·exact congrArg SC.w8 (BitVec.ofInt_natCast 8 (32+Q.length+PP.length+32))
  ·rw [hF]
   exact app_row (l:=x.r++Q) (m:=PP) (n:=32+Q.length) (k:=PP.length) (by rw [List.length_append,hr32]) rfl (fun i hi=>app_row (l:=x.r) (m:=Q) (n:=32) (k:=Q.length) hr32 rfl (fun i hi=>new_row (m:=x.r) (fun q hq=>rfl) i hi) (fun q hq=>mp_row q hq) i hi) (fun q hq=>mp_row q hq) q hq
 (repeat first|exact trivial|refine ent1 ?_)
end Sx
end
section
namespace Vi
open Sha Sx
def earlyL (key:Bs):Bs:=markL zer32 key
theorem early_len (key:Bs):(earlyL key).length=32:=markL_len _ _
def oneL (early:Bs):Bs:=markL (dervL early [100,101,114,105,118,101,100] []) []
def twoL (early:Bs):Bs:=markL (dervL (oneL early) [100,101,114,105,118,101,100] []) []
end Vi
namespace Sx
open Sha Vi
abbrev scN (t:Nat) (early:Bs):List Seg:=[.one (.p t 0 0),ar early,.one (.slc none 0 0)]
abbrev scS (t:Nat) (early:Bs) (i n c:Nat):List Seg:=[.one (.p t 0 0),ar early,.one (.sl i 0 0 n c)]
theorem exF_row {q:List Nat} {s said:Bs} {lab:List UInt8} {g:Nat→Nat}:∀ j,j<32→eqC q (SC.mp g (.w8 (exF s (labT lab (sumL said) 32) j))) (.w8 (L (dervL s lab said) j)) True:=fun j hj=>⟨derv_row j hj,trivial⟩
set_option maxRecDepth 20000 in
set_option maxHeartbeats 8000000 in
theorem fn_hnew (K:Sl) (hK:K.Ok) (dn:BitVec 32) (f g:Nat→BitVec 32) (hd:TabOk dn f g) :
  FnR Try.prog tds 5 1 [svB K,shaT dn 0 f g] [.c (.p 1 0 0),.c (svC 0 K)] (fun _=>True)
  (fun y hs=>y=.a (.c (.p 2 0 0))∧hs=[svB K,shaT 1 0 first steps,scN 1 (earlyL K.l)]):=by
 refine fn_of_body tds_ok follows_ Try.func5 rfl (t:=.a (.c (.p 1 0 0))::.a (.c (svC 0 K))::anys (Try.f5.ntmps-2)) rfl (fun w r0 hr _=>?_)
 obtain ⟨x0,x1,rfl⟩:=len2' hr
 (repeat show _∧_;first|refine yr ?_|refine yt ?_|refine yf ?_|refine yo ?_)
 refine call_same (fn_extract false K.z 32 K.N 0 K.o 32 K.c zer32 K.l dn f g hd (by rw [zer_len]; decide) (by rw [zer_len]; decide) (fun h=>Bool.noConfusion h) hK.fit hK.cap hK.nil) [2,0,1] rfl (by (repeat first|exact trivial|refine ent1 ?_)) ?_ (fun _ _=>trivial) ?_
 ·refine ⟨rfl,fun j hj=>eqC_win0 (f:=fun _=>SC.w8 0) (fun i hi=>?_) j,?_⟩
  ·rw [zer_len] at hi
   exact congrArg SC.w8 (zrow (q:=[]) i hi).1
  refine eqC_bts ?_
  (repeat first|exact trivial|refine ent1 ?_)
 rintro y hs' ⟨rfl,rfl⟩
 rw [show markL zer32 K.l=earlyL K.l from rfl]
 generalize earlyL K.l=E
 (repeat show _∧_;first|refine yr ?_|refine yt ?_|refine yf ?_|refine yo ?_)
 refine ⟨.a (.c (.p 2 0 0)),_,⟨[0,1,3],⟨rfl,rfl,rfl⟩,?_⟩,rfl,rfl⟩
 (repeat first|exact trivial|refine ent1 ?_)
 refine eqC_bts ?_
 (repeat first|exact trivial|refine ent1 ?_)
set_option maxRecDepth 20000 in
set_option maxHeartbeats 8000000 in
theorem fn_hsecrets (S:Sl) (hS:S.Ok) (early:Bs) (he:early.length=32) (dn:BitVec 32) (f g:Nat→BitVec 32) (hd:TabOk dn f g) :
  FnR Try.prog tds 14 2 [svB S,scC 2 early 0 S,shaT dn 0 f g] [.c (.p 1 0 0)] (fun _=>True)
  (fun y hs=>y=.a (.agg [ar (dervL (oneL early) [99,32,104,115,32,116,114,97,102,102,105,99] S.l),ar (dervL (oneL early) [115,32,104,115,32,116,114,97,102,102,105,99] S.l),ar (dervL (twoL early) [99,32,97,112,32,116,114,97,102,102,105,99] S.l),ar (dervL (twoL early) [115,32,97,112,32,116,114,97,102,102,105,99] S.l)]) ∧
   ∃ (dn':BitVec 32) (f' g':Nat→BitVec 32),TabOk dn' f' g'∧hs=[svB S,scC 2 early 0 S,shaT dn' 0 f' g']):=by
 refine fn_of_body tds_ok follows_ Try.func14 rfl (t:=.a (.c (.p 1 0 0))::anys (Try.f14.ntmps-1)) rfl (fun w r0 hr _=>?_)
 obtain ⟨x0,x1,x2,rfl⟩:=len3' hr
 (repeat show _∧_;first|refine yr ?_|refine yt ?_|refine yf ?_|refine yo ?_)
 refine ⟨some [1],[9],[(0,true),(1,true),(2,true),(3,true),(4,true),(5,true),(6,true),(7,true),(8,false),(9,false)],[10],by kernel_rfl,?_⟩
 (repeat show _∧_;first|refine yr ?_|refine yt ?_|refine yf ?_|refine yo ?_)
 refine call_same (fn_kderive true 0 0 0 early [] [100,101,114,105,118,101,100] dn f g hd he (by decide) (Nat.le_refl _) (Nat.le_refl _) (fun _=>rfl)) [0,2] rfl (by (repeat first|exact trivial|refine ent1 ?_)) (by refine eqSegs_nil ?_; (repeat first|exact trivial|refine ent1 ?_)) (fun _ _=>trivial) ?_
 rintro y hs' ⟨rfl,dn1,f1,g1,hd1,rfl⟩
 have l1:=derv_len early [100,101,114,105,118,101,100] []
 have r1:=fun (i:Nat) (hi:i<32)=>derv_row (s:=early) (said:=[]) (lab:=[100,101,114,105,118,101,100]) i hi
 generalize hD1:dervL early [100,101,114,105,118,101,100] []=D1 at l1 r1
 (repeat show _∧_;first|refine yr ?_|refine yt ?_|refine yf ?_|refine yo ?_)
 refine ⟨some [1],[6],[(0,true),(1,true),(2,true),(3,true),(4,true),(5,false),(6,false)],[7],by kernel_rfl,?_⟩
 (repeat show _∧_;first|refine yr ?_|refine yt ?_|refine yf ?_|refine yo ?_)
 refine call_same (fn_extract false true 32 0 0 0 32 0 D1 [] dn1 f1 g1 hd1 (by omega) (by omega) (fun h=>Bool.noConfusion h) (by decide) (by decide) (fun _=>rfl)) [4,0,2] rfl (by (repeat first|exact trivial|refine ent1 ?_); refine ⟨l1.symm,rfl,?_⟩; (repeat first|exact trivial|refine ent1 ?_)) ?_ (fun _ _=>trivial) ?_
 ·refine ⟨rfl,fun j hj=>eqC_win0 (fun i hi=>congrArg SC.w8 (r1 i (by omega))) j,?_⟩
  refine eqSegs_nil (eqSegs_nil ?_)
  (repeat first|exact trivial|refine ent1 ?_)
 rintro y hs' ⟨rfl,rfl⟩
 have hO:markL D1 []=oneL early:=by unfold oneL; rw [hD1]
 have lO:(oneL early).length=32:=by unfold oneL; exact markL_len _ _
 rw [hO]
 have hT:twoL early=markL (dervL (oneL early) [100,101,114,105,118,101,100] []) []:=rfl
 generalize oneL early=O at lO hT ⊢
 (repeat show _∧_;first|refine yr ?_|refine yt ?_|refine yf ?_|refine yo ?_)
 refine ⟨some [1,5],[],[(0,true),(1,true),(2,true),(3,true),(4,true),(5,false)],[6],by kernel_rfl,?_⟩
 (repeat show _∧_;first|refine yr ?_|refine yt ?_|refine yf ?_|refine yo ?_)
 refine call_same (fn_kderive true 0 0 0 O [] [100,101,114,105,118,101,100] 1#32 first steps (.inr ⟨rfl,rfl,rfl⟩) lO (by decide) (Nat.le_refl _) (Nat.le_refl _) (fun _=>rfl)) [0,2] rfl (by (repeat first|exact trivial|refine ent1 ?_)) (by refine eqSegs_nil ?_; (repeat first|exact trivial|refine ent1 ?_)) (fun _ _=>trivial) ?_
 rintro y hs' ⟨rfl,dn2,f2,g2,hd2,rfl⟩
 have l2:=derv_len O [100,101,114,105,118,101,100] []
 have r2:=fun (i:Nat) (hi:i<32)=>derv_row (s:=O) (said:=[]) (lab:=[100,101,114,105,118,101,100]) i hi
 generalize hD2:dervL O [100,101,114,105,118,101,100] []=D2 at l2 r2 hT
 (repeat show _∧_;first|refine yr ?_|refine yt ?_|refine yf ?_|refine yo ?_)
 refine ⟨some [1],[6],[(0,true),(1,true),(2,true),(3,true),(4,true),(5,false),(6,false)],[7],by kernel_rfl,?_⟩
 (repeat show _∧_;first|refine yr ?_|refine yt ?_|refine yf ?_|refine yo ?_)
 refine call_same (fn_extract false true 32 0 0 0 32 0 D2 [] dn2 f2 g2 hd2 (by omega) (by omega) (fun h=>Bool.noConfusion h) (by decide) (by decide) (fun _=>rfl)) [4,0,2] rfl (by (repeat first|exact trivial|refine ent1 ?_); refine ⟨l2.symm,rfl,?_⟩; (repeat first|exact trivial|refine ent1 ?_)) ?_ (fun _ _=>trivial) ?_
 ·refine ⟨rfl,fun j hj=>eqC_win0 (fun i hi=>congrArg SC.w8 (r2 i (by omega))) j,?_⟩
  refine eqSegs_nil (eqSegs_nil ?_)
  (repeat first|exact trivial|refine ent1 ?_)
 rintro y hs' ⟨rfl,rfl⟩
 rw [← hT]
 have lT:(twoL early).length=32:=by rw [hT]; exact markL_len _ _
 generalize twoL early=T at lT ⊢
 (repeat show _∧_;first|refine yr ?_|refine yt ?_|refine yf ?_|refine yo ?_)
 refine ⟨some [1,5],[],[(0,true),(1,true),(2,true),(3,true),(4,true),(5,true),(6,true),(7,true),(8,true),(9,false),(10,true)],[11],by kernel_rfl,?_⟩
 (repeat show _∧_;first|refine yr ?_|refine yt ?_|refine yf ?_|refine yo ?_)
 refine call_same (fn_kderive S.z S.N S.o S.c O S.l [99,32,104,115,32,116,114,97,102,102,105,99] 1#32 first steps (.inr ⟨rfl,rfl,rfl⟩) lO (by decide) hS.fit hS.cap hS.nil) [0,2] rfl (by (repeat first|exact trivial|refine ent1 ?_)) (by refine eqC_bts ?_; (repeat first|exact trivial|refine ent1 ?_)) (fun _ _=>trivial) ?_
 rintro y hs' ⟨rfl,dn3,f3,g3,hd3,rfl⟩
 (repeat show _∧_;first|refine yr ?_|refine yt ?_|refine yf ?_|refine yo ?_)
 refine ⟨some [1,5],[],[(0,true),(1,true),(2,true),(3,true),(4,true),(5,true),(6,true),(7,true),(8,true),(9,false),(10,true)],[11],by kernel_rfl,?_⟩
 (repeat show _∧_;first|refine yr ?_|refine yt ?_|refine yf ?_|refine yo ?_)
 refine call_same (fn_kderive S.z S.N S.o S.c O S.l [115,32,104,115,32,116,114,97,102,102,105,99] dn3 f3 g3 hd3 lO (by decide) hS.fit hS.cap hS.nil) [0,2] rfl (by (repeat first|exact trivial|refine ent1 ?_)) (by refine eqC_bts ?_; (repeat first|exact trivial|refine ent1 ?_)) (fun _ _=>trivial) ?_
 rintro y hs' ⟨rfl,dn4,f4,g4,hd4,rfl⟩
 (repeat show _∧_;first|refine yr ?_|refine yt ?_|refine yf ?_|refine yo ?_)
 refine ⟨some [1,6],[],[(0,true),(1,true),(2,true),(3,true),(4,true),(5,true),(6,true),(7,true),(8,true),(9,false),(10,true)],[11],by kernel_rfl,?_⟩
 (repeat show _∧_;first|refine yr ?_|refine yt ?_|refine yf ?_|refine yo ?_)
 refine call_same (fn_kderive S.z S.N S.o S.c T S.l [99,32,97,112,32,116,114,97,102,102,105,99] dn4 f4 g4 hd4 lT (by decide) hS.fit hS.cap hS.nil) [0,2] rfl (by (repeat first|exact trivial|refine ent1 ?_)) (by refine eqC_bts ?_; (repeat first|exact trivial|refine ent1 ?_)) (fun _ _=>trivial) ?_
 rintro y hs' ⟨rfl,dn5,f5,g5,hd5,rfl⟩
 (repeat show _∧_;first|refine yr ?_|refine yt ?_|refine yf ?_|refine yo ?_)
 refine ⟨some [1,6],[],[(0,true),(1,true),(2,true),(3,true),(4,true),(5,true),(6,true),(7,true),(8,true),(9,false),(10,true)],[11],by kernel_rfl,?_⟩
 (repeat show _∧_;first|refine yr ?_|refine yt ?_|refine yf ?_|refine yo ?_)
 refine call_same (fn_kderive S.z S.N S.o S.c T S.l [115,32,97,112,32,116,114,97,102,102,105,99] dn5 f5 g5 hd5 lT (by decide) hS.fit hS.cap hS.nil) [0,2] rfl (by (repeat first|exact trivial|refine ent1 ?_)) (by refine eqC_bts ?_; (repeat first|exact trivial|refine ent1 ?_)) (fun _ _=>trivial) ?_
 rintro y hs' ⟨rfl,dn6,f6,g6,hd6,rfl⟩
 (repeat show _∧_;first|refine yr ?_|refine yt ?_|refine yf ?_|refine yo ?_)
 (repeat first|refine And.intro (by omega) ?_|refine And.intro (by decide) ?_|(with_reducible refine frc_parts (by first|omega|decide) ?_)|(with_reducible refine frc_bytesL (by first|omega|decide) ?_)|refine And.intro rfl ?_)
 refine ⟨.a (.agg [ar (dervL O [99,32,104,115,32,116,114,97,102,102,105,99] S.l),ar (dervL O [115,32,104,115,32,116,114,97,102,102,105,99] S.l),ar (dervL T [99,32,97,112,32,116,114,97,102,102,105,99] S.l),ar (dervL T [115,32,97,112,32,116,114,97,102,102,105,99] S.l)]),_,⟨[0,1,2],⟨rfl,rfl,rfl⟩,?_⟩,rfl,dn6,f6,g6,hd6,rfl⟩
 (repeat first|exact trivial|refine ent1 ?_)
 refine ⟨exF_row,?_⟩
 (repeat first|exact trivial|refine ent1 ?_)
 refine ⟨exF_row,?_⟩
 (repeat first|exact trivial|refine ent1 ?_)
 refine ⟨exF_row,?_⟩
 (repeat first|exact trivial|refine ent1 ?_)
 refine ⟨exF_row,?_⟩
 (repeat first|exact trivial|refine ent1 ?_)
 refine eqC_bts ?_
 (repeat first|exact trivial|refine ent1 ?_)
theorem upd_row {O m mk:Bs} {f g:Nat→SC} (hm:m.length=32) (hk:mk.length=32) (hf:∀ i,i<(O++m).length→f i=.w8 (L (O++m) i)) (hg:∀ j,j<32→g j=.w8 (L mk j)) (i:Nat) (hi:i<(O++mk).length):updN f O.length 32 g i=.w8 (L (O++mk) i):=by
 rw [List.length_append,hk] at hi
 unfold updN
 by_cases h:i<O.length
 ·rw [if_neg (by omega),hf i (by rw [List.length_append]; omega),L_app1 h,L_app1 h]
 ·rw [if_pos (by omega),hg _ (by omega)]
  have:i=O.length+(i-O.length):=by omega
  rw [this,L_app2,Nat.add_sub_cancel_left]
set_option maxRecDepth 20000 in
set_option maxHeartbeats 8000000 in
theorem fn_hsay0 (x:Ms) (hx:x.Ok) (hE:errMs x=0) (early:Bs) (he:early.length=32) (dn:BitVec 32) (f g:Nat→BitVec 32) (hd:TabOk dn f g) :
  FnR Try.prog tds 9 1 [svB x.p.s,scN 2 early,shaT dn 0 f g] [.c (.p 1 0 0),.agg (msC 0 x)] (fun _=>True)
  (fun y hs=>∃ W c c',W=openMs x++hmarkL early x.k [] (openMs x)∧W.length≤c∧W.length≤c'∧y=.tup [.c (.sl 3 0 0 W.length c),.c (.int .i64 0)]∧hs=[svB x.p.s,scS 2 early 4 W.length c',shaT 1 0 first steps,lsC W c,lsC W c']):=by
 refine fn_of_body tds_ok follows_ Try.func9 rfl (t:=.a (.c (.p 1 0 0))::.a (.agg (msC 0 x))::anys (Try.f9.ntmps-2)) rfl (fun w r0 hr _=>?_)
 obtain ⟨x0,x1,x2,rfl⟩:=len3' hr
 have e9:decide ((0:Int)≠0)=false:=by decide
 have hPl:=putMs_len x
 have hbl:=bodyMs_len hx hE
 have hop:=open_put hx
 have hm32:=hx.m
 (repeat show _∧_;first|refine yr ?_|refine yt ?_|refine yf ?_|refine yo ?_)
 refine call_same (fn_msputS x hx hE) [0] rfl (by (repeat first|exact trivial|refine ent1 ?_)) (by refine eqC_bts ?_; (repeat first|exact trivial|refine ent1 ?_)) (fun _ _=>trivial) ?_
 rintro y hs' ⟨c1,hc1,rfl,rfl⟩
 rw [← hop] at hPl hc1 ⊢
 generalize openMs x=O at hPl hc1 ⊢
 have hOl:(O++x.m).length=O.length+32:=by rw [List.length_append,hm32]
 (repeat show _∧_;first|refine yr ?_|refine yt ?_|refine yf ?_|refine ya e9 ?_|refine yb e9 ?_|refine yo ?_)
 have hOs:O.length≤1000000:=by omega
 have oA:Sl.Ok ⟨false,c1,0,c1,O⟩:=own_ok (by omega) hOs
 refine call_same (fn_hmark ⟨true,0,0,0,[]⟩ ⟨false,c1,0,c1,O⟩ nil_ok oA early he x.k dn f g hd) [0,4,1,2] rfl (by (repeat first|exact trivial|refine ent1 ?_); refine ⟨by show (if c1=0 then 0 else 0+0*1)=0; split <;> rfl,by show ((((O++x.m).length:Nat):Int)-32).toNat-0=O.length; rw [hOl]; omega,Nat.sub_zero _,?_⟩; (repeat first|exact trivial|refine ent1 ?_)) ?_ (fun _ _=>trivial) ?_
 ·refine eqSegs_nil ?_
  refine ⟨rfl,fun j hj=>eqC_win0 (f:=fun j=>SC.mp (bk 4 [0]) (bytesF (O++x.m).length (L (O++x.m)) j)) (n:=O.length) (b:=L O) (fun i hi=>?_) j,?_⟩
  ·have hi:i<O.length:=hi
   show SC.mp _ (bytesF _ _ i)=.w8 (L O i)
   rw [bytesF_lt (by omega),L_app1 hi]
   rfl
  (repeat first|exact trivial|refine ent1 ?_)
 rintro y hs' ⟨rfl,rfl⟩
 rw [show Sl.l ⟨true,0,0,0,[]⟩=[] from rfl,show Sl.l ⟨false,c1,0,c1,O⟩=O from rfl]
 have hmk:=hmark_len early x.k [] O
 generalize hmarkL early x.k [] O=mk at hmk ⊢
 (repeat show _∧_;first|refine yr ?_|refine yt ?_|refine yf ?_|refine ya e9 ?_|refine yb e9 ?_|refine yo ?_)
 refine ⟨none,[],[(0,true),(1,true),(2,true),(3,true),(4,true)],[5],by kernel_rfl,?_⟩
 (repeat show _∧_;first|refine yr ?_|refine yt ?_|refine yf ?_|refine ya e9 ?_|refine yb e9 ?_|refine yo ?_)
 have e1:((((O++x.m).length:Nat):Int)-32).toNat-0=O.length:=by rw [hOl]; omega
 rw [e1]
 have e2:(if c1=((O.length:Nat):Int).toNat then 0 else 0+((O.length:Nat):Int).toNat*1)=O.length:=by rw [if_neg (by omega)]; omega
 have e3:min 32 ((((O++x.m).length:Nat):Int).toNat-((O.length:Nat):Int).toNat)=32:=by rw [hOl]; omega
 refine And.intro (show (if c1=((O.length:Nat):Int).toNat then 0 else 0+((O.length:Nat):Int).toNat*1)+min 32 ((((O++x.m).length:Nat):Int).toNat-((O.length:Nat):Int).toNat)≤c1 by rw [e2,e3]; omega) ?_
 (repeat show _∧_;first|refine yr ?_|refine yt ?_|refine yf ?_|refine ya e9 ?_|refine yb e9 ?_|refine yo ?_)
 refine ⟨by show 0+(O++x.m).length≤c1; omega,⟨rfl,rfl⟩,by show (O++x.m).length*1≤140737488355328; omega,fun hm0=>absurd hm0 (by rw [hOl]; omega),fun hm0 c2 hc2=>?_⟩
 have hWl:(O++mk).length=(O++x.m).length:=by rw [hOl,List.length_append,hmk]
 (repeat show _∧_;first|refine yr ?_|refine yt ?_|refine yf ?_|refine ya e9 ?_|refine yb e9 ?_|refine yo ?_)
 (repeat first|refine And.intro (by omega) ?_|refine And.intro (by decide) ?_|(with_reducible refine frc_parts (by first|omega|decide) ?_)|(with_reducible refine frc_bytesL (by first|omega|decide) ?_)|refine And.intro rfl ?_)
 refine ⟨.tup [.c (.sl 3 0 0 (O++mk).length c1),.c (.int .i64 0)],_,⟨[0,1,2,4,6],⟨rfl,rfl,rfl⟩,?_⟩,O++mk,c1,c2,rfl,by omega,by rw [hWl]; exact hc2,rfl,rfl⟩
 (repeat first|exact trivial|refine ent1 ?_)
 refine eqC_bts ?_
 (repeat first|exact trivial|refine ent1 ?_)
 have hU:∀ i,i<(O++mk).length→updN (fun j=>SC.mp (bk 4 [0]) (bytesF (O++x.m).length (L (O++x.m)) j)) (if c1=((O.length:Nat):Int).toNat then 0 else 0+((O.length:Nat):Int).toNat*1) (min 32 ((((O++x.m).length:Nat):Int).toNat-((O.length:Nat):Int).toNat)) (fun q=>(fun j=>SC.mp (bk 5 [0,4,1,2]) ((fun i=>SC.w8 (L mk i)) j)) (q+0)) i=.w8 (L (O++mk) i):=by
  intro i hi
  rw [e2,e3]
  exact upd_row hm32 hmk (fun i hi=>mp_row i hi) (fun j hj=>rfl) i hi
 refine ⟨fun j hj=>eqC_bytes (fun i hi=>hU i hi) j,?_⟩
 (repeat first|exact trivial|refine ent1 ?_)
 refine ⟨fun j hj=>eqC_bytes (fun i hi=>new_row (m:=O++mk) (k:=(O++x.m).length) (fun q hq=>hU q (by rw [hWl]; exact hq)) i (by rw [← hWl]; exact hi)) j,?_⟩
 (repeat first|exact trivial|refine ent1 ?_)
set_option maxRecDepth 20000 in
set_option maxHeartbeats 8000000 in
theorem fn_hhear0 (B:Sl) (hB:B.Ok) (x:Ms) (hx:x.Ok) (hE:errMs x=0) (hbr:bare x) (early:Bs) (he:early.length=32) (dn:BitVec 32) (f g:Nat→BitVec 32) (hd:TabOk dn f g) (hW:B.l=openMs x++hmarkL early x.k [] (openMs x)) :
  FnR Try.prog tds 12 1 [svB B,scN 2 early,shaT dn 0 f g] [.c (.p 1 0 0),.c (svC 0 B)] (fun _=>True)
  (fun y hs=>∃ (z:Ms) (c':Nat),sameMs z ⟨x.k,x.r,x.p,hmarkL early x.k [] (openMs x)⟩∧z.p.s.Ok∧B.l.length≤c'∧y=.tup [.agg (msC 3 z),.c (.int .i64 0)]∧hs=[svB B,scS 2 early 4 B.l.length c',shaT 1 0 first steps,svB z.p.s,lsC B.l c']):=by
 refine fn_of_body tds_ok follows_ Try.func12 rfl (t:=.a (.c (.p 1 0 0))::.a (.c (svC 0 B))::anys (Try.f12.ntmps-2)) rfl (fun w r0 hr _=>?_)
 obtain ⟨x0,x1,x2,rfl⟩:=len3' hr
 have e9:decide ((0:Int)≠0)=false:=by decide
 have hxm:Ms.Ok ⟨x.k,x.r,x.p,hmarkL early x.k [] (openMs x)⟩:=⟨hx.r,hx.p,hmark_len _ _ _ _⟩
 have hWp:B.l=putMs ⟨x.k,x.r,x.p,hmarkL early x.k [] (openMs x)⟩:=by rw [hW]; exact open_put hxm
 (repeat show _∧_;first|refine yr ?_|refine yt ?_|refine yf ?_|refine yo ?_)
 refine call_same (fn_mtake B hB) [0] rfl (by (repeat first|exact trivial|refine ent1 ?_)) (by refine eqC_bts ?_; (repeat first|exact trivial|refine ent1 ?_)) (fun _ _=>trivial) ?_
 rintro y hs' ⟨z,e,hz,hzo,rfl,rfl⟩
 rw [hWp] at hz
 obtain ⟨rfl,hs⟩:=take_putMs hxm hE hbr hz
 (repeat show _∧_;first|refine yr ?_|refine yt ?_|refine yf ?_|refine ya e9 ?_|refine yb e9 ?_|refine yo ?_)
 have hz':z.k=x.k:=hs.1
 have hWl:B.l.length=(openMs x).length+32:=by rw [hW,List.length_append,hmark_len]
 have hBf:=hB.fit
 have hBc:=hB.cap
 have hBs:=hB.small
 have hcut:Sub B ⟨B.z,B.N,B.o,B.c,openMs x⟩:=⟨id,fun _=>rfl,fun _=>⟨Nat.le_refl _,by dsimp only; omega⟩,fun i hi=>by
  have hi:i<(openMs x).length:=hi
  rw [Nat.sub_self,Nat.zero_add,hW,L_app1 hi]⟩
 have oC:Sl.Ok ⟨B.z,B.N,B.o,B.c,openMs x⟩:=⟨by dsimp only; omega,by dsimp only; omega,fun h=>by have:=hB.nil h; rw [this] at hWl; simp at hWl,by dsimp only; omega⟩
 have hmk:=hmark_len early x.k [] (openMs x)
 have hzm:z.m=hmarkL early x.k [] (openMs x):=hs.2.2.2
 refine ⟨some [5],[],[(0,true),(1,true),(2,true),(3,true),(4,true),(5,true),(6,true),(7,true),(9,true),(10,true),(8,false),(11,true)],[],by kernel_rfl,?_⟩
 (repeat show _∧_;first|refine yr ?_|refine yt ?_|refine yf ?_|refine ya e9 ?_|refine yb e9 ?_|refine yo ?_)
 refine call_same (fn_hmark ⟨true,0,0,0,[]⟩ ⟨B.z,B.N,B.o,B.c,openMs x⟩ nil_ok oC early he z.k dn f g hd) [3,0,1,2] rfl (by (repeat first|exact trivial|refine ent1 ?_); refine ⟨by show (if B.c=0 then B.o else B.o+0*1)=B.o; split <;> rfl,by show ((B.l.length:Int)-32).toNat-0=(openMs x).length; rw [hWl]; omega,Nat.sub_zero _,?_⟩; (repeat first|exact trivial|refine ent1 ?_)) ?_ (fun _ _=>trivial) ?_
 ·refine eqSegs_nil ?_
  refine hcut.ent ?_
  (repeat first|exact trivial|refine ent1 ?_)
 rintro y hs' ⟨rfl,rfl⟩
 rw [show Sl.l ⟨true,0,0,0,[]⟩=[] from rfl,show Sl.l ⟨B.z,B.N,B.o,B.c,openMs x⟩=openMs x from rfl,hz']
 generalize hmarkL early x.k [] (openMs x)=mk at hmk hzm hs hxm hWp hW ⊢
 (repeat show _∧_;first|refine yr ?_|refine yt ?_|refine yf ?_|refine ya e9 ?_|refine yb e9 ?_|refine yo ?_)
 refine ⟨⟨rfl,rfl,fun j hj=>rfl,fun j hj=>rfl⟩,fun b1 hb1=>?_⟩
 have k3:(!b1)=false:=by rw [hb1.2 (fun j hj=>by rw [hzm]; rfl)]; rfl
 (repeat show _∧_;first|refine yr ?_|refine yt ?_|refine yf ?_|refine ya e9 ?_|refine yb e9 ?_|refine ya k3 ?_|refine yb k3 ?_|refine yo ?_)
 refine sn_bts rfl hB.fit (fun h=>by rw [hB.nil h]; rfl) (fun g2 hg2=>?_)
 refine ⟨⟨rfl,rfl⟩,by show B.l.length*1≤140737488355328; omega,fun hm0=>absurd hm0 (by omega),fun hm0 c2 hc2=>?_⟩
 (repeat show _∧_;first|refine yr ?_|refine yt ?_|refine yf ?_|refine ya e9 ?_|refine yb e9 ?_|refine ya k3 ?_|refine yb k3 ?_|refine yo ?_)
 (repeat first|refine And.intro (by omega) ?_|refine And.intro (by decide) ?_|(with_reducible refine frc_parts (by first|omega|decide) ?_)|(with_reducible refine frc_bytesL (by first|omega|decide) ?_)|refine And.intro rfl ?_)
 refine ⟨.tup [.agg (msC 3 z),.c (.int .i64 0)],_,⟨[0,1,2,4,6],⟨rfl,rfl,rfl⟩,?_⟩,z,c2,hs,hzo,hc2,rfl,rfl⟩
 (repeat first|exact trivial|refine ent1 ?_)
 refine ⟨hz'.symm,?_⟩
 (repeat first|exact trivial|refine ent1 ?_)
 refine eqC_bts ?_
 (repeat first|exact trivial|refine ent1 ?_)
 refine eqC_btsM ?_
 (repeat first|exact trivial|refine ent1 ?_)
 refine ⟨fun j hj=>eqC_bytes (fun i hi=>new_row hg2 i hi) j,?_⟩
 (repeat first|exact trivial|refine ent1 ?_)
end Sx
end
section
namespace Sx
open Sha Vi
set_option maxRecDepth 20000 in
set_option maxHeartbeats 8000000 in
theorem fn_hsay1 (S:Bs) (cS:Nat) (hS1:S.length≤500000) (hS2:S.length≤cS) (hS3:S.length≠0) (x:Ms) (hx:x.Ok) (hE:errMs x=0) (early:Bs) (he:early.length=32) (dn:BitVec 32) (f g:Nat→BitVec 32) (hd:TabOk dn f g) :
  FnR Try.prog tds 9 1 [svB x.p.s,scS 2 early 3 S.length cS,shaT dn 0 f g,lsC S cS] [.c (.p 1 0 0),.agg (msC 0 x)] (fun _=>True)
  (fun y hs=>∃ W c c',W=openMs x++hmarkL early x.k S (openMs x)∧W.length≤c∧(S++W).length≤c'∧y=.tup [.c (.sl 4 0 0 W.length c),.c (.int .i64 0)]∧hs=[svB x.p.s,scS 2 early 5 (S++W).length c',shaT 1 0 first steps,[],lsC W c,lsC (S++W) c']):=by
 refine fn_of_body tds_ok follows_ Try.func9 rfl (t:=.a (.c (.p 1 0 0))::.a (.agg (msC 0 x))::anys (Try.f9.ntmps-2)) rfl (fun w r0 hr _=>?_)
 obtain ⟨x0,x1,x2,x3,rfl⟩:=len4' hr
 have e9:decide ((0:Int)≠0)=false:=by decide
 have hPl:=putMs_len x
 have hbl:=bodyMs_len hx hE
 have hop:=open_put hx
 have hm32:=hx.m
 (repeat show _∧_;first|refine yr ?_|refine yt ?_|refine yf ?_|refine yo ?_)
 refine call_same (fn_msputS x hx hE) [0] rfl (by (repeat first|exact trivial|refine ent1 ?_)) (by refine eqC_bts ?_; (repeat first|exact trivial|refine ent1 ?_)) (fun _ _=>trivial) ?_
 rintro y hs' ⟨c1,hc1,rfl,rfl⟩
 rw [← hop] at hPl hc1 ⊢
 generalize openMs x=O at hPl hc1 ⊢
 have hOl:(O++x.m).length=O.length+32:=by rw [List.length_append,hm32]
 (repeat show _∧_;first|refine yr ?_|refine yt ?_|refine yf ?_|refine ya e9 ?_|refine yb e9 ?_|refine yo ?_)
 have hOs:O.length≤1000000:=by omega
 have oS:Sl.Ok ⟨false,cS,0,cS,S⟩:=own_ok (by omega) (by omega)
 have oA:Sl.Ok ⟨false,c1,0,c1,O⟩:=own_ok (by omega) hOs
 refine call_same (fn_hmark ⟨false,cS,0,cS,S⟩ ⟨false,c1,0,c1,O⟩ oS oA early he x.k dn f g hd) [3,5,1,2] rfl (by (repeat first|exact trivial|refine ent1 ?_); refine ⟨by show (if c1=0 then 0 else 0+0*1)=0; split <;> rfl,by show ((((O++x.m).length:Nat):Int)-32).toNat-0=O.length; rw [hOl]; omega,Nat.sub_zero _,?_⟩; (repeat first|exact trivial|refine ent1 ?_)) ?_ (fun _ _=>trivial) ?_
 ·refine ⟨rfl,fun j hj=>eqC_win0 (f:=fun j=>bytesF S.length (L S) j) (n:=S.length) (b:=L S) (fun i hi=>bytesF_lt hi) j,?_⟩
  refine ⟨rfl,fun j hj=>eqC_win0 (f:=fun j=>SC.mp (bk 5 [0]) (bytesF (O++x.m).length (L (O++x.m)) j)) (n:=O.length) (b:=L O) (fun i hi=>?_) j,?_⟩
  ·have hi:i<O.length:=hi
   show SC.mp _ (bytesF _ _ i)=.w8 (L O i)
   rw [bytesF_lt (by omega),L_app1 hi]
   rfl
  (repeat first|exact trivial|refine ent1 ?_)
 rintro y hs' ⟨rfl,rfl⟩
 rw [show Sl.l ⟨false,cS,0,cS,S⟩=S from rfl,show Sl.l ⟨false,c1,0,c1,O⟩=O from rfl]
 have hmk:=hmark_len early x.k S O
 generalize hmarkL early x.k S O=mk at hmk ⊢
 (repeat show _∧_;first|refine yr ?_|refine yt ?_|refine yf ?_|refine ya e9 ?_|refine yb e9 ?_|refine yo ?_)
 refine ⟨none,[],[(0,true),(1,true),(2,true),(3,true),(4,true)],[5],by kernel_rfl,?_⟩
 (repeat show _∧_;first|refine yr ?_|refine yt ?_|refine yf ?_|refine ya e9 ?_|refine yb e9 ?_|refine yo ?_)
 have e1:((((O++x.m).length:Nat):Int)-32).toNat-0=O.length:=by rw [hOl]; omega
 rw [e1]
 have e2:(if c1=((O.length:Nat):Int).toNat then 0 else 0+((O.length:Nat):Int).toNat*1)=O.length:=by rw [if_neg (by omega)]; omega
 have e3:min 32 ((((O++x.m).length:Nat):Int).toNat-((O.length:Nat):Int).toNat)=32:=by rw [hOl]; omega
 refine And.intro (show (if c1=((O.length:Nat):Int).toNat then 0 else 0+((O.length:Nat):Int).toNat*1)+min 32 ((((O++x.m).length:Nat):Int).toNat-((O.length:Nat):Int).toNat)≤c1 by rw [e2,e3]; omega) ?_
 (repeat show _∧_;first|refine yr ?_|refine yt ?_|refine yf ?_|refine ya e9 ?_|refine yb e9 ?_|refine yo ?_)
 refine ⟨by show 0+(O++x.m).length≤c1; omega,⟨hS2,by simp only [scale]; omega,by show (S.length+(O++x.m).length)*1≤140737488355328; omega⟩,fun c2 hc2=>?_⟩
 have hWl:(O++mk).length=(O++x.m).length:=by rw [hOl,List.length_append,hmk]
 (repeat show _∧_;first|refine yr ?_|refine yt ?_|refine yf ?_|refine ya e9 ?_|refine yb e9 ?_|refine yo ?_)
 (repeat first|refine And.intro (by omega) ?_|refine And.intro (by decide) ?_|(with_reducible refine frc_parts (by first|omega|decide) ?_)|(with_reducible refine frc_bytesL (by first|omega|decide) ?_)|refine And.intro rfl ?_)
 refine ⟨.tup [.c (.sl 4 0 0 (O++mk).length c1),.c (.int .i64 0)],_,⟨[0,1,2,3,5,7],⟨rfl,rfl,rfl⟩,?_⟩,O++mk,c1,c2,rfl,by omega,by rw [List.length_append,hWl]; exact hc2,rfl,rfl⟩
 (repeat first|exact trivial|refine ent1 ?_)
 refine eqC_bts ?_
 (repeat first|exact trivial|refine ent1 ?_)
 have hU:∀ i,i<(O++mk).length→updN (fun j=>SC.mp (bk 5 [0]) (bytesF (O++x.m).length (L (O++x.m)) j)) (if c1=((O.length:Nat):Int).toNat then 0 else 0+((O.length:Nat):Int).toNat*1) (min 32 ((((O++x.m).length:Nat):Int).toNat-((O.length:Nat):Int).toNat)) (fun q=>(fun j=>SC.mp (bk 6 [3,5,1,2]) ((fun i=>SC.w8 (L mk i)) j)) (q+0)) i=.w8 (L (O++mk) i):=by
  intro i hi
  rw [e2,e3]
  exact upd_row hm32 hmk (fun i hi=>mp_row i hi) (fun j hj=>rfl) i hi
 refine ⟨by simp only [List.length_append]; omega,?_⟩
 (repeat first|exact trivial|refine ent1 ?_)
 refine ⟨fun j hj=>eqC_bytes (fun i hi=>hU i hi) j,?_⟩
 (repeat first|exact trivial|refine ent1 ?_)
 refine ⟨fun j hj=>eqC_bytes (fun i hi=>app_row (l:=S) (m:=O++mk) rfl hWl (fun i hi=>bytesF_lt hi) (fun q hq=>hU q (by rw [hWl]; exact hq)) i (by rw [← hWl,← List.length_append]; exact hi)) j,?_⟩
 (repeat first|exact trivial|refine ent1 ?_)
set_option maxRecDepth 20000 in
set_option maxHeartbeats 8000000 in
theorem fn_hhear1 (S:Bs) (cS:Nat) (hS1:S.length≤500000) (hS2:S.length≤cS) (hS3:S.length≠0) (B:Sl) (hB:B.Ok) (x:Ms) (hx:x.Ok) (hE:errMs x=0) (hbr:bare x) (early:Bs) (he:early.length=32) (dn:BitVec 32) (f g:Nat→BitVec 32) (hd:TabOk dn f g) (hW:B.l=openMs x++hmarkL early x.k S (openMs x)) :
  FnR Try.prog tds 12 1 [svB B,scS 2 early 3 S.length cS,shaT dn 0 f g,lsC S cS] [.c (.p 1 0 0),.c (svC 0 B)] (fun _=>True)
  (fun y hs=>∃ (z:Ms) (c':Nat),sameMs z ⟨x.k,x.r,x.p,hmarkL early x.k S (openMs x)⟩∧z.p.s.Ok∧(S++B.l).length≤c'∧y=.tup [.agg (msC 4 z),.c (.int .i64 0)]∧hs=[svB B,scS 2 early 5 (S++B.l).length c',shaT 1 0 first steps,[],svB z.p.s,lsC (S++B.l) c']):=by
 refine fn_of_body tds_ok follows_ Try.func12 rfl (t:=.a (.c (.p 1 0 0))::.a (.c (svC 0 B))::anys (Try.f12.ntmps-2)) rfl (fun w r0 hr _=>?_)
 obtain ⟨x0,x1,x2,x3,rfl⟩:=len4' hr
 have e9:decide ((0:Int)≠0)=false:=by decide
 have hxm:Ms.Ok ⟨x.k,x.r,x.p,hmarkL early x.k S (openMs x)⟩:=⟨hx.r,hx.p,hmark_len _ _ _ _⟩
 have hWp:B.l=putMs ⟨x.k,x.r,x.p,hmarkL early x.k S (openMs x)⟩:=by rw [hW]; exact open_put hxm
 (repeat show _∧_;first|refine yr ?_|refine yt ?_|refine yf ?_|refine yo ?_)
 refine call_same (fn_mtake B hB) [0] rfl (by (repeat first|exact trivial|refine ent1 ?_)) (by refine eqC_bts ?_; (repeat first|exact trivial|refine ent1 ?_)) (fun _ _=>trivial) ?_
 rintro y hs' ⟨z,e,hz,hzo,rfl,rfl⟩
 rw [hWp] at hz
 obtain ⟨rfl,hs⟩:=take_putMs hxm hE hbr hz
 (repeat show _∧_;first|refine yr ?_|refine yt ?_|refine yf ?_|refine ya e9 ?_|refine yb e9 ?_|refine yo ?_)
 have hz':z.k=x.k:=hs.1
 have hWl:B.l.length=(openMs x).length+32:=by rw [hW,List.length_append,hmark_len]
 have hBf:=hB.fit
 have hBc:=hB.cap
 have hBs:=hB.small
 have hcut:Sub B ⟨B.z,B.N,B.o,B.c,openMs x⟩:=⟨id,fun _=>rfl,fun _=>⟨Nat.le_refl _,by dsimp only; omega⟩,fun i hi=>by
  have hi:i<(openMs x).length:=hi
  rw [Nat.sub_self,Nat.zero_add,hW,L_app1 hi]⟩
 have oS:Sl.Ok ⟨false,cS,0,cS,S⟩:=own_ok (by omega) (by omega)
 have oC:Sl.Ok ⟨B.z,B.N,B.o,B.c,openMs x⟩:=⟨by dsimp only; omega,by dsimp only; omega,fun h=>by have:=hB.nil h; rw [this] at hWl; simp at hWl,by dsimp only; omega⟩
 have hmk:=hmark_len early x.k S (openMs x)
 have hzm:z.m=hmarkL early x.k S (openMs x):=hs.2.2.2
 refine ⟨some [6],[],[(0,true),(1,true),(2,true),(3,true),(4,true),(5,true),(6,true),(7,true),(9,true),(10,true),(8,false),(11,true)],[],by kernel_rfl,?_⟩
 (repeat show _∧_;first|refine yr ?_|refine yt ?_|refine yf ?_|refine ya e9 ?_|refine yb e9 ?_|refine yo ?_)
 refine call_same (fn_hmark ⟨false,cS,0,cS,S⟩ ⟨B.z,B.N,B.o,B.c,openMs x⟩ oS oC early he z.k dn f g hd) [3,0,1,2] rfl (by (repeat first|exact trivial|refine ent1 ?_); refine ⟨by show (if B.c=0 then B.o else B.o+0*1)=B.o; split <;> rfl,by show ((B.l.length:Int)-32).toNat-0=(openMs x).length; rw [hWl]; omega,Nat.sub_zero _,?_⟩; (repeat first|exact trivial|refine ent1 ?_)) ?_ (fun _ _=>trivial) ?_
 ·refine ⟨rfl,fun j hj=>eqC_win0 (f:=fun j=>bytesF S.length (L S) j) (n:=S.length) (b:=L S) (fun i hi=>bytesF_lt hi) j,?_⟩
  refine hcut.ent ?_
  (repeat first|exact trivial|refine ent1 ?_)
 rintro y hs' ⟨rfl,rfl⟩
 rw [show Sl.l ⟨false,cS,0,cS,S⟩=S from rfl,show Sl.l ⟨B.z,B.N,B.o,B.c,openMs x⟩=openMs x from rfl,hz']
 generalize hmarkL early x.k S (openMs x)=mk at hmk hzm hs hxm hWp hW ⊢
 (repeat show _∧_;first|refine yr ?_|refine yt ?_|refine yf ?_|refine ya e9 ?_|refine yb e9 ?_|refine yo ?_)
 refine ⟨⟨rfl,rfl,fun j hj=>rfl,fun j hj=>rfl⟩,fun b1 hb1=>?_⟩
 have k3:(!b1)=false:=by rw [hb1.2 (fun j hj=>by rw [hzm]; rfl)]; rfl
 (repeat show _∧_;first|refine yr ?_|refine yt ?_|refine yf ?_|refine ya e9 ?_|refine yb e9 ?_|refine ya k3 ?_|refine yb k3 ?_|refine yo ?_)
 refine sn_bts rfl hB.fit (fun h=>by rw [hB.nil h]; rfl) (fun g2 hg2=>?_)
 refine ⟨⟨hS2,by simp only [scale]; omega,by show (S.length+B.l.length)*1≤140737488355328; omega⟩,fun c2 hc2=>?_⟩
 (repeat show _∧_;first|refine yr ?_|refine yt ?_|refine yf ?_|refine ya e9 ?_|refine yb e9 ?_|refine ya k3 ?_|refine yb k3 ?_|refine yo ?_)
 (repeat first|refine And.intro (by omega) ?_|refine And.intro (by decide) ?_|(with_reducible refine frc_parts (by first|omega|decide) ?_)|(with_reducible refine frc_bytesL (by first|omega|decide) ?_)|refine And.intro rfl ?_)
 refine ⟨.tup [.agg (msC 4 z),.c (.int .i64 0)],_,⟨[0,1,2,3,5,7],⟨rfl,rfl,rfl⟩,?_⟩,z,c2,hs,hzo,by rw [List.length_append]; exact hc2,rfl,rfl⟩
 (repeat first|exact trivial|refine ent1 ?_)
 refine ⟨hz'.symm,?_⟩
 (repeat first|exact trivial|refine ent1 ?_)
 refine eqC_bts ?_
 (repeat first|exact trivial|refine ent1 ?_)
 refine ⟨by rw [List.length_append],?_⟩
 (repeat first|exact trivial|refine ent1 ?_)
 refine eqC_btsM ?_
 (repeat first|exact trivial|refine ent1 ?_)
 refine ⟨fun j hj=>eqC_bytes (fun i hi=>app_row rfl rfl (fun i hi=>bytesF_lt hi) hg2 i (by simpa using hi)) j,?_⟩
 (repeat first|exact trivial|refine ent1 ?_)
end Sx
end
section
namespace Vi
open Sha Sx
def wantL (E W:Bs):List SC:=[.str (U8 (dervL (oneL E) [99,32,104,115,32,116,114,97,102,102,105,99] W)),.str (U8 (dervL (oneL E) [115,32,104,115,32,116,114,97,102,102,105,99] W)),.str (U8 (dervL (twoL E) [99,32,97,112,32,116,114,97,102,102,105,99] W)),.str (U8 (dervL (twoL E) [115,32,97,112,32,116,114,97,102,102,105,99] W))]
end Vi
namespace Sx
open Sha Vi
theorem dwin {g:Nat→Nat} {s said:Bs} {lab:List UInt8} (i:Nat) (hi:i<32):SC.mp g (winF 0 32 (exF s (labT lab (sumL said) 32)) i)=.w8 (L (dervL s lab said) i):=by
 have:=winF_at 0 32 (exF s (labT lab (sumL said) 32)) hi
 rw [Nat.zero_add] at this
 rw [this]
 exact congrArg SC.w8 (derv_row i hi)
set_option maxRecDepth 20000 in
set_option maxHeartbeats 8000000 in
theorem fn_hwant (K S:Sl) (hK:K.Ok) (hS:S.Ok) (hS6:S.l.length<1000000):FnR Try.prog tds 15 2 [svB K,svB S] [.c (svC 0 K),.c (svC 1 S)] (fun _=>True)
  (fun y hs=>y=.a (.agg [.row 4 (nthC (wantL (earlyL K.l) S.l))])∧hs=[svB K,svB S]):=by
 refine fn_of_body tds_ok follows_ Try.func15 rfl (t:=.a (.c (svC 0 K))::.a (.c (svC 1 S))::anys (Try.f15.ntmps-2)) rfl (fun w r0 hr _=>?_)
 obtain ⟨x0,x1,rfl⟩:=len2' hr
 have hKs:=hK.small
 have hSs:=hS.small
 (repeat show _∧_;first|refine yr ?_|refine yt ?_|refine yf ?_|refine yo ?_)
 refine call_same (fn_rmark false K.z 32 K.N 0 K.o 32 K.c zer32 K.l (by rw [zer_len]; decide) (by rw [zer_len]; decide) (fun h=>Bool.noConfusion h) hK.fit hK.cap hK.nil (by rw [zer_len]; decide) (by omega)) [3,0] rfl (by (repeat first|exact trivial|refine ent1 ?_)) ?_ (fun _ _=>trivial) ?_
 ·refine ⟨rfl,fun j hj=>eqC_win0 (f:=fun _=>SC.w8 0) (fun i hi=>?_) j,?_⟩
  ·rw [zer_len] at hi
   exact congrArg SC.w8 (zrow (q:=[]) i hi).1
  refine eqC_bts ?_
  (repeat first|exact trivial|refine ent1 ?_)
 rintro y hs' ⟨c0,rfl,rfl,hc0⟩
 rw [show markL zer32 K.l=earlyL K.l from rfl]
 have lE:=early_len K.l
 generalize earlyL K.l=E at lE ⊢
 (repeat show _∧_;first|refine yr ?_|refine yt ?_|refine yf ?_|refine yo ?_)
 refine call_same (fn_rderive false true c0 0 0 0 c0 0 E [] [100,101,114,105,118,101,100] (by omega) (by omega) (fun h=>Bool.noConfusion h) (by decide) (by decide) (fun _=>rfl) (by omega) (by decide) (by decide)) [4,0] rfl (by (repeat first|exact trivial|refine ent1 ?_)) ?_ (fun _ _=>trivial) ?_
 ·refine ⟨rfl,fun j hj=>eqC_win0 (f:=fun j=>SC.mp (bk 4 [3,0]) (bytesF 32 (L E) j)) (fun i hi=>by rw [bytesF_lt (by omega)]; rfl) j,?_⟩
  exact eqSegs_nil (eqSegs_nil trivial)
 rintro y hs' ⟨N1,c1,hN1,hcc1,rfl,rfl⟩
 (repeat show _∧_;first|refine yr ?_|refine yt ?_|refine yf ?_|refine yo ?_)
 have l1:=derv_len E [100,101,114,105,118,101,100] []
 have r1:=fun (g:Nat→Nat) (i:Nat) (hi:i<32)=>dwin (g:=g) (s:=E) (said:=[]) (lab:=[100,101,114,105,118,101,100]) i hi
 have hO1:oneL E=markL (dervL E [100,101,114,105,118,101,100] []) []:=rfl
 generalize dervL E [100,101,114,105,118,101,100] []=D1 at l1 r1 hO1
 refine call_same (fn_rmark false true N1 0 0 0 c1 0 D1 [] (by omega) (by omega) (fun h=>Bool.noConfusion h) (by decide) (by decide) (fun _=>rfl) (by omega) (by decide)) [5,0] rfl (by (repeat first|exact trivial|refine ent1 ?_)) ?_ (fun _ _=>trivial) ?_
 ·refine ⟨rfl,fun j hj=>eqC_win0 (fun i hi=>r1 _ i (by omega)) j,?_⟩
  exact eqSegs_nil (eqSegs_nil trivial)
 rintro y hs' ⟨d1,rfl,rfl,hd1⟩
 rw [← hO1]
 have lO:(oneL E).length=32:=by rw [hO1]; exact markL_len _ _
 have hT:twoL E=markL (dervL (oneL E) [100,101,114,105,118,101,100] []) []:=rfl
 rw [show wantL E S.l=[.str (U8 (dervL (oneL E) [99,32,104,115,32,116,114,97,102,102,105,99] S.l)),.str (U8 (dervL (oneL E) [115,32,104,115,32,116,114,97,102,102,105,99] S.l)),.str (U8 (dervL (twoL E) [99,32,97,112,32,116,114,97,102,102,105,99] S.l)),.str (U8 (dervL (twoL E) [115,32,97,112,32,116,114,97,102,102,105,99] S.l))] from rfl]
 generalize oneL E=O at lO hT ⊢
 (repeat show _∧_;first|refine yr ?_|refine yt ?_|refine yf ?_|refine yo ?_)
 refine call_same (fn_rderive false true d1 0 0 0 d1 0 O [] [100,101,114,105,118,101,100] (by omega) (by omega) (fun h=>Bool.noConfusion h) (by decide) (by decide) (fun _=>rfl) (by omega) (by decide) (by decide)) [6,0] rfl (by (repeat first|exact trivial|refine ent1 ?_)) ?_ (fun _ _=>trivial) ?_
 ·refine ⟨rfl,fun j hj=>eqC_win0 (f:=fun j=>SC.mp (bk 6 [5,0]) (bytesF 32 (L O) j)) (fun i hi=>by rw [bytesF_lt (by omega)]; rfl) j,?_⟩
  exact eqSegs_nil (eqSegs_nil trivial)
 rintro y hs' ⟨N2,c2,hN2,hcc2,rfl,rfl⟩
 (repeat show _∧_;first|refine yr ?_|refine yt ?_|refine yf ?_|refine yo ?_)
 have l2:=derv_len O [100,101,114,105,118,101,100] []
 have r2:=fun (g:Nat→Nat) (i:Nat) (hi:i<32)=>dwin (g:=g) (s:=O) (said:=[]) (lab:=[100,101,114,105,118,101,100]) i hi
 have hO2:twoL E=markL (dervL O [100,101,114,105,118,101,100] []) []:=hT
 generalize dervL O [100,101,114,105,118,101,100] []=D2 at l2 r2 hO2
 refine call_same (fn_rmark false true N2 0 0 0 c2 0 D2 [] (by omega) (by omega) (fun h=>Bool.noConfusion h) (by decide) (by decide) (fun _=>rfl) (by omega) (by decide)) [7,0] rfl (by (repeat first|exact trivial|refine ent1 ?_)) ?_ (fun _ _=>trivial) ?_
 ·refine ⟨rfl,fun j hj=>eqC_win0 (fun i hi=>r2 _ i (by omega)) j,?_⟩
  exact eqSegs_nil (eqSegs_nil trivial)
 rintro y hs' ⟨d2,rfl,rfl,hd2⟩
 rw [← hO2]
 have lT:(twoL E).length=32:=by rw [hO2]; exact markL_len _ _
 generalize twoL E=T at lT ⊢
 (repeat show _∧_;first|refine yr ?_|refine yt ?_|refine yf ?_|refine yo ?_)
 refine ⟨none,[],[(0,true),(1,true),(4,true),(5,true),(8,true),(9,true),(12,true),(13,true),(2,false),(3,true),(6,false),(7,true),(10,false),(11,true),(14,false),(15,true),(16,true)],[17],by kernel_rfl,?_⟩
 (repeat show _∧_;first|refine yr ?_|refine yt ?_|refine yf ?_|refine yo ?_)
 refine call_same (fn_rderive false S.z d1 S.N 0 S.o d1 S.c O S.l [99,32,104,115,32,116,114,97,102,102,105,99] (by omega) (by omega) (fun h=>Bool.noConfusion h) hS.fit hS.cap hS.nil (by omega) (by omega) (by decide)) [6,1] rfl (by (repeat first|exact trivial|refine ent1 ?_)) ?_ (fun _ _=>trivial) ?_
 ·refine ⟨rfl,fun j hj=>eqC_win0 (f:=fun j=>SC.mp (bk 6 [5,0]) (bytesF 32 (L O) j)) (fun i hi=>by rw [bytesF_lt (by omega)]; rfl) j,?_⟩
  refine eqSegs_nil ?_
  exact eqC_bts trivial
 rintro y hs' ⟨N3,c3,hN3,hcc3,rfl,rfl⟩
 (repeat show _∧_;first|refine yr ?_|refine yt ?_|refine yf ?_|refine yo ?_)
 refine And.intro (by simp only [scale]; omega) ?_
 refine ⟨U8 (dervL O [99,32,104,115,32,116,114,97,102,102,105,99] S.l),str_of (derv_len _ _ _) (fun i hi=>dwin i (by omega)),?_⟩
 (repeat show _∧_;first|refine yr ?_|refine yt ?_|refine yf ?_|refine yo ?_)
 refine call_same (fn_rderive false S.z d1 S.N 0 S.o d1 S.c O S.l [115,32,104,115,32,116,114,97,102,102,105,99] (by omega) (by omega) (fun h=>Bool.noConfusion h) hS.fit hS.cap hS.nil (by omega) (by omega) (by decide)) [6,1] rfl (by (repeat first|exact trivial|refine ent1 ?_)) ?_ (fun _ _=>trivial) ?_
 ·refine ⟨rfl,fun j hj=>eqC_win0 (f:=fun j=>SC.mp (bk 6 [5,0]) (bytesF 32 (L O) j)) (fun i hi=>by rw [bytesF_lt (by omega)]; rfl) j,?_⟩
  refine eqSegs_nil ?_
  exact eqC_bts trivial
 rintro y hs' ⟨N4,c4,hN4,hcc4,rfl,rfl⟩
 (repeat show _∧_;first|refine yr ?_|refine yt ?_|refine yf ?_|refine yo ?_)
 refine And.intro (by simp only [scale]; omega) ?_
 refine ⟨U8 (dervL O [115,32,104,115,32,116,114,97,102,102,105,99] S.l),str_of (derv_len _ _ _) (fun i hi=>dwin i (by omega)),?_⟩
 (repeat show _∧_;first|refine yr ?_|refine yt ?_|refine yf ?_|refine yo ?_)
 refine call_same (fn_rderive false S.z d2 S.N 0 S.o d2 S.c T S.l [99,32,97,112,32,116,114,97,102,102,105,99] (by omega) (by omega) (fun h=>Bool.noConfusion h) hS.fit hS.cap hS.nil (by omega) (by omega) (by decide)) [8,1] rfl (by (repeat first|exact trivial|refine ent1 ?_)) ?_ (fun _ _=>trivial) ?_
 ·refine ⟨rfl,fun j hj=>eqC_win0 (f:=fun j=>SC.mp (bk 8 [7,0]) (bytesF 32 (L T) j)) (fun i hi=>by rw [bytesF_lt (by omega)]; rfl) j,?_⟩
  refine eqSegs_nil ?_
  exact eqC_bts trivial
 rintro y hs' ⟨N5,c5,hN5,hcc5,rfl,rfl⟩
 (repeat show _∧_;first|refine yr ?_|refine yt ?_|refine yf ?_|refine yo ?_)
 refine And.intro (by simp only [scale]; omega) ?_
 refine ⟨U8 (dervL T [99,32,97,112,32,116,114,97,102,102,105,99] S.l),str_of (derv_len _ _ _) (fun i hi=>dwin i (by omega)),?_⟩
 (repeat show _∧_;first|refine yr ?_|refine yt ?_|refine yf ?_|refine yo ?_)
 refine call_same (fn_rderive false S.z d2 S.N 0 S.o d2 S.c T S.l [115,32,97,112,32,116,114,97,102,102,105,99] (by omega) (by omega) (fun h=>Bool.noConfusion h) hS.fit hS.cap hS.nil (by omega) (by omega) (by decide)) [8,1] rfl (by (repeat first|exact trivial|refine ent1 ?_)) ?_ (fun _ _=>trivial) ?_
 ·refine ⟨rfl,fun j hj=>eqC_win0 (f:=fun j=>SC.mp (bk 8 [7,0]) (bytesF 32 (L T) j)) (fun i hi=>by rw [bytesF_lt (by omega)]; rfl) j,?_⟩
  refine eqSegs_nil ?_
  exact eqC_bts trivial
 rintro y hs' ⟨N6,c6,hN6,hcc6,rfl,rfl⟩
 (repeat show _∧_;first|refine yr ?_|refine yt ?_|refine yf ?_|refine yo ?_)
 refine And.intro (by simp only [scale]; omega) ?_
 refine ⟨U8 (dervL T [115,32,97,112,32,116,114,97,102,102,105,99] S.l),str_of (derv_len _ _ _) (fun i hi=>dwin i (by omega)),?_⟩
 (repeat show _∧_;first|refine yr ?_|refine yt ?_|refine yf ?_|refine yo ?_)
 refine ⟨.a (.agg [.row 4 (nthC [.str (U8 (dervL O [99,32,104,115,32,116,114,97,102,102,105,99] S.l)),.str (U8 (dervL O [115,32,104,115,32,116,114,97,102,102,105,99] S.l)),.str (U8 (dervL T [99,32,97,112,32,116,114,97,102,102,105,99] S.l)),.str (U8 (dervL T [115,32,97,112,32,116,114,97,102,102,105,99] S.l))])]),_,⟨[0,1],⟨rfl,rfl,rfl⟩,?_⟩,rfl,rfl⟩
 refine ⟨rfl,rfl,fun j hj=>?_,?_⟩
 ·match j,hj with
  | 0,_=>exact ⟨rfl,trivial⟩
  | 1,_=>exact ⟨rfl,trivial⟩
  | 2,_=>exact ⟨rfl,trivial⟩
  | 3,_=>exact ⟨rfl,trivial⟩
 refine eqC_bts (eqC_bts ?_)
 (repeat first|exact trivial|refine ent1 ?_)
end Sx
end
section
namespace Vi
open Sha Sx
theorem derv_mark (s:Bs) (lab:List UInt8) (said:Bs):dervL s lab said=markL s (labT lab (sumL said) 32++[1#8]):=by
 unfold dervL
 generalize labT lab (sumL said) 32=A
 have h1:exT s A 1=markL s (A++[1#8]):=by
  show markL s ([]++A++[BitVec.ofNat 8 (0+1)])=_
  rw [List.nil_append]
 refine tab_ext (markL_len _ _) fun i hi=>?_
 unfold exF
 rw [show i / 32+1=1 by omega]
 show L ([]++exT s A 1) i=_
 rw [List.nil_append,h1]
def keyA:Bs:=[107#8,101#8,121#8]
def xA:Ms:=⟨20#8,zer32,pm0,zer32⟩
def vE:Bs:=[5#8,43#8,145#8,103#8,228#8,212#8,123#8,136#8,101#8,17#8,130#8,88#8,56#8,145#8,35#8,119#8,99#8,124#8,67#8,17#8,123#8,8#8,144#8,145#8,26#8,9#8,17#8,229#8,206#8,147#8,186#8,247#8]
def vS0:Bs:=[227#8,176#8,196#8,66#8,152#8,252#8,28#8,20#8,154#8,251#8,244#8,200#8,153#8,111#8,185#8,36#8,39#8,174#8,65#8,228#8,100#8,155#8,147#8,76#8,164#8,149#8,153#8,27#8,120#8,82#8,184#8,85#8]
def vD1:Bs:=[130#8,255#8,91#8,89#8,210#8,202#8,21#8,121#8,40#8,193#8,250#8,228#8,163#8,123#8,182#8,14#8,212#8,67#8,144#8,252#8,252#8,110#8,226#8,62#8,240#8,85#8,102#8,42#8,254#8,246#8,54#8,220#8]
def vO1:Bs:=[160#8,252#8,55#8,244#8,74#8,100#8,140#8,44#8,114#8,61#8,66#8,101#8,174#8,202#8,251#8,48#8,223#8,170#8,91#8,242#8,45#8,171#8,248#8,155#8,145#8,82#8,77#8,125#8,57#8,110#8,84#8,48#8]
def vD2:Bs:=[38#8,84#8,187#8,0#8,239#8,26#8,24#8,251#8,198#8,158#8,14#8,147#8,145#8,85#8,159#8,85#8,52#8,242#8,100#8,240#8,195#8,51#8,127#8,209#8,107#8,110#8,20#8,236#8,57#8,215#8,148#8,155#8]
def vT:Bs:=[93#8,156#8,192#8,241#8,75#8,35#8,241#8,199#8,249#8,184#8,251#8,218#8,225#8,177#8,186#8,148#8,211#8,80#8,35#8,18#8,152#8,248#8,203#8,37#8,80#8,94#8,229#8,208#8,46#8,119#8,64#8,167#8]
def vKc:Bs:=[53#8,98#8,11#8,142#8,75#8,202#8,162#8,232#8,60#8,167#8,61#8,46#8,60#8,201#8,112#8,6#8,82#8,4#8,13#8,92#8,34#8,149#8,203#8,114#8,164#8,104#8,28#8,95#8,5#8,212#8,252#8,188#8]
def vmk:Bs:=[40#8,98#8,143#8,29#8,21#8,149#8,250#8,163#8,182#8,174#8,178#8,251#8,169#8,91#8,138#8,69#8,38#8,195#8,204#8,244#8,114#8,41#8,2#8,172#8,65#8,99#8,221#8,235#8,172#8,181#8,27#8,187#8]
def vSW:Bs:=[210#8,113#8,88#8,150#8,158#8,18#8,113#8,167#8,69#8,13#8,146#8,194#8,193#8,120#8,122#8,134#8,103#8,137#8,108#8,76#8,186#8,160#8,81#8,97#8,94#8,75#8,39#8,144#8,206#8,248#8,174#8,178#8]
def vV:Bs:=[91#8,59#8,162#8,130#8,205#8,219#8,219#8,149#8,61#8,205#8,61#8,104#8,110#8,81#8,29#8,129#8,188#8,44#8,179#8,31#8,152#8,107#8,215#8,163#8,136#8,9#8,39#8,165#8,9#8,210#8,115#8,197#8]
theorem kE:markL zer32 keyA=vE:=of_decide_eq_true (mark_by (p:=fun l=>decide (l=vE)) (by decide +kernel))
theorem kS0:sumL []=vS0:=of_decide_eq_true (sum_by (p:=fun l=>decide (l=vS0)) (by decide +kernel))
theorem kD1:markL vE (labT [100,101,114,105,118,101,100] vS0 32++[1#8])=vD1:=of_decide_eq_true (mark_by (p:=fun l=>decide (l=vD1)) (by decide +kernel))
theorem kO1:markL vD1 []=vO1:=of_decide_eq_true (mark_by (p:=fun l=>decide (l=vO1)) (by decide +kernel))
theorem kD2:markL vO1 (labT [100,101,114,105,118,101,100] vS0 32++[1#8])=vD2:=of_decide_eq_true (mark_by (p:=fun l=>decide (l=vD2)) (by decide +kernel))
theorem kT:markL vD2 []=vT:=of_decide_eq_true (mark_by (p:=fun l=>decide (l=vT)) (by decide +kernel))
theorem kKc:markL vE (labT [99,32,102,105,110,105,115,104,101,100] vS0 32++[1#8])=vKc:=of_decide_eq_true (mark_by (p:=fun l=>decide (l=vKc)) (by decide +kernel))
theorem kmk:markL vKc ([]++[20#8,0#8,0#8,32#8])=vmk:=of_decide_eq_true (mark_by (p:=fun l=>decide (l=vmk)) (by decide +kernel))
theorem kSW:sumL ([20#8,0#8,0#8,32#8]++vmk)=vSW:=of_decide_eq_true (sum_by (p:=fun l=>decide (l=vSW)) (by decide +kernel))
theorem kV:markL vT (labT [99,32,97,112,32,116,114,97,102,102,105,99] vSW 32++[1#8])=vV:=of_decide_eq_true (mark_by (p:=fun l=>decide (l=vV)) (by decide +kernel))
theorem openA:openMs xA=[20#8,0#8,0#8,32#8]:=rfl
theorem awakeV:L (dervL (twoL (earlyL keyA)) [99,32,97,112,32,116,114,97,102,102,105,99] (openMs xA++hmarkL (earlyL keyA) 20#8 [] (openMs xA))) 0≠0#8:=by
 have e1:hmarkL (earlyL keyA) 20#8 [] (openMs xA)=vmk:=by
  unfold hmarkL earlyL
  rw [kE,show labM 20#8=[99,32,102,105,110,105,115,104,101,100] from rfl,derv_mark,kS0,kKc,openA,kmk]
 have e2:twoL (earlyL keyA)=vT:=by
  unfold twoL oneL earlyL
  rw [kE,derv_mark vE,kS0,kD1,kO1,derv_mark vO1,kS0,kD2,kT]
 rw [e1,e2,openA,derv_mark,kSW,kV]
 decide
end Vi
namespace Sx
open Sha Vi
theorem nthC_app:∀ {l m:List SC} {i:Nat},nthC (l++m) (l.length+i)=nthC m i
 | [],m,i=>by rw [List.nil_append,List.length_nil,Nat.zero_add]
 | x::l,m,i=>by
  rw [List.cons_append,List.length_cons,show l.length+1+i=(l.length+i)+1 by omega]
  exact nthC_app (l:=l)
theorem nthC_app1:∀ {l m:List SC} {i:Nat},i<l.length→nthC (l++m) i=nthC l i
 | [],m,i,h=>absurd h (by simp)
 | x::l,m,0,h=>rfl
 | x::l,m,i+1,h=>nthC_app1 (l:=l) (by simpa using h)
theorem nthC_map {f:Nat→SC} {n j:Nat} (h:j<n):nthC ((List.range n).map f) j=f j:=by
 have e:∀ {l:List SC} {i:Nat} {x:SC},l[i]?=some x→nthC l i=x:=by
  intro l
  induction l with
  | nil=>intro i x h; simp at h
  | cons y l ih =>
   intro i x h
   cases i with
   | zero=>simp at h; exact h
   | succ i=>exact ih (by simpa using h)
 exact e (by simp [h])
theorem four_cell {a b c d:Nat→SC} (j:Nat) (hj:j<32):nthC (flat [.row 32 a,.row 32 b,.row 32 c,.row 32 d]) (0+j)=a j∧nthC (flat [.row 32 a,.row 32 b,.row 32 c,.row 32 d]) (32+j)=b j ∧
  nthC (flat [.row 32 a,.row 32 b,.row 32 c,.row 32 d]) (64+j)=c j∧nthC (flat [.row 32 a,.row 32 b,.row 32 c,.row 32 d]) (96+j)=d j:=by
 have e:flat [.row 32 a,.row 32 b,.row 32 c,.row 32 d]=(List.range 32).map a++((List.range 32).map b++((List.range 32).map c++((List.range 32).map d++[]))):=rfl
 rw [e]
 have hl:∀ f:Nat→SC,((List.range 32).map f).length=32:=fun f=>by simp
 have sk:∀ (f:Nat→SC) (m:List SC) (i:Nat),nthC ((List.range 32).map f++m) (32+i)=nthC m i:=fun f m i=>by
  have:=nthC_app (l:=(List.range 32).map f) (m:=m) (i:=i)
  rwa [hl] at this
 have at_:∀ (f:Nat→SC) (m:List SC) (i:Nat),i<32→nthC ((List.range 32).map f++m) i=f i:=fun f m i hi=>by
  rw [nthC_app1 (by rw [hl]; exact hi),nthC_map hi]
 refine ⟨?_,?_,?_,?_⟩
 ·rw [Nat.zero_add,at_ _ _ _ hj]
 ·rw [sk,at_ _ _ _ hj]
 ·rw [show 64+j=32+(32+j) by omega,sk,sk,at_ _ _ _ hj]
 ·rw [show 96+j=32+(32+(32+j)) by omega,sk,sk,sk,at_ _ _ _ hj]
theorem sec_ok {a b c d:Bs} {g g':Nat→Nat} (j:Nat) (hj:j<32) :
  (∀ o:Nat,o=0∨o=32∨o=64∨o=96→isNum .u8 (nthC (flat [.row 32 fun j=>SC.mp g (.w8 (L a j)),.row 32 fun j=>SC.mp g (.w8 (L b j)),.row 32 fun j=>SC.mp g (.w8 (L c j)),.row 32 fun j=>SC.mp g (.w8 (L d j))]) (o+j))=true ∧
   nthC (flat [.row 32 fun j=>SC.mp g (.w8 (L a j)),.row 32 fun j=>SC.mp g (.w8 (L b j)),.row 32 fun j=>SC.mp g (.w8 (L c j)),.row 32 fun j=>SC.mp g (.w8 (L d j))]) (o+j) =
   nthC (flat [.row 32 fun j=>SC.mp g' (.w8 (L a j)),.row 32 fun j=>SC.mp g' (.w8 (L b j)),.row 32 fun j=>SC.mp g' (.w8 (L c j)),.row 32 fun j=>SC.mp g' (.w8 (L d j))]) (o+j)):=by
 intro o ho
 obtain ⟨a1,a2,a3,a4⟩:=four_cell (a:=fun j=>SC.mp g (.w8 (L a j))) (b:=fun j=>SC.mp g (.w8 (L b j))) (c:=fun j=>SC.mp g (.w8 (L c j))) (d:=fun j=>SC.mp g (.w8 (L d j))) j hj
 obtain ⟨b1,b2,b3,b4⟩:=four_cell (a:=fun j=>SC.mp g' (.w8 (L a j))) (b:=fun j=>SC.mp g' (.w8 (L b j))) (c:=fun j=>SC.mp g' (.w8 (L c j))) (d:=fun j=>SC.mp g' (.w8 (L d j))) j hj
 rcases ho with rfl|rfl|rfl|rfl
 ·rw [a1,b1]; exact ⟨rfl,rfl⟩
 ·rw [a2,b2]; exact ⟨rfl,rfl⟩
 ·rw [a3,b3]; exact ⟨rfl,rfl⟩
 ·rw [a4,b4]; exact ⟨rfl,rfl⟩
theorem xA_ok:xA.Ok:=⟨zer_len,nil_ok,zer_len⟩
theorem xA_err:errMs xA=0:=rfl
theorem xA_bare:bare xA:=fun _=>⟨rfl,rfl,rfl,rfl,rfl,rfl,rfl,rfl,rfl,rfl,rfl⟩
set_option maxRecDepth 20000 in
set_option maxHeartbeats 16000000 in
theorem fn_awake13:FnR Try.prog tds 4 1 [[]] [] (fun _=>True) (fun y hs=>y=.a (.c (.bool true))∧hs=[[]]):=by
 refine fn_of_body tds_ok follows_ Try.func4 rfl (t:=anys Try.f4.ntmps) rfl (fun w r0 hr _=>?_)
 obtain ⟨x0,rfl⟩:=List.length_eq_one_iff.1 hr
 (repeat show _∧_;first|refine yr ?_|refine yt ?_|refine yf ?_|refine yo ?_)
 refine call_same fn_knew [] rfl (by (repeat first|exact trivial|refine ent1 ?_)) trivial (fun _ _=>trivial) ?_
 rintro y hs' ⟨rfl,rfl⟩
 have kok:Sl.Ok ⟨false,3,0,3,keyA⟩:=own_ok (by decide) (by decide)
 have vA:=awakeV
 have he:=early_len keyA
 (repeat show _∧_;first|refine yr ?_|refine yt ?_|refine yf ?_|refine yo ?_)
 refine call_same (fn_hnew ⟨false,3,0,3,keyA⟩ kok 0#32 (fun _=>0#32) (fun _=>0#32) (.inl rfl)) [2,1] rfl (by (repeat first|exact trivial|refine ent1 ?_)) ?_ (fun _ _=>trivial) ?_
 ·refine ⟨rfl,fun j hj=>eqC_lit keyA hj,?_⟩
  (repeat first|exact trivial|refine ent1 ?_)
 rintro y hs' ⟨rfl,rfl⟩
 rw [show Sl.l ⟨false,3,0,3,keyA⟩=keyA from rfl]
 (repeat show _∧_;first|refine yr ?_|refine yt ?_|refine yf ?_|refine yo ?_)
 refine call_same (fn_hnew ⟨false,3,0,3,keyA⟩ kok 1#32 first steps (.inr ⟨rfl,rfl,rfl⟩)) [4,1] rfl (by (repeat first|exact trivial|refine ent1 ?_)) ?_ (fun _ _=>trivial) ?_
 ·refine ⟨rfl,fun j hj=>eqC_lit keyA hj,?_⟩
  (repeat first|exact trivial|refine ent1 ?_)
 rintro y hs' ⟨rfl,rfl⟩
 rw [show Sl.l ⟨false,3,0,3,keyA⟩=keyA from rfl]
 generalize earlyL keyA=E at vA he ⊢
 (repeat show _∧_;first|refine yr ?_|refine yt ?_|refine yf ?_|refine yo ?_)
 refine call_same (fn_hsay0 xA xA_ok xA_err E he 1#32 first steps (.inr ⟨rfl,rfl,rfl⟩)) [0,3,1] rfl (by (repeat first|exact trivial|refine ent1 ?_); refine ⟨zrow,?_⟩; (repeat first|exact trivial|refine ent1 ?_); refine ⟨zrow,?_⟩; (repeat first|exact trivial|refine ent1 ?_)) (by refine eqSegs_nil ?_; (repeat first|exact trivial|refine ent1 ?_)) (fun _ _=>trivial) ?_
 rintro y hs' ⟨W,c,c',hW,hWc,hWc',rfl,rfl⟩
 have hWl:W.length=36:=by rw [hW,List.length_append,hmark_len]; rfl
 rw [show hmarkL E xA.k [] (openMs xA)=hmarkL E 20#8 [] (openMs xA) from rfl] at hW
 rw [← hW] at vA
 have oW:Sl.Ok ⟨false,c,0,c,W⟩:=own_ok hWc (by omega)
 have oW':Sl.Ok ⟨false,c',0,c',W⟩:=own_ok hWc' (by omega)
 (repeat show _∧_;first|refine yr ?_|refine yt ?_|refine yf ?_|refine yo ?_)
 refine call_same (fn_hhear0 ⟨false,c,0,c,W⟩ oW xA xA_ok xA_err xA_bare E he 1#32 first steps (.inr ⟨rfl,rfl,rfl⟩) hW) [6,5,1] rfl (by (repeat first|exact trivial|refine ent1 ?_)) ?_ (fun _ _=>trivial) ?_
 ·refine ⟨rfl,fun j hj=>eqC_winBM (Nat.le_refl _),?_⟩
  (repeat first|exact trivial|refine ent1 ?_)
 rintro y hs' ⟨z,c2,hz,hzo,hWc2,rfl,rfl⟩
 have oW2:Sl.Ok ⟨false,c2,0,c2,W⟩:=own_ok hWc2 (by omega)
 clear hz hW
 have e9:decide ((0:Int)=0)=true:=by decide
 have e1:decide ((30:Int)<(W.length:Int))=true:=decide_eq_true (by omega)
 (repeat show _∧_;first|refine yr ?_|refine yt ?_|refine yf ?_|refine ya e9 ?_|refine yb e9 ?_|refine ya e1 ?_|refine yb e1 ?_|refine yo ?_)
 refine call_same (fn_hsecrets ⟨false,c',0,c',W⟩ oW' E he 1#32 first steps (.inr ⟨rfl,rfl,rfl⟩)) [7,3,1] rfl (by (repeat first|exact trivial|refine ent1 ?_)) ?_ (fun _ _=>trivial) ?_
 ·refine ⟨rfl,fun j hj=>eqC_winBM (Nat.le_refl _),?_⟩
  (repeat first|exact trivial|refine ent1 ?_)
 rintro y hs' ⟨rfl,dn1,f1,g1,hd1,rfl⟩
 rw [show Sl.l ⟨false,c',0,c',W⟩=W from rfl]
 (repeat show _∧_;first|refine yr ?_|refine yt ?_|refine yf ?_|refine ya e9 ?_|refine yb e9 ?_|refine ya e1 ?_|refine yb e1 ?_|refine yo ?_)
 refine call_same (fn_hsecrets ⟨false,c2,0,c2,W⟩ oW2 E he dn1 f1 g1 hd1) [9,5,1] rfl (by (repeat first|exact trivial|refine ent1 ?_)) ?_ (fun _ _=>trivial) ?_
 ·refine ⟨rfl,fun j hj=>eqC_winBM (Nat.le_refl _),?_⟩
  (repeat first|exact trivial|refine ent1 ?_)
 rintro y hs' ⟨rfl,dn2,f2,g2,hd2,rfl⟩
 rw [show Sl.l ⟨false,c2,0,c2,W⟩=W from rfl]
 (repeat show _∧_;first|refine yr ?_|refine yt ?_|refine yf ?_|refine ya e9 ?_|refine yb e9 ?_|refine ya e1 ?_|refine yb e1 ?_|refine yo ?_)
 refine And.intro ⟨Try.stoodInHeld47,Try.eqGuardType47,⟨rfl,fun j hj=>sec_ok j hj 0 (.inl rfl)⟩,⟨rfl,fun j hj=>sec_ok j hj 32 (.inr (.inl rfl))⟩,⟨rfl,fun j hj=>sec_ok j hj 64 (.inr (.inr (.inl rfl)))⟩,⟨rfl,fun j hj=>sec_ok j hj 96 (.inr (.inr (.inr rfl)))⟩,trivial⟩ ?_
 (repeat show _∧_;first|refine yr ?_|refine yt ?_|refine yf ?_|refine ya e9 ?_|refine yb e9 ?_|refine ya e1 ?_|refine yb e1 ?_|refine yo ?_)
 refine call_same (fn_hsecrets ⟨false,c',0,c',W⟩ oW' E he dn2 f2 g2 hd2) [7,3,1] rfl (by (repeat first|exact trivial|refine ent1 ?_)) ?_ (fun _ _=>trivial) ?_
 ·refine ⟨rfl,fun j hj=>eqC_winBM (Nat.le_refl _),?_⟩
  (repeat first|exact trivial|refine ent1 ?_)
 rintro y hs' ⟨rfl,dn3,f3,g3,hd3,rfl⟩
 rw [show Sl.l ⟨false,c',0,c',W⟩=W from rfl]
 (repeat show _∧_;first|refine yr ?_|refine yt ?_|refine yf ?_|refine ya e9 ?_|refine yb e9 ?_|refine ya e1 ?_|refine yb e1 ?_|refine yo ?_)
 refine ⟨⟨rfl,rfl,fun j hj=>rfl,fun j hj=>?_⟩,fun b1 hb1=>?_⟩
 ·show isNum .u8 (nthC (List.replicate 32 (.w8 0)) j)=true
  rw [nthC_repl hj]
  rfl
 obtain rfl:b1=false:=by
  cases b1 with
  | false=>rfl
  | true=>exact absurd (SC.w8.inj (hb1.1 rfl 0 (by decide))) vA
 (repeat show _∧_;first|refine yr ?_|refine yt ?_|refine yf ?_|refine ya e9 ?_|refine yb e9 ?_|refine ya e1 ?_|refine yb e1 ?_|refine yo ?_)
 refine ⟨.a (.c (.bool true)),_,⟨[0],⟨rfl,rfl,rfl⟩,?_⟩,rfl,rfl⟩
 (repeat first|exact trivial|refine ent1 ?_)
end Sx
end
section
namespace Sx
open Go.RowKit

/-! Names given up: what they stand for. -/
def SC.rz (F:Nat→Bool) (α:Nat→Addr):SC→SC
 | .p i b o=>match F i with|true=>.ptr (some ((α i).add (b+o)))|false=>.p i b o
 | .sl i b o n c=>match F i with|true=>.slc (some ((α i).add (b+o))) n c|false=>.sl i b o n c
 | .sn z i b o n c=>match F i with|true=>.any|false=>.sn z i b o n c
 | .clo f i b o=>match F i with|true=>.any|false=>.clo f i b o
 | .cap f i b o=>match F i with|true=>.any|false=>.cap f i b o
 | .cap2 f i b o j c d=>match F i with|true=>.any|false=>match F j with|true=>.any|false=>.cap2 f i b o j c d
 | .mh i=>match F i with|true=>.any|false=>.mh i
 | .ih i=>match F i with|true=>.any|false=>.ih i
 | x=>x
def SC.raw:SC→SC
 | .p ..=>.any
 | .sl ..=>.any
 | .sn ..=>.any
 | .clo ..=>.any
 | .cap ..=>.any
 | .cap2 ..=>.any
 | .mh _=>.any
 | .ih _=>.any
 | x=>x
def Seg.rz (F:Nat→Bool) (α:Nat→Addr):Seg→Seg
 | .one x=>.one (x.rz F α)
 | .row n f=>.row n (fun j=>(f j).rz F α)
 | .obj m=>.obj m
 | .past w ms=>.past w ms
def rzL (F:Nat→Bool) (α:Nat→Addr):List Seg→List Seg
 | []=>[]
 | x::r=>x.rz F α::rzL F α r
def SA.rz (F:Nat→Bool) (α:Nat→Addr):SA→SA
 | .c x=>.c (x.rz F α)
 | .agg l=>.agg (rzL F α l)
def rzA (F:Nat→Bool) (α:Nat→Addr):List SA→List SA
 | []=>[]
 | x::r=>x.rz F α::rzA F α r
def SV.rz (F:Nat→Bool) (α:Nat→Addr):SV→SV
 | .any=>.any
 | .a x=>.a (x.rz F α)
 | .tup l=>.tup (rzA F α l)
def rzH (F:Nat→Bool) (α:Nat→Addr):List (List Seg)→List (List Seg)
 | []=>[]
 | x::r=>rzL F α x::rzH F α r
theorem flat_rz (F:Nat→Bool) (α:Nat→Addr):∀ l:List Seg,flat (rzL F α l)=(flat l).map (SC.rz F α)
 | []=>rfl
 | .one x::r=>by simp [rzL,Seg.rz,flat,flat_rz F α r]
 | .row n f::r=>by simp [rzL,Seg.rz,flat,flat_rz F α r,Function.comp_def]
 | .obj _::r=>by simp [rzL,Seg.rz,flat,flat_rz F α r]
 | .past _ _::r=>by simp [rzL,Seg.rz,flat,flat_rz F α r]
theorem rzH_eq (F:Nat→Bool) (α:Nat→Addr):∀ h:List (List Seg),rzH F α h=h.map (rzL F α)
 | []=>rfl
 | x::r=>by rw [rzH,rzH_eq F α r]; rfl
theorem rzA_eq (F:Nat→Bool) (α:Nat→Addr):∀ h:List SA,rzA F α h=h.map (SA.rz F α)
 | []=>rfl
 | x::r=>by rw [rzA,rzA_eq F α r]; rfl
theorem rzL_nil {F:Nat→Bool} {α:Nat→Addr} {l:List Seg}:rzL F α l=[] ↔ l=[]:=by cases l <;> simp [rzL]
theorem rzL_obj {F:Nat→Bool} {α:Nat→Addr} {l:List Seg} {m:MapD} (h:rzL F α l=[.obj m]):l=[.obj m]:=by
 cases l with
 | nil=>cases h
 | cons x r =>
  simp only [rzL,List.cons.injEq] at h
  have hr:r=[]:=rzL_nil.1 h.2
  subst hr
  cases x <;> simp [Seg.rz] at h
  obtain ⟨rfl,_⟩:=h; rfl
theorem rzL_past {F:Nat→Bool} {α:Nat→Addr} {l:List Seg} {W:World} {ms:List Nat} (h:rzL F α l=[.past W ms]):l=[.past W ms]:=by
 cases l with
 | nil=>cases h
 | cons x r =>
  simp only [rzL,List.cons.injEq] at h
  have hr:r=[]:=rzL_nil.1 h.2
  subst hr
  cases x <;> simp [Seg.rz] at h
  obtain ⟨⟨rfl,rfl⟩,_⟩:=h; rfl
def Lies (F:Nat→Bool) (α:Nat→Addr) (r:Rho):Prop:=∀ (i B f:Nat),F i=true→r[i]?=some (B,f)→α i=⟨B,f,none⟩
section
variable {F : Nat → Bool} {α : Nat → Addr} {r : Rho}
theorem SC.Is.rz (hα:Lies F α r) {x:SC} {v:Value} (h:x.Is r v):(x.rz F α).Is r v:=by
 cases x <;> simp only [SC.rz]
 case p i b o =>
  cases e:F i
  ·exact h
  ·obtain ⟨B,f,e2,rfl⟩:=h
   show _=Value.pointer (some ((α i).add (b+o)))
   rw [hα i B f e e2,add_none]
 case sl i b o n c =>
  cases e:F i
  ·exact h
  ·obtain ⟨B,f,e2,rfl⟩:=h
   show _=Value.slice (some ((α i).add (b+o))) n c
   rw [hα i B f e e2,add_none]
 case sn z i b o n c=>cases e:F i; exact h; exact SC.Is.one h
 case clo z i b o=>cases e:F i; exact h; exact SC.Is.one h
 case cap z i b o=>cases e:F i; exact h; exact SC.Is.one h
 case cap2 z i b o j c p=>cases e:F i; (cases e':F j; exact h; exact SC.Is.one h); exact SC.Is.one h
 case mh i=>cases e:F i; exact h; exact SC.Is.one h
 case ih i=>cases e:F i; exact h; exact SC.Is.one h
 all_goals exact h
theorem IsL.rz (hα:Lies F α r) {l:List SC} {vs:List Value} (h:IsL r l vs):IsL r (l.map (SC.rz F α)) vs :=
 ⟨by simpa using h.1,fun j x e=>by
  rw [List.getElem?_map,Option.map_eq_some_iff] at e
  obtain ⟨y,hy,rfl⟩:=e
  obtain ⟨v,e1,e2⟩:=h.2 j y hy
  exact ⟨v,e1,e2.rz hα⟩⟩
theorem SA.Is.rz (hα:Lies F α r) {x:SA} {v:Value} (h:x.Is r v):(x.rz F α).Is r v:=by
 cases x with
 | c x=>exact SC.Is.rz hα (x:=x) h
 | agg l =>
  obtain ⟨vs,e,h⟩:=h
  exact ⟨vs,e,by rw [flat_rz]; exact h.rz hα⟩
theorem SV.Is.rz (hα:Lies F α r) {x:SV} {v:Value} (h:x.Is r v):(x.rz F α).Is r v:=by
 cases x with
 | any=>trivial
 | a x=>exact SA.Is.rz hα (x:=x) h
 | tup l =>
  obtain ⟨vs,e,hl,h⟩:=h
  refine ⟨vs,e,by rw [rzA_eq]; simpa using hl,fun j x ex=>?_⟩
  rw [rzA_eq,List.getElem?_map,Option.map_eq_some_iff] at ex
  obtain ⟨y,hy,rfl⟩:=ex
  obtain ⟨u,e1,e2⟩:=h j y hy
  exact ⟨u,e1,e2.rz hα⟩
theorem At.rz (hα:Lies F α r) {z:Bool} {w:World} {B off:Nat} {l:List SC} (h:At z r w B off l):At z r w B off (l.map (SC.rz F α)):=by
 intro j x e
 rw [List.getElem?_map,Option.map_eq_some_iff] at e
 obtain ⟨y,hy,rfl⟩:=e
 obtain ⟨v,e1,e2,e3⟩:=h j y hy
 exact ⟨v,e1,e2.rz hα,e3⟩
end
section
variable {C : Cx}
theorem HeapOk.rz {F:Nat→Bool} {α:Nat→Addr} {h:List (List Seg)} {r:Rho} {w:World} (ok:HeapOk C h r w) (hα:Lies F α r):HeapOk C (rzH F α h) r w:=by
 have get:∀ (i:Nat) (ch:List Seg),(rzH F α h)[i]?=some ch→∃ c,h[i]?=some c∧ch=rzL F α c:=fun i ch e=>by
  rw [rzH_eq,List.getElem?_map,Option.map_eq_some_iff] at e
  obtain ⟨c,h1,h2⟩:=e
  exact ⟨c,h1,h2.symm⟩
 refine ⟨ok.ext,ok.agree,ok.rol,by rw [rzH_eq,List.length_map]; exact ok.len,fun i ch B f hi hr=>?_,ok.lt,ok.own,ok.ros,fun i ch ho hl hi=>?_,fun i j B f f' ch ch' hij o1 o2 hi hj hri hrj=>?_,fun i m B f ho hi hr=>?_,fun i W ms hi=>?_⟩
 ·obtain ⟨c,h1,rfl⟩:=get i ch hi
  rw [flat_rz]
  exact (ok.chunks i c B f h1 hr).rz hα
 ·obtain ⟨c,h1,rfl⟩:=get i ch hi
  rw [flat_rz,ok.dead i c ho hl h1]; rfl
 ·obtain ⟨c,h1,rfl⟩:=get i ch hi
  obtain ⟨c',h1',rfl⟩:=get j ch' hj
  rcases ok.apart i j B f f' c c' hij o1 o2 h1 h1' hri hrj with h|h
  ·left; rw [h]; rfl
  ·right; rw [h]; rfl
 ·obtain ⟨c,h1,h2⟩:=get i _ hi
  exact ok.maps i m B f ho (by rw [h1,rzL_obj h2.symm]) hr
 ·obtain ⟨c,h1,h2⟩:=get i _ hi
  exact ok.past i W ms (by rw [h1,rzL_past h2.symm])
theorem FnR.mono {P:Program} {T:List (Nat × TD)} {f:FuncId} {n:Nat} {h0:List (List Seg)} {args:List SA} {raw:World→Prop} {Res Res':SV→List (List Seg)→Prop} (h:FnR P T f n h0 args raw Res) (k:∀ x hs,Res x hs→Res' x hs):FnR P T f n h0 args raw Res' :=
 fun w r0 vs ok ha hr=>(h w r0 vs ok ha hr).mono fun _ _ ⟨v,x,hs,r',e,h1,h2,h3⟩=>⟨v,x,hs,r',e,h1,h2,k x hs h3⟩
/-! Functions that give up what they made. -/
end
end Sx
end
section
namespace Sx
open Go.RowKit

theorem SC.Is.off {x:SC} {j:Nat} {α:Nat→Addr} {r r':Rho} (hr:∀ i,i≠j→r'[i]?=r[i]?) {v:Value} (h:(x.rz (fun i=>Nat.beq i j) α).Is r v):(x.rz (fun i=>Nat.beq i j) α).Is r' v:=by
 cases x <;> simp only [SC.rz] at h ⊢
 case p i b o =>
  cases e:Nat.beq i j
  ·rw [e] at h
   obtain ⟨B,f,e2,rfl⟩:=h
   exact ⟨B,f,(hr i (fun hc=>by subst hc; rw [Nat.beq_refl] at e; cases e)).trans e2,rfl⟩
  ·rw [e] at h; exact h
 case sl i b o n c =>
  cases e:Nat.beq i j
  ·rw [e] at h
   obtain ⟨B,f,e2,rfl⟩:=h
   exact ⟨B,f,(hr i (fun hc=>by subst hc; rw [Nat.beq_refl] at e; cases e)).trans e2,rfl⟩
  ·rw [e] at h; exact h
 case sn z i b o n c =>
  cases e:Nat.beq i j
  ·rw [e] at h
   rcases h with ⟨h1,h2⟩|⟨h1,B,f,e2,h2⟩|h
   ·exact .inl ⟨h1,h2⟩
   ·exact .inr (.inl ⟨h1,B,f,(hr i (fun hc=>by subst hc; rw [Nat.beq_refl] at e; cases e)).trans e2,h2⟩)
   ·exact .inr (.inr h)
  ·rw [e] at h; exact h
 case clo g i b o =>
  cases e:Nat.beq i j
  ·rw [e] at h
   obtain ⟨B,f,e2,rfl⟩:=h
   exact ⟨B,f,(hr i (fun hc=>by subst hc; rw [Nat.beq_refl] at e; cases e)).trans e2,rfl⟩
  ·rw [e] at h; exact h
 case cap g i b o =>
  cases e:Nat.beq i j
  ·rw [e] at h
   obtain ⟨B,f,e2,rfl⟩:=h
   exact ⟨B,f,(hr i (fun hc=>by subst hc; rw [Nat.beq_refl] at e; cases e)).trans e2,rfl⟩
  ·rw [e] at h; exact h
 case cap2 g i b o i2 c p =>
  cases e:Nat.beq i j
  ·rw [e] at h
   cases e':Nat.beq i2 j
   ·rw [e'] at h
    obtain ⟨B,f,e2,B',f',e3,rfl⟩:=h
    exact ⟨B,f,(hr i (fun hc=>by subst hc; rw [Nat.beq_refl] at e; cases e)).trans e2,B',f',(hr i2 (fun hc=>by subst hc; rw [Nat.beq_refl] at e'; cases e')).trans e3,rfl⟩
   ·rw [e'] at h; exact h
  ·rw [e] at h; exact h
 case mh i =>
  cases e:Nat.beq i j
  ·rw [e] at h
   obtain ⟨B,f,e2,rfl⟩:=h
   exact ⟨B,f,(hr i (fun hc=>by subst hc; rw [Nat.beq_refl] at e; cases e)).trans e2,rfl⟩
  ·rw [e] at h; exact h
 case ih i =>
  cases e:Nat.beq i j
  ·rw [e] at h
   obtain ⟨B,f,e2,rfl⟩:=h
   exact ⟨B,f,(hr i (fun hc=>by subst hc; rw [Nat.beq_refl] at e; cases e)).trans e2,rfl⟩
  ·rw [e] at h; exact h
 all_goals exact h
def Free (j:Nat) (α:Nat→Addr) (l:List SC):Prop:=∀ x∈l,x.rz (fun i=>Nat.beq i j) α=x
def unC (j:Nat) (a:Addr):SC→SC→Prop
 | .slc (some b) n c,.sl i b' o n' c'=>i=j∧b'=0∧o=0∧n=n'∧c=c'∧b=a
 | .slc (some b) n c,.sn z i b' o n' c'=>z=false∧i=j∧b'=0∧o=0∧n=n'∧c=c'∧b=a
 | .ptr (some b),.p i b' o=>i=j∧b'=0∧o=0∧b=a
 | x,y=>x=y∧y.rz (fun i=>Nat.beq i j) (fun _=>a)=y
def unL (j:Nat) (a:Addr):List Seg→List Seg→Prop
 | [],[]=>True
 | .one x::r,.one y::r'=>unC j a x y∧unL j a r r'
 | .row n f::r,.row m g::r'=>n=m∧(∀ i,i<n→unC j a (f i) (g i))∧unL j a r r'
 | _,_=>False
def unA (j:Nat) (a:Addr):SA→SA→Prop
 | .c x,.c y=>unC j a x y
 | .agg l,.agg l'=>unL j a l l'
 | _,_=>False
theorem unL_spec {j:Nat} {a:Addr}:∀ {l l':List Seg},unL j a l l'→(flat l).length=(flat l').length∧∀ (d:Nat) (x y:SC),(flat l)[d]?=some x→(flat l')[d]?=some y→unC j a x y
 | [],[],_=>⟨rfl,fun d x y e=>by simp [flat] at e⟩
 | .one x::r,.one y::r',h=>by
  obtain ⟨h1,h2⟩:=unL_spec h.2
  refine ⟨by simp [flat,h1],fun d u v e1 e2=>?_⟩
  cases d with
  | zero=>simp [flat] at e1 e2; subst e1; subst e2; exact h.1
  | succ d=>exact h2 d u v (by simpa [flat] using e1) (by simpa [flat] using e2)
 | .row n f::r,.row m g::r',h=>by
  obtain ⟨rfl,h3,h4⟩:=h
  obtain ⟨h1,h2⟩:=unL_spec h4
  refine ⟨by simp [flat,h1],fun d u v e1 e2=>?_⟩
  simp only [flat] at e1 e2
  by_cases hd:d<n
  ·rw [List.getElem?_append_left (by simpa using hd)] at e1 e2
   simp [hd] at e1 e2
   subst e1; subst e2
   exact h3 d hd
  ·rw [List.getElem?_append_right (by simpa using Nat.le_of_not_lt hd)] at e1 e2
   simp at e1 e2
   exact h2 _ u v e1 e2
 | [],.one _::_,h=>h.elim
 | [],.row _ _::_,h=>h.elim
 | [],.obj _::_,h=>h.elim
 | [],.past _ _::_,h=>h.elim
 | .one _::_,[],h=>h.elim
 | .one _::_,.row _ _::_,h=>h.elim
 | .one _::_,.obj _::_,h=>h.elim
 | .one _::_,.past _ _::_,h=>h.elim
 | .row _ _::_,[],h=>h.elim
 | .row _ _::_,.one _::_,h=>h.elim
 | .row _ _::_,.obj _::_,h=>h.elim
 | .row _ _::_,.past _ _::_,h=>h.elim
 | .obj _::_,_,h=>by cases ‹List Seg› with
  | nil=>exact h.elim
  | cons x r=>cases x <;> exact h.elim
 | .past _ _::_,_,h=>by cases ‹List Seg› with
  | nil=>exact h.elim
  | cons x r=>cases x <;> exact h.elim
def unAs (j:Nat) (a:Addr):List SA→List SA→Prop
 | [],[]=>True
 | x::r,y::r'=>unA j a x y∧unAs j a r r'
 | _,_=>False
section
variable {j : Nat} {a : Addr} {r r' : Rho}
theorem SC.Is.fix {x:SC} (hx:x.rz (fun i=>Nat.beq i j) (fun _=>a)=x) (hr:∀ i,i≠j→r'[i]?=r[i]?) {v:Value} (h:x.Is r v):x.Is r' v:=by
 rw [← hx] at h ⊢
 exact h.off hr
theorem unC_spec {x y:SC} (h:unC j a x y) (hs:a.spot=none) (hj:r'[j]?=some (a.block,a.off)) (hr:∀ i,i≠j→r'[i]?=r[i]?) {v:Value} (hv:x.Is r v):y.Is r' v:=by
 unfold unC at h
 split at h
 ·obtain ⟨rfl,rfl,rfl,rfl,rfl,h6⟩:=h
  rw [h6] at hv
  refine ⟨a.block,a.off,hj,?_⟩
  rw [show v=_ from hv]
  cases a; simp at hs; subst hs; rfl
 ·obtain ⟨rfl,rfl,rfl,rfl,rfl,rfl,h6⟩:=h
  rw [h6] at hv
  refine .inr (.inl ⟨rfl,a.block,a.off,hj,?_⟩)
  rw [show v=_ from hv]
  cases a; simp at hs; subst hs; rfl
 ·obtain ⟨rfl,rfl,rfl,h6⟩:=h
  rw [h6] at hv
  refine ⟨a.block,a.off,hj,?_⟩
  rw [show v=_ from hv]
  cases a; simp at hs; subst hs; rfl
 ·obtain ⟨rfl,h2⟩:=h
  exact hv.fix h2 hr
theorem unA_spec {x y:SA} (h:unA j a x y) (hs:a.spot=none) (hj:r'[j]?=some (a.block,a.off)) (hr:∀ i,i≠j→r'[i]?=r[i]?) {v:Value} (hv:x.Is r v):y.Is r' v:=by
 cases x with
 | c x =>
  cases y with
  | c y=>exact unC_spec h hs hj hr hv
  | agg l=>exact h.elim
 | agg l =>
  cases y with
  | c y=>exact h.elim
  | agg l' =>
   obtain ⟨k1,k2⟩:=unL_spec h
   obtain ⟨vs,e,h1,h2⟩:=hv
   refine ⟨vs,e,by rw [← k1]; exact h1,fun d y e=>?_⟩
   have hd:d<(flat l).length:=by
    rw [k1]
    exact (List.getElem?_eq_some_iff.1 e).1
   obtain ⟨u,e1,e2⟩:=h2 d _ (List.getElem?_eq_getElem hd)
   exact ⟨u,e1,unC_spec (k2 d _ y (List.getElem?_eq_getElem hd) e) hs hj hr e2⟩
theorem unAs_spec (hs:a.spot=none) (hj:r'[j]?=some (a.block,a.off)) (hr:∀ i,i≠j→r'[i]?=r[i]?):∀ {l l':List SA} {vs:List Value},unAs j a l l'→IsAs r l vs→IsAs r' l' vs
 | [],[],vs,_,h=>⟨h.1,fun d x e=>by simp at e⟩
 | x::l,y::l',vs,h,hv=>by
  cases vs with
  | nil=>have:=hv.1; simp at this
  | cons v vs =>
   have ht:=unAs_spec hs hj hr (vs:=vs) h.2 ⟨by simpa using hv.1,fun d z e=>hv.2 (d+1) z e⟩
   refine ⟨by simpa using ht.1,fun d z e=>?_⟩
   cases d with
   | zero =>
    simp at e; subst e
    obtain ⟨u,e1,e2⟩:=hv.2 0 x rfl
    exact ⟨u,e1,unA_spec h.1 hs hj hr e2⟩
   | succ d=>exact ht.2 d z e
 | [],_::_,_,h,_=>h.elim
 | _::_,[],_,h,_=>h.elim
end
theorem Rho.set_ne {r:Rho} {j:Nat} (x:Nat × Nat) (i:Nat) (h:i≠j):(r.set j x)[i]?=r[i]?:=List.getElem?_set_ne (Ne.symm h)
theorem FnR.unname {P:Program} {T:List (Nat × TD)} {f:FuncId} {n:Nat} {h0:List (List Seg)} {args args':List SA} {raw:World→Prop} {Res:SV→List (List Seg)→Prop} (h:FnR P T f n h0 args raw Res) (j:Nat) (hj:j<n) {W:World} {ms:List Nat} {a:Addr} {ch:List Seg}
  (hch:h0[j]?=some ch) (hnp:∀ W ms,ch≠[.past W ms]) (him:ImAt W ms a (flat ch)) (hfix:∀ x∈flat ch,x.raw=x) (hfree:∀ i c,i≠j→h0[i]?=some c→Free j (fun _=>a) (flat c)) (hargs:unAs j a args' args) :
  FnR P T f n (h0.set j [.past W ms]) args' raw (fun x hs=>∃ x' hs',Res x' hs'∧x=x'.rz (fun i=>Nat.beq i j) (fun _=>a)∧hs=(rzH (fun i=>Nat.beq i j) (fun _=>a) hs').set j [.past W ms]):=by
 intro w r0 vs ok ha hraw
 obtain ⟨i1,i2,i3,i4⟩:=him
 have hjl:j<h0.length:=(List.getElem?_eq_some_iff.1 hch).1
 have hlen0:r0.length=h0.length:=by have:=ok.len; simpa using this
 have hjr:j<r0.length:=by omega
 have hpast:(h0.set j [.past W ms])[j]?=some [.past W ms]:=by rw [List.getElem?_set_self hjl]
 obtain ⟨p1,_,p3⟩:=ok.past j W ms hpast
 obtain ⟨xj,hxj⟩:∃ x,r0[j]?=some x:=⟨_,List.getElem?_eq_getElem hjr⟩
 have s1:(r0.set j (a.block,a.off))[j]?=some (a.block,a.off):=by rw [List.getElem?_set_self hjr]
 have s2:∀ i,i≠j→(r0.set j (a.block,a.off))[i]?=r0[i]?:=fun i hi=>Rho.set_ne _ i hi
 have hh:∀ (i:Nat) (c:List Seg),i≠j→((h0.set j [.past W ms])[i]?=some c ↔ h0[i]?=some c):=fun i c hi=>by rw [List.getElem?_set_ne (Ne.symm hi)]
 have hd:(r0.set j (a.block,a.off)).drop n=r0.drop n:=by
  rw [List.drop_set_of_lt hj]
 have hgl:∀ i,i≠j→getH (h0.set j [.past W ms]) i=getH h0 i:=fun i hi=>by rw [getH_eq,getH_eq,List.getElem?_set_ne (Ne.symm hi)]
 have mem_ms:∀ B,B∈(r0.drop n).map (·.1)→B<W.heap.size→B∈ms:=fun B hB hlt=>by
  obtain ⟨i,f,hi,e⟩:=mem_drop.1 hB
  exact p3 i B f hi e hlt
 have ok1:HeapOk (cx0 P T w (r0.set j (a.block,a.off)) n h0) h0 (r0.set j (a.block,a.off)) w:=by
  refine ⟨Ext.refl _ _,RLe.refl _,?_,by rw [List.length_set]; exact hlen0,fun i c B f hi hr=>?_,fun i B f ho hr=>?_,fun i B f ho hr=>?_,fun i B f ho hlv hr=>?_,fun i c ho hlv hi=>?_,fun i k B f f' c c' hik o1 o2 hi hk hri hrk=>?_,fun i m B f ho hi hr=>?_,fun i W2 ms2 hi=>?_⟩
  ·show n≤(r0.set j (a.block,a.off)).length
   rw [List.length_set]; exact ok.rol
  ·by_cases hij:i=j
   ·subst hij
    rw [s1] at hr
    injection hr with hr
    injection hr with hr1 hr2
    subst hr1; subst hr2
    rw [hch] at hi
    injection hi with hi
    subst hi
    have hb:Nat.ble n i=false:=by
     cases e:Nat.ble n i
     ·rfl
     ·have:=ble_le e; omega
    show At (Nat.ble n i) _ _ _ _ _
    rw [hb]
    intro d x e
    obtain ⟨v,e1,e2⟩:=i4 d x e
    refine ⟨v,p1.cell (p:=⟨a.block,a.off+d,none⟩) i3 e1,?_,fun h=>Bool.noConfusion h⟩
    have hx:=hfix x (List.mem_of_getElem? e)
    rw [← hx] at e2 ⊢
    cases x <;> first|exact e2|exact SC.Is.one e2
   ·rw [s2 i hij] at hr
    have hAt:=ok.chunks i c B f ((hh i c hij).2 hi) hr
    intro d x e
    obtain ⟨v,e1,e2,e3⟩:=hAt d x e
    exact ⟨v,e1,e2.fix (hfree i c hij hi x (List.mem_of_getElem? e)) s2,e3⟩
  ·have ho:n≤i:=ho
   rw [s2 i (by omega)] at hr
   exact ok.lt i B f ho hr
  ·exact .inl (mem_drop.2 ⟨i,f,ho,hr⟩)
  ·have ho:i<n:=ho
   by_cases hij:i=j
   ·subst hij
    rw [s1] at hr
    injection hr with hr
    injection hr with hr1 hr2
    subst hr1; subst hr2
    refine ⟨fun hc=>?_,Nat.lt_of_lt_of_le i2 p1.size⟩
    have hc:a.block∈((r0.set i (a.block,a.off)).drop n).map (·.1):=hc
    rw [hd] at hc
    exact i3 (mem_ms _ hc i2)
   ·rw [s2 i hij] at hr
    have hlv':flat (getH (h0.set j [.past W ms]) i)≠[]:=by rw [hgl i hij]; exact hlv
    obtain ⟨g1,g2⟩:=ok.ros i B f ho hlv' hr
    refine ⟨fun hc=>g1 ?_,g2⟩
    have hc:B∈((r0.set j (a.block,a.off)).drop n).map (·.1):=hc
    rw [hd] at hc
    exact hc
  ·have:getH h0 i=c:=by rw [getH_eq,hi]; rfl
   rw [← this]
   exact Classical.byContradiction hlv
  ·have o1:n≤i:=o1
   have o2:n≤k:=o2
   rw [s2 i (by omega)] at hri
   rw [s2 k (by omega)] at hrk
   exact ok.apart i k B f f' c c' hik o1 o2 ((hh i c (by omega)).2 hi) ((hh k c' (by omega)).2 hk) hri hrk
  ·have o1:n≤i:=ho
   rw [s2 i (by omega)] at hr
   exact ok.maps i m B f o1 ((hh i _ (by omega)).2 hi) hr
  ·by_cases hij:i=j
   ·subst hij
    rw [hch] at hi
    injection hi with hi
    exact absurd hi (hnp W2 ms2)
   ·obtain ⟨q1,_,q3⟩:=ok.past i W2 ms2 ((hh i _ hij).2 hi)
    refine ⟨q1,fun B _ g2 g3=>⟨i,W2,ms2,hi,g2,g3⟩,fun k B f ho hr hlt=>?_⟩
    have ho:n≤k:=ho
    rw [s2 k (by omega)] at hr
    exact q3 k B f ho hr hlt
 refine (h w _ vs ok1 (unAs_spec i1 s1 s2 hargs ha) hraw).mono ?_
 rintro e w' ⟨v,x,hs,r',rfl,hx,hok,hres⟩
 have hlen':r'.length=hs.length:=hok.len
 have hrl:(r0.set j (a.block,a.off)).length≤r'.length:=hok.rlen
 rw [List.length_set] at hrl
 have hjr':j<r'.length:=by omega
 have hjv:r'[j]?=some (a.block,a.off):=hok.agree j _ s1
 have hα:Lies (fun i=>Nat.beq i j) (fun _=>a) r':=fun i B f e1 e2=>by
  obtain rfl:=Nat.eq_of_beq_eq_true e1
  rw [hjv] at e2
  injection e2 with e2
  injection e2 with e3 e4
  cases a; simp at i1 e3 e4; subst i1; subst e3; subst e4; rfl
 have t1:(r'.set j xj)[j]?=some xj:=by rw [List.getElem?_set_self hjr']
 have t2:∀ i,i≠j→(r'.set j xj)[i]?=r'[i]?:=fun i hi=>Rho.set_ne _ i hi
 have okz:=hok.rz hα
 have hzl:(rzH (fun i=>Nat.beq i j) (fun _=>a) hs).length=hs.length:=by rw [rzH_eq,List.length_map]
 have hjz:j<(rzH (fun i=>Nat.beq i j) (fun _=>a) hs).length:=by omega
 have hm:∀ B,B∈(cx0 P T w (r0.set j (a.block,a.off)) n h0).m ↔ B∈(r0.drop n).map (·.1):=fun B=>by
  show B∈((r0.set j (a.block,a.off)).drop n).map (·.1) ↔ _
  rw [hd]
 have get:∀ (i:Nat) (c:List Seg),((rzH (fun i=>Nat.beq i j) (fun _=>a) hs).set j [.past W ms])[i]?=some c→(i=j∧c=[.past W ms])∨(i≠j∧(rzH (fun i=>Nat.beq i j) (fun _=>a) hs)[i]?=some c):=fun i c e=>by
  by_cases hij:j=i
  ·subst hij
   rw [List.getElem?_set_self hjz] at e
   injection e with e
   exact .inl ⟨rfl,e.symm⟩
  ·rw [List.getElem?_set_ne hij] at e
   exact .inr ⟨fun e=>hij e.symm,e⟩
 refine ⟨v,_,_,r'.set j xj,rfl,?_,?_,x,hs,hres,rfl,rfl⟩
 ·have:=hx.rz hα
  cases x with
  | any=>trivial
  | a x =>
   cases x with
   | c x=>exact SC.Is.off t2 (x:=x) this
   | agg l =>
    obtain ⟨vs,e,h1,h2⟩:=this
    refine ⟨vs,e,h1,fun d y e=>?_⟩
    obtain ⟨u,e1,e2⟩:=h2 d y e
    refine ⟨u,e1,?_⟩
    rw [flat_rz,List.getElem?_map,Option.map_eq_some_iff] at e
    obtain ⟨z,_,rfl⟩:=e
    exact e2.off t2
  | tup l =>
   obtain ⟨vs,e,hl,h2⟩:=this
   refine ⟨vs,e,hl,fun d y e=>?_⟩
   obtain ⟨u,e1,e2⟩:=h2 d y e
   refine ⟨u,e1,?_⟩
   rw [rzA_eq,List.getElem?_map,Option.map_eq_some_iff] at e
   obtain ⟨z,_,rfl⟩:=e
   cases z with
   | c z=>exact SC.Is.off t2 (x:=z) e2
   | agg l =>
    obtain ⟨vs,e,h1,h3⟩:=e2
    refine ⟨vs,e,h1,fun d y e=>?_⟩
    obtain ⟨u,e1,e2⟩:=h3 d y e
    refine ⟨u,e1,?_⟩
    rw [flat_rz,List.getElem?_map,Option.map_eq_some_iff] at e
    obtain ⟨z,_,rfl⟩:=e
    exact e2.off t2
 ·have own':∀ (i B f:Nat),n≤i→r'[i]?=some (B,f)→B∈(r0.drop n).map (·.1)∨w.heap.size≤B:=fun i B f ho hr=>by
   rcases hok.own i B f ho hr with h1|h1
   ·exact .inl ((hm B).1 h1)
   ·exact .inr h1
  have hext:Ext ((r0.drop n).map (·.1)) w w':=hok.ext.mono fun B hB=>.inl ((hm B).1 hB)
  refine ⟨hext,fun i x e=>?_,?_,by rw [List.length_set,List.length_set,hzl]; exact hlen',fun i c B f hi hr=>?_,fun i B f ho hr=>?_,fun i B f ho hr=>?_,fun i B f ho hlv hr=>?_,fun i c ho hlv hi=>?_,fun i k B f f' c c' hik o1 o2 hi hk hri hrk=>?_,fun i m B f ho hi hr=>?_,fun i W2 ms2 hi=>?_⟩
  ·by_cases hij:i=j
   ·subst hij
    have:some xj=some x:=hxj.symm.trans e
    rw [t1,this]
   ·rw [t2 i hij]
    exact hok.agree i x (by rw [s2 i hij]; exact e)
  ·exact ok.rol
  ·rcases get i c hi with ⟨rfl,rfl⟩|⟨hij,hi⟩
   ·intro d y e; simp [flat] at e
   ·rw [t2 i hij] at hr
    have hAt:=okz.chunks i c B f hi hr
    intro d y e
    obtain ⟨v,e1,e2,e3⟩:=hAt d y e
    refine ⟨v,e1,?_,e3⟩
    rw [rzH_eq,List.getElem?_map,Option.map_eq_some_iff] at hi
    obtain ⟨c',_,rfl⟩:=hi
    rw [flat_rz,List.getElem?_map,Option.map_eq_some_iff] at e
    obtain ⟨z,_,rfl⟩:=e
    exact e2.off t2
  ·have ho:n≤i:=ho
   rw [t2 i (by omega)] at hr
   exact hok.lt i B f ho hr
  ·have ho:n≤i:=ho
   rw [t2 i (by omega)] at hr
   exact own' i B f ho hr
  ·have ho:i<n:=ho
   have hij:i≠j:=fun e=>by subst e; exact hlv (by show flat (getH (h0.set i [.past W ms]) i)=[]; rw [getH_eq,List.getElem?_set_self hjl]; rfl)
   rw [t2 i hij] at hr
   have hlv':flat (getH h0 i)≠[]:=by rw [← hgl i hij]; exact hlv
   obtain ⟨g1,g2⟩:=hok.ros i B f ho hlv' hr
   exact ⟨fun hc=>g1 ((hm B).2 hc),g2⟩
  ·have ho:i<n:=ho
   rcases get i c hi with ⟨rfl,rfl⟩|⟨hij,hi⟩
   ·rfl
   ·rw [rzH_eq,List.getElem?_map,Option.map_eq_some_iff] at hi
    obtain ⟨c',h1,rfl⟩:=hi
    rw [flat_rz,hok.dead i c' ho (fun hc=>hlv (by
     show flat (getH (h0.set j [.past W ms]) i)≠[]
     rw [hgl i hij]; exact hc)) h1]
    rfl
  ·have o1:n≤i:=o1
   have o2:n≤k:=o2
   rw [t2 i (by omega)] at hri
   rw [t2 k (by omega)] at hrk
   rcases get i c hi with ⟨rfl,_⟩|⟨_,hi⟩
   ·omega
   rcases get k c' hk with ⟨rfl,_⟩|⟨_,hk⟩
   ·omega
   exact okz.apart i k B f f' c c' hik o1 o2 hi hk hri hrk
  ·have o1:n≤i:=ho
   rw [t2 i (by omega)] at hr
   rcases get i _ hi with ⟨rfl,_⟩|⟨_,hi⟩
   ·omega
   exact okz.maps i m B f o1 hi hr
  ·rcases get i _ hi with ⟨rfl,e⟩|⟨hij,hi⟩
   ·injection e with e _
    injection e with e1 e2
    subst e1; subst e2
    refine ⟨p1.trans2 hext fun B hB=>?_,fun B _ g2 g3=>⟨i,_,_,hpast,g2,g3⟩,fun k B f ho hr hlt=>?_⟩
    ·rcases Nat.lt_or_ge B W2.heap.size with hlt|hge
     ·exact .inl (mem_ms B hB hlt)
     ·exact .inr hge
    ·have ho:n≤k:=ho
     rw [t2 k (by omega)] at hr
     rcases own' k B f ho hr with h1|h1
     ·exact mem_ms B h1 hlt
     ·have:=p1.size
      omega
   ·obtain ⟨q1,q2,q3⟩:=okz.past i W2 ms2 hi
    refine ⟨q1,fun B g1 g2 g3=>?_,fun k B f ho hr hlt=>?_⟩
    ·obtain ⟨i2,W3,ms3,g4,g5,g6⟩:=q2 B g1 g2 g3
     refine ⟨i2,W3,ms3,?_,g5,g6⟩
     have:i2≠j:=fun e=>by
      subst e
      rw [hch] at g4
      injection g4 with g4
      exact hnp W3 ms3 g4
     exact (hh i2 _ this).2 g4
    ·have ho:n≤k:=ho
     rw [t2 k (by omega)] at hr
     exact q3 k B f ho hr hlt
def nuC (j:Nat):SC→SC→Prop
 | .slc none n c,.sn z _ _ _ n' c'=>z=true∧n=0∧c=0∧n'=0∧c'=0
 | .slc (some _) n c,.sn z _ _ _ n' c'=>z=false∧n=0∧c=0∧n'=0∧c'=0
 | x,y=>x=y
def nuL (j:Nat):List Seg→List Seg→Prop
 | [],[]=>True
 | .one x::r,.one y::r'=>nuC j x y∧nuL j r r'
 | .row n f::r,.row m g::r'=>n=m∧(∀ i,i<n→nuC j (f i) (g i))∧nuL j r r'
 | _,_=>False
def nuA (j:Nat):SA→SA→Prop
 | .c x,.c y=>nuC j x y
 | .agg l,.agg l'=>nuL j l l'
 | _,_=>False
def nuAs (j:Nat):List SA→List SA→Prop
 | [],[]=>True
 | x::r,y::r'=>nuA j x y∧nuAs j r r'
 | _,_=>False
theorem nuC_spec {j:Nat} {x y:SC} {r:Rho} (h:nuC j x y) {v:Value} (hv:x.Is r v):y.Is r v:=by
 have base:x=y→y.Is r v:=fun e=>e ▸ hv
 cases x with
 | slc a n c =>
  cases a with
  | none =>
   cases y with
   | sn z i b o n' c' =>
    obtain ⟨rfl,rfl,rfl,rfl,rfl⟩:=h
    exact Or.inl ⟨rfl,hv,rfl,rfl⟩
   | _=>exact base h
  | some ad =>
   cases y with
   | sn z i b o n' c' =>
    obtain ⟨rfl,rfl,rfl,rfl,rfl⟩:=h
    exact Or.inr (Or.inr ⟨rfl,rfl,rfl,ad.block,ad.off,ad.spot,hv⟩)
   | _=>exact base h
 | _=>exact base h
theorem nuL_spec {j:Nat}:∀ {l l':List Seg},nuL j l l'→(flat l).length=(flat l').length∧∀ (d:Nat) (x y:SC),(flat l)[d]?=some x→(flat l')[d]?=some y→nuC j x y
 | [],[],_=>⟨rfl,fun d x y e=>by simp [flat] at e⟩
 | .one x::r,.one y::r',h=>by
  obtain ⟨h1,h2⟩:=nuL_spec h.2
  refine ⟨by simp [flat,h1],fun d u v e1 e2=>?_⟩
  cases d with
  | zero=>simp [flat] at e1 e2; subst e1; subst e2; exact h.1
  | succ d=>exact h2 d u v (by simpa [flat] using e1) (by simpa [flat] using e2)
 | .row n f::r,.row m g::r',h=>by
  obtain ⟨rfl,h3,h4⟩:=h
  obtain ⟨h1,h2⟩:=nuL_spec h4
  refine ⟨by simp [flat,h1],fun d u v e1 e2=>?_⟩
  simp only [flat] at e1 e2
  by_cases hd:d<n
  ·rw [List.getElem?_append_left (by simpa using hd)] at e1 e2
   simp [hd] at e1 e2
   subst e1; subst e2
   exact h3 d hd
  ·rw [List.getElem?_append_right (by simpa using Nat.le_of_not_lt hd)] at e1 e2
   simp at e1 e2
   exact h2 _ u v e1 e2
 | [],.one _::_,h=>h.elim
 | [],.row _ _::_,h=>h.elim
 | [],.obj _::_,h=>h.elim
 | [],.past _ _::_,h=>h.elim
 | .one _::_,[],h=>h.elim
 | .one _::_,.row _ _::_,h=>h.elim
 | .one _::_,.obj _::_,h=>h.elim
 | .one _::_,.past _ _::_,h=>h.elim
 | .row _ _::_,[],h=>h.elim
 | .row _ _::_,.one _::_,h=>h.elim
 | .row _ _::_,.obj _::_,h=>h.elim
 | .row _ _::_,.past _ _::_,h=>h.elim
 | .obj _::_,_,h=>by cases ‹List Seg› with
  | nil=>exact h.elim
  | cons x r=>cases x <;> exact h.elim
 | .past _ _::_,_,h=>by cases ‹List Seg› with
  | nil=>exact h.elim
  | cons x r=>cases x <;> exact h.elim
theorem nuA_spec {j:Nat} {x y:SA} {r:Rho} (h:nuA j x y) {v:Value} (hv:x.Is r v):y.Is r v:=by
 cases x with
 | c x =>
  cases y with
  | c y=>exact nuC_spec (j:=j) h hv
  | agg l=>exact h.elim
 | agg l =>
  cases y with
  | c y=>exact h.elim
  | agg l' =>
   obtain ⟨k1,k2⟩:=nuL_spec h
   obtain ⟨vs,e,h1,h2⟩:=hv
   refine ⟨vs,e,by rw [← k1]; exact h1,fun d y e=>?_⟩
   have hd:d<(flat l).length:=by
    rw [k1]
    exact (List.getElem?_eq_some_iff.1 e).1
   obtain ⟨u,e1,e2⟩:=h2 d _ (List.getElem?_eq_getElem hd)
   exact ⟨u,e1,nuC_spec (k2 d _ y (List.getElem?_eq_getElem hd) e) e2⟩
theorem nuAs_spec {j:Nat} {r:Rho}:∀ {l l':List SA} {vs:List Value},nuAs j l l'→IsAs r l vs→IsAs r l' vs
 | [],[],vs,_,h=>⟨h.1,fun d x e=>by simp at e⟩
 | x::l,y::l',vs,h,hv=>by
  cases vs with
  | nil=>have:=hv.1; simp at this
  | cons v vs =>
   have ht:=nuAs_spec (vs:=vs) h.2 ⟨by simpa using hv.1,fun d z e=>hv.2 (d+1) z e⟩
   refine ⟨by simpa using ht.1,fun d z e=>?_⟩
   cases d with
   | zero =>
    simp at e; subst e
    obtain ⟨u,e1,e2⟩:=hv.2 0 x rfl
    exact ⟨u,e1,nuA_spec h.1 e2⟩
   | succ d=>exact ht.2 d z e
 | [],_::_,_,h,_=>h.elim
 | _::_,[],_,h,_=>h.elim
theorem FnR.nul {P:Program} {T:List (Nat × TD)} {f:FuncId} {n:Nat} {h0:List (List Seg)} {args args':List SA} {raw:World→Prop} {Res:SV→List (List Seg)→Prop} (h:FnR P T f n h0 args raw Res) (j:Nat) (hj:j<n) {W:World} {ms:List Nat}
  {ch:List Seg} (hch:h0[j]?=some ch) (hfl:flat ch=[]) (hnp:∀ W ms,ch≠[.past W ms]) (hargs:nuAs j args' args) :
  FnR P T f n (h0.set j [.past W ms]) args' raw (fun x hs=>∃ hs',Res x hs'∧hs=hs'.set j [.past W ms]):=by
 intro w r0 vs ok ha hraw
 have hjl:j<h0.length:=(List.getElem?_eq_some_iff.1 hch).1
 have hlen0:r0.length=h0.length:=by have:=ok.len; simpa using this
 have hpast:(h0.set j [.past W ms])[j]?=some [.past W ms]:=by rw [List.getElem?_set_self hjl]
 obtain ⟨p1,_,p3⟩:=ok.past j W ms hpast
 have hh:∀ (i:Nat) (c:List Seg),i≠j→((h0.set j [.past W ms])[i]?=some c ↔ h0[i]?=some c):=fun i c hi=>by rw [List.getElem?_set_ne (Ne.symm hi)]
 have hgl:∀ i,i≠j→getH (h0.set j [.past W ms]) i=getH h0 i:=fun i hi=>by rw [getH_eq,getH_eq,List.getElem?_set_ne (Ne.symm hi)]
 have mem_ms:∀ B,B∈(r0.drop n).map (·.1)→B<W.heap.size→B∈ms:=fun B hB hlt=>by
  obtain ⟨i,f,hi,e⟩:=mem_drop.1 hB
  exact p3 i B f hi e hlt
 have lv:∀ i,flat (getH h0 i)≠[]→flat (getH (h0.set j [.past W ms]) i)≠[]:=fun i hl=>by
  by_cases hij:i=j
  ·subst hij
   rw [getH_eq,hch] at hl
   exact absurd hfl hl
  ·rw [hgl i hij]; exact hl
 have ok1:HeapOk (cx0 P T w r0 n h0) h0 r0 w:=by
  refine ⟨Ext.refl _ _,RLe.refl _,ok.rol,hlen0,fun i c B f hi hr=>?_,ok.lt,ok.own,fun i B f ho hlv hr=>ok.ros i B f ho (lv i hlv) hr,fun i c ho hlv hi=>?_,fun i k B f f' c c' hik o1 o2 hi hk hri hrk=>?_,fun i m B f ho hi hr=>?_,fun i W2 ms2 hi=>?_⟩
  ·by_cases hij:i=j
   ·subst hij
    rw [hch] at hi
    injection hi with hi
    subst hi
    intro d x e; rw [hfl] at e; simp at e
   ·exact ok.chunks i c B f ((hh i c hij).2 hi) hr
  ·have:getH h0 i=c:=by rw [getH_eq,hi]; rfl
   rw [← this]
   exact Classical.byContradiction hlv
  ·have o1:n≤i:=o1
   have o2:n≤k:=o2
   exact ok.apart i k B f f' c c' hik o1 o2 ((hh i c (by omega)).2 hi) ((hh k c' (by omega)).2 hk) hri hrk
  ·have o1:n≤i:=ho
   exact ok.maps i m B f o1 ((hh i _ (by omega)).2 hi) hr
  ·by_cases hij:i=j
   ·subst hij
    rw [hch] at hi
    injection hi with hi
    exact absurd hi (hnp W2 ms2)
   ·obtain ⟨q1,_,q3⟩:=ok.past i W2 ms2 ((hh i _ hij).2 hi)
    exact ⟨q1,fun B _ g2 g3=>⟨i,W2,ms2,hi,g2,g3⟩,q3⟩
 refine (h w _ vs ok1 (nuAs_spec hargs ha) hraw).mono ?_
 rintro e w' ⟨v,x,hs,r',rfl,hx,hok,hres⟩
 have hlen':r'.length=hs.length:=hok.len
 have hrl:r0.length≤r'.length:=hok.rlen
 have hjz:j<hs.length:=by omega
 have get:∀ (i:Nat) (c:List Seg),(hs.set j [.past W ms])[i]?=some c→(i=j∧c=[.past W ms])∨(i≠j∧hs[i]?=some c):=fun i c e=>by
  by_cases hij:j=i
  ·subst hij
   rw [List.getElem?_set_self hjz] at e
   injection e with e
   exact .inl ⟨rfl,e.symm⟩
  ·rw [List.getElem?_set_ne hij] at e
   exact .inr ⟨fun e=>hij e.symm,e⟩
 have hext:Ext ((r0.drop n).map (·.1)) w w':=hok.ext
 refine ⟨v,x,_,r',rfl,hx,?_,hs,hres,rfl⟩
 refine ⟨hext,hok.agree,ok.rol,by rw [List.length_set]; exact hlen',fun i c B f hi hr=>?_,hok.lt,hok.own,fun i B f ho hlv hr=>?_,fun i c ho hlv hi=>?_,fun i k B f f' c c' hik o1 o2 hi hk hri hrk=>?_,fun i m B f ho hi hr=>?_,fun i W2 ms2 hi=>?_⟩
 ·rcases get i c hi with ⟨rfl,rfl⟩|⟨hij,hi⟩
  ·intro d y e; simp [flat] at e
  ·exact hok.chunks i c B f hi hr
 ·have ho:i<n:=ho
  have hij:i≠j:=fun e=>by subst e; exact hlv (by show flat (getH (h0.set i [.past W ms]) i)=[]; rw [getH_eq,List.getElem?_set_self hjl]; rfl)
  have hlv':flat (getH h0 i)≠[]:=by rw [← hgl i hij]; exact hlv
  exact hok.ros i B f ho hlv' hr
 ·have ho:i<n:=ho
  rcases get i c hi with ⟨rfl,rfl⟩|⟨hij,hi⟩
  ·rfl
  ·exact hok.dead i c ho (fun hc=>hlv (lv i hc)) hi
 ·have o1:n≤i:=o1
  have o2:n≤k:=o2
  rcases get i c hi with ⟨rfl,_⟩|⟨_,hi⟩
  ·omega
  rcases get k c' hk with ⟨rfl,_⟩|⟨_,hk⟩
  ·omega
  exact hok.apart i k B f f' c c' hik o1 o2 hi hk hri hrk
 ·have o1:n≤i:=ho
  rcases get i _ hi with ⟨rfl,_⟩|⟨_,hi⟩
  ·omega
  exact hok.maps i m B f o1 hi hr
 ·rcases get i _ hi with ⟨rfl,e⟩|⟨hij,hi⟩
  ·injection e with e _
   injection e with e1 e2
   subst e1; subst e2
   refine ⟨p1.trans2 hext fun B hB=>?_,fun B _ g2 g3=>⟨i,_,_,hpast,g2,g3⟩,fun k B f ho hr hlt=>?_⟩
   ·rcases Nat.lt_or_ge B W2.heap.size with hlt|hge
    ·exact .inl (mem_ms B hB hlt)
    ·exact .inr hge
   ·rcases hok.own k B f ho hr with h1|h1
    ·exact mem_ms B h1 hlt
    ·have h1:w.heap.size≤B:=h1
     have:=p1.size
     omega
  ·obtain ⟨q1,q2,q3⟩:=hok.past i W2 ms2 hi
   refine ⟨q1,fun B g1 g2 g3=>?_,q3⟩
   obtain ⟨i2,W3,ms3,g4,g5,g6⟩:=q2 B g1 g2 g3
   refine ⟨i2,W3,ms3,?_,g5,g6⟩
   have:i2≠j:=fun e=>by
    subst e
    rw [hch] at g4
    injection g4 with g4
    exact hnp W3 ms3 g4
   exact (hh i2 _ this).2 g4
end Sx
end
section
namespace Sx
open Go.RowKit Sha Vi

theorem ImAt.part {W:World} {ms:List Nat} {a:Addr} {l:List SC} (h:ImAt W ms a l) (o:Nat) {m:List SC} (hm:∀ j x,m[j]?=some x→l[o+j]?=some x):ImAt W ms (a.add o) m:=by
 obtain ⟨h0,h1,h2,h3⟩:=h
 obtain ⟨B,f,s⟩:=a
 simp only at h0 h1 h2 h3
 subst h0
 rw [add_none]
 exact ⟨rfl,h1,h2,fun j x e=>by
  obtain ⟨v,e1,e2⟩:=h3 (o+j) x (hm j x e)
  exact ⟨v,by rw [show f+o+j=f+(o+j) by omega]; exact e1,e2⟩⟩
theorem ImAt.one {W:World} {ms:List Nat} {a:Addr} {l:List SC} (h:ImAt W ms a l) {j:Nat} {x:SC} (e:l[j]?=some x):ImAt W ms (a.add j) [x] :=
 h.part j fun i y e2=>by
  cases i with
  | zero=>simp at e2; subst e2; exact e
  | succ i=>simp at e2
theorem ImAt.zero {W:World} {ms:List Nat} {a:Addr} {l:List SC} (h:ImAt W ms a l):a.add 0=a:=by
 obtain ⟨h0,_⟩:=h
 obtain ⟨B,f,s⟩:=a
 simp only at h0; subst h0
 rw [add_none]; rfl
theorem RawAt.past {C:Cx} {h:List (List Seg)} {i:Nat} {W:World} {ms:List Nat} (hp:h[i]?=some [.past W ms]) {a:Addr} {l:List SC} (k:ImAt W ms a l):RawAt C h a l:=.inr ⟨i,W,ms,hp,k⟩
structure SlAt (W:World) (ms:List Nat) (a:Option Addr) (n c sz:Nat) (l:List SC):Prop where
 len:l.length=n*sz
 le:n≤c
 cap:n≤9223372036854775807
 nil:a=none→c=0
 im:∀ x,a=some x→c≠0→ImAt W ms x l
theorem SlAt.nul {W:World} {ms:List Nat} {sz:Nat}:SlAt W ms none 0 0 sz []:=⟨by simp,Nat.le_refl _,by decide,fun _=>rfl,fun x e _=>by cases e⟩
theorem SlAt.nil_ {W:World} {ms:List Nat} {n c sz:Nat} {l:List SC} (h:SlAt W ms none n c sz l):n=0∧c=0∧l=[]:=by
 have h1:=h.nil rfl
 have h2:=h.le
 have h3:n=0:=by omega
 exact ⟨h3,h1,List.eq_nil_of_length_eq_zero (by rw [h.len,h3,Nat.zero_mul])⟩
abbrev BsAt (W:World) (ms:List Nat) (a:Option Addr) (n c:Nat) (l:Bs):Prop:=SlAt W ms a n c 1 (l.map .w8)
theorem SlAt.n1 {α:Type} {g:α→SC} {W:World} {ms:List Nat} {a:Option Addr} {n c:Nat} {l:List α} (h:SlAt W ms a n c 1 (l.map g)):l.length=n:=by
 have:=h.len; simpa using this
theorem loadR {C:Cx} {h:List (List Seg)} {i:Nat} {W:World} {ms:List Nat} (hp:h[i]?=some [.past W ms]) {x:Addr} {l:List SC} (k:ImAt W ms x l) {j:Nat} {y:SC} (e:l[j]?=some y) {K:List Seg→Prop} (hk:K [.one y]) :
  ∃ s,(RawAt C h (x.add j) (flat s)∧(flat s).length=1)∧K s :=
 ⟨[.one y],⟨.past hp (k.one e),rfl⟩,hk⟩
theorem map_get? {α:Type} {g:α→SC} {l:List α} {j:Nat} {y:α} (e:l[j]?=some y):(l.map g)[j]?=some (g y):=by
 rw [List.getElem?_map,e]; rfl
abbrev slR (a:Option Addr) (c:Nat) (l:Bs):Sl:=⟨a.isNone,l.length,0,c,l⟩
theorem SlAt.isNil {W:World} {ms:List Nat} {a:Option Addr} {n c:Nat} {l:Bs} (h:BsAt W ms a n c l) (e:a.isNone=true):l=[]:=by
 cases a with
 | none=>have:=h.nil_.2.2; simpa using this
 | some A=>cases e
theorem SlAt.okB {W:World} {ms:List Nat} {a:Option Addr} {n c:Nat} {l:Bs} (h:BsAt W ms a n c l) (hs:l.length≤1000000):(slR a c l).Ok :=
 ⟨by simp,by have:=h.n1; have:=h.le; show l.length≤c; omega,h.isNil,hs⟩
theorem flat_bts (n:Nat) (l:Bs) (hn:l.length=n):flat (bts false n 0 n (L l))=l.map .w8:=by
 subst hn
 simp only [bts,flat,List.append_nil]
 apply List.ext_getElem (by simp)
 intro i h1 h2
 simp at h1 h2
 have:=winF_at 0 l.length (L l) h1
 rw [Nat.zero_add] at this
 simp [this,L_lt h1]
theorem map_w8_raw (l:Bs):∀ x∈l.map SC.w8,x.raw=x:=fun x hx=>by
 obtain ⟨b,_,rfl⟩:=List.mem_map.1 hx
 rfl
theorem bts_ne (z:Bool) (N o n:Nat) (b:Nat→BitVec 8) (W:World) (ms:List Nat):bts z N o n b≠[.past W ms]:=by
 intro e; cases z <;> simp [bts] at e
theorem FnR.rawB {P:Program} {T:List (Nat × TD)} {f:FuncId} {n:Nat} {h0:List (List Seg)} {args args':List SA} {raw:World→Prop} {Res:SV→List (List Seg)→Prop} (h:FnR P T f n h0 args raw Res) (j:Nat) (hj:j<n) {W:World} {ms:List Nat} {a:Option Addr} {m c:Nat} {l:Bs}
  (hb:BsAt W ms a m c l) (hch:h0[j]?=some (svB (slR a c l))) (hfree:∀ A i c,i≠j→h0[i]?=some c→Free j (fun _=>A) (flat c)) (hargs:∀ A,a=some A→unAs j A args' args) (hargs0:a=none∨c=0→nuAs j args' args)
  (hx:∀ x hs A,Res x hs→x.rz (fun i=>Nat.beq i j) (fun _=>A)=x∧(rzH (fun i=>Nat.beq i j) (fun _=>A) hs).set j [.past W ms]=hs.set j [.past W ms]) :
  FnR P T f n (h0.set j [.past W ms]) args' raw (fun x hs=>∃ hs',Res x hs'∧hs=hs'.set j [.past W ms]):=by
 cases a with
 | none =>
  obtain ⟨_,_,hl⟩:=hb.nil_
  exact h.nul j hj hch rfl (bts_ne _ _ _ _ _) (hargs0 (.inl rfl))
 | some A =>
  by_cases hc:c=0
  ·have h1:=hb.n1
   have h2:=hb.le
   have hl0:l=[]:=List.eq_nil_of_length_eq_zero (by omega)
   refine h.nul j hj hch ?_ (bts_ne _ _ _ _ _) (hargs0 (.inr hc))
   subst hl0; rfl
  have hfl:flat (svB (slR (some A) c l))=l.map .w8:=flat_bts _ l rfl
  refine (h.unname j hj hch (bts_ne _ _ _ _ _) (hfl ▸ hb.im A rfl hc) (hfl ▸ map_w8_raw l) (hfree A) (hargs A rfl)).mono ?_
  rintro x hs ⟨x',hs',h1,rfl,rfl⟩
  obtain ⟨e1,e2⟩:=hx x' hs' A h1
  exact ⟨hs',by rw [e1]; exact h1,e2⟩
/-! Blocks in which a name does not stand. -/
def frL (j:Nat) (A:Addr):List Seg→Prop
 | []=>True
 | .one x::r=>x.rz (fun i=>Nat.beq i j) (fun _=>A)=x∧frL j A r
 | .row _ f::r=>(∀ i,(f i).rz (fun i=>Nat.beq i j) (fun _=>A)=f i)∧frL j A r
 | .obj _::r=>frL j A r
 | .past _ _::r=>frL j A r
def frH (j:Nat) (A:Addr):Nat→List (List Seg)→Prop
 | _,[]=>True
 | i,c::r=>(i=j∨frL j A c)∧frH j A (i+1) r
theorem frL.free {j:Nat} {A:Addr}:∀ {l:List Seg},frL j A l→Free j (fun _=>A) (flat l)
 | [],_=>fun x hx=>by simp [flat] at hx
 | .one y::r,h=>fun x hx=>by
  simp only [flat,List.mem_cons] at hx
  rcases hx with rfl|hx
  ·exact h.1
  ·exact frL.free h.2 x hx
 | .row n f::r,h=>fun x hx=>by
  simp only [flat,List.mem_append,List.mem_map] at hx
  rcases hx with ⟨i,_,rfl⟩|hx
  ·exact h.1 i
  ·exact frL.free h.2 x hx
 | .obj _::r,h=>fun x hx=>frL.free (l:=r) h x hx
 | .past _ _::r,h=>fun x hx=>frL.free (l:=r) h x hx
theorem frH.free {j:Nat} {A:Addr}:∀ {h:List (List Seg)} {k:Nat},frH j A k h→∀ (i:Nat) (c:List Seg),k+i≠j→h[i]?=some c→Free j (fun _=>A) (flat c)
 | [],_,_,i,c,_,e=>by simp at e
 | d::h,k,hh,0,c,hi,e=>by
  simp at e; subst e
  rcases hh.1 with h1|h1
  ·omega
  ·exact h1.free
 | d::h,k,hh,i+1,c,hi,e=>frH.free hh.2 i c (by omega) (by simpa using e)
theorem rz_bytesF {F:Nat→Bool} {α:Nat→Addr} (n:Nat) (b:Nat→BitVec 8) (i:Nat):(bytesF n b i).rz F α=bytesF n b i:=by
 unfold bytesF; split <;> rfl
theorem rz_winF {F:Nat→Bool} {α:Nat→Addr} (o n:Nat) (b:Nat→BitVec 8) (i:Nat):(winF o n b i).rz F α=winF o n b i:=by
 unfold winF; split <;> rfl
theorem frL_bts {j:Nat} {A:Addr} (z:Bool) (N o n:Nat) (b:Nat→BitVec 8):frL j A (bts z N o n b):=by
 cases z
 ·exact ⟨fun i=>rz_winF _ _ _ i,trivial⟩
 ·trivial
theorem rzL_bts {F:Nat→Bool} {α:Nat→Addr} (z:Bool) (N o n:Nat) (b:Nat→BitVec 8):rzL F α (bts z N o n b)=bts z N o n b:=by
 cases z
 ·simp only [bts,rzL,Seg.rz,rz_winF]
 ·rfl
end Sx
end
section
namespace Sx
open Go.RowKit Sha Vi

abbrev msR (x:Ms) (a:Option Addr) (c:Nat):List Seg:=[.one (.w8 x.k),ar x.r,.one (.w64 x.p.a0),.one (.w64 x.p.a1),.one (.w64 x.p.a2),.one (.w64 x.p.a3),.one (.w64 x.p.a4),.one (.w64 x.p.a5),.one (.w64 x.p.a6),.one (.w64 x.p.a7),.one (.w64 x.p.a8),.one (.slc a x.p.s.l.length c),ar x.m]
abbrev pmR (p:Pm) (a:Option Addr) (c:Nat):List Seg:=[.one (.w64 p.a0),.one (.w64 p.a1),.one (.w64 p.a2),.one (.w64 p.a3),.one (.w64 p.a4),.one (.w64 p.a5),.one (.w64 p.a6),.one (.w64 p.a7),.one (.w64 p.a8),.one (.slc a p.s.l.length c)]
theorem add_zero_of {W:World} {ms:List Nat} {a:Option Addr} {n c sz:Nat} {l:List SC} (h:SlAt W ms a n c sz l):(if c=0 then a else a.map (·.add 0))=a:=by
 split
 ·rfl
 ·rename_i hc
  cases a with
  | none=>rfl
  | some A=>exact congrArg some (h.im A rfl hc).zero
theorem SlAt.takeB {W:World} {ms:List Nat} {a:Option Addr} {n c:Nat} {l:Bs} (h:BsAt W ms a n c l) (k:Nat):BsAt W ms a (l.take k).length c (l.take k):=by
 have h1:=h.n1
 have h2:=h.le
 have h3:=h.cap
 refine ⟨by rw [List.length_map,Nat.mul_one],by rw [List.length_take]; omega,by rw [List.length_take]; omega,h.nil,fun x e hc=>?_⟩
 have:=(h.im x e hc)
 obtain ⟨i1,i2,i3,i4⟩:=this
 refine ⟨i1,i2,i3,fun j y e=>i4 j y ?_⟩
 rw [List.map_take,List.getElem?_take] at e
 split at e
 ·exact e
 ·cases e
set_option maxRecDepth 20000 in
set_option maxHeartbeats 8000000 in
theorem fn_lpfitR {W:World} {ms:List Nat} (p:Pm) {a:Option Addr} {n c:Nat} (h:BsAt W ms a n c p.s.l):FnR Try.prog tds 19 1 [[.past W ms]] [.agg (pmR p a c)] (fun _=>True)
  (fun y hs=>y=.a (.agg (pmR (fitP p) a c))∧hs=[[.past W ms]]):=by
 refine fn_of_body tds_ok follows_ Try.func19 rfl (t:=.a (.agg (pmR p a c))::anys (Try.f19.ntmps-1)) rfl (fun w r0 hr _=>?_)
 obtain ⟨x0,rfl⟩:=List.length_eq_one_iff.1 hr
 have h1:=h.n1
 have h2:=h.le
 (repeat show _∧_;first|refine yr ?_|refine yt ?_|refine yf ?_|refine yo ?_)
 refine ⟨none,[],[(0,true),(1,true),(2,true),(3,true),(4,true),(5,true),(6,true),(7,true),(8,true),(9,true),(10,true),(11,true),(12,true),(13,true),(14,true),(15,true),(16,true),(17,true),(18,true),(19,true),(20,true),(21,true),(22,true),(23,true),(24,true),(25,true),(26,true),(27,true),(28,true),(29,true),(30,true),(31,true),(32,true),(33,true),(34,true),(35,true)],[36],by kernel_rfl,?_⟩
 (repeat show _∧_;first|refine yr ?_|refine yt ?_|refine yf ?_|refine yo ?_)
 refine ⟨.a (.agg (pmR (fitP p) a c)),_,⟨[0],⟨rfl,rfl,rfl⟩,?_⟩,rfl,rfl⟩
 (repeat first|exact trivial|refine ent1 ?_)
 refine ⟨?_,by (repeat first|exact trivial|refine ent1 ?_)⟩
 have ez:=add_zero_of h
 have hl:(p.s.l.take 20).length=min 20 p.s.l.length:=List.length_take
 show SC.slc (if c=0 then a else a.map (·.add (0*1))) _ (c-0)=SC.slc a (p.s.l.take 20).length c
 rw [Nat.zero_mul,ez,Nat.sub_zero]
 congr 1
 rw [hl]
 split <;> omega
set_option maxRecDepth 20000 in
set_option maxHeartbeats 8000000 in
theorem fn_lhfitR {W:World} {ms:List Nat} (x:Ms) {a:Option Addr} {n c:Nat} (h:BsAt W ms a n c x.p.s.l) (hr:x.r.length=32) (hm:x.m.length=32) (k:BitVec 8):FnR Try.prog tds 8 1 [[.past W ms]] [.agg (msR x a c),.c (.w8 k)] (fun _=>True)
  (fun y hs=>∃ a' c',BsAt W ms a' (fitMs x k).p.s.l.length c' (fitMs x k).p.s.l∧y=.a (.agg (msR (fitMs x k) a' c'))∧hs=[[.past W ms]]):=by
 refine fn_of_body tds_ok follows_ Try.func8 rfl (t:=.a (.agg (msR x a c))::.a (.c (.w8 k))::anys (Try.f8.ntmps-2)) rfl (fun w r0 hr _=>?_)
 obtain ⟨x0,rfl⟩:=List.length_eq_one_iff.1 hr
 have hk:(k % 3#8).toNat=k.toNat % 3:=by rw [BitVec.toNat_umod]; rfl
 have hkl:(k % 3#8).toNat<3:=by rw [hk]; omega
 have hkf:∀ i:Nat,i=k.toNat % 3→nthC [.w8 1#8,.w8 2#8,.w8 20#8] i=.w8 (kindF k):=by
  rintro i rfl
  unfold kindF
  have:k.toNat % 3=0∨k.toNat % 3=1∨k.toNat % 3=2:=by omega
  rcases this with h|h|h <;> rw [h] <;> rfl
 (repeat show _∧_;first|refine yr ?_|refine yt ?_|refine yf ?_|refine yo ?_)
 refine And.intro (show (0:Int)≤(((k % 3#8).toNat:Nat):Int)∧(((k % 3#8).toNat:Nat):Int)<3 by omega) ?_
 (repeat show _∧_;first|refine yr ?_|refine yt ?_|refine yf ?_|refine yo ?_)
 refine And.intro (show (((k % 3#8).toNat:Nat):Int).toNat+0<3 by omega) ?_
 refine frc_eq (y:=.w8 (kindF k)) (hkf ((((k % 3#8).toNat:Nat):Int).toNat+0) (by omega)) ?_
 (repeat show _∧_;first|refine yr ?_|refine yt ?_|refine yf ?_|refine yo ?_)
 refine call_same (fn_lpfitR x.p h) [0] rfl (by (repeat first|exact trivial|refine ent1 ?_)) (by (repeat first|exact trivial|refine ent1 ?_)) (fun _ _=>trivial) ?_
 rintro y hs' ⟨rfl,rfl⟩
 unfold fitMs
 by_cases h2:kindF k=20#8
 ·have e2:decide (kindF k=20#8)=true:=decide_eq_true h2
  rw [if_pos h2]
  (repeat show _∧_;first|refine yr ?_|refine yt ?_|refine yf ?_|refine ya e2 ?_|refine yb e2 ?_|refine yo ?_)
  (repeat first|refine And.intro (by omega) ?_|refine And.intro (by decide) ?_|(with_reducible refine frc_parts (by first|omega|decide) ?_)|(with_reducible refine frc_bytesL (by first|omega|decide) ?_)|refine And.intro rfl ?_)
  refine ⟨.a (.agg (msR ⟨20#8,zer32,pm0,x.m⟩ none 0)),_,⟨[0],⟨rfl,rfl,rfl⟩,?_⟩,none,0,SlAt.nul,rfl,rfl⟩
  (repeat first|exact trivial|refine ent1 ?_)
  refine ⟨zrow2,?_⟩
  (repeat first|exact trivial|refine ent1 ?_)
 have e2:decide (kindF k=20#8)=false:=decide_eq_false h2
 rw [if_neg h2]
 (repeat show _∧_;first|refine yr ?_|refine yt ?_|refine yf ?_|refine ya e2 ?_|refine yb e2 ?_|refine yo ?_)
 (repeat first|refine And.intro (by omega) ?_|refine And.intro (by decide) ?_|(with_reducible refine frc_parts (by first|omega|decide) ?_)|(with_reducible refine frc_bytesL (by first|omega|decide) ?_)|refine And.intro rfl ?_)
 refine ⟨.a (.agg (msR ⟨kindF k,x.r,fitP x.p,x.m⟩ a c)),_,⟨[0],⟨rfl,rfl,rfl⟩,?_⟩,a,c,h.takeB 20,rfl,rfl⟩
 (repeat first|exact trivial|refine ent1 ?_)
end Sx
end
section
namespace Sx
open Go.RowKit Sha Vi

abbrev reN (x:Ms) (a:Option Addr) (c:Nat):Ms:=⟨x.k,x.r,⟨x.p.a0,x.p.a1,x.p.a2,x.p.a3,x.p.a4,x.p.a5,x.p.a6,x.p.a7,x.p.a8,slR a c x.p.s.l⟩,x.m⟩
theorem reN_ok {W:World} {ms:List Nat} {x:Ms} {a:Option Addr} {n c:Nat} (h:BsAt W ms a n c x.p.s.l) (hx:x.Ok):(reN x a c).Ok:=⟨hx.r,h.okB hx.p.small,hx.m⟩
theorem unA_ms {x:Ms} {A:Addr} {c:Nat}:unA 0 A (.agg (msR x (some A) c)) (.agg (msC 0 (reN x (some A) c))):=by
 refine ⟨⟨rfl,rfl⟩,rfl,fun _ _=>⟨rfl,rfl⟩,⟨rfl,rfl⟩,⟨rfl,rfl⟩,⟨rfl,rfl⟩,⟨rfl,rfl⟩,⟨rfl,rfl⟩,⟨rfl,rfl⟩,⟨rfl,rfl⟩,⟨rfl,rfl⟩,⟨rfl,rfl⟩,⟨rfl,rfl,rfl,rfl,rfl,rfl,rfl⟩,rfl,fun _ _=>⟨rfl,rfl⟩,trivial⟩
theorem nuA_ms {W:World} {ms:List Nat} {x:Ms} {a:Option Addr} {n c:Nat} (h:BsAt W ms a n c x.p.s.l) (h0:a=none∨c=0):nuA 0 (.agg (msR x a c)) (.agg (msC 0 (reN x a c))):=by
 have h1:=h.n1
 have h2:=h.le
 have hc:c=0:=by
  rcases h0 with rfl|h0
  ·exact h.nil rfl
  ·exact h0
 have hl:x.p.s.l.length=0:=by omega
 refine ⟨rfl,rfl,fun _ _=>rfl,rfl,rfl,rfl,rfl,rfl,rfl,rfl,rfl,rfl,?_,rfl,fun _ _=>rfl,trivial⟩
 cases a with
 | none=>exact ⟨rfl,hl,hc,hl,hc⟩
 | some A=>exact ⟨rfl,hl,hc,hl,hc⟩
theorem fn_hsay0R {W:World} {ms:List Nat} (x:Ms) {a:Option Addr} {n c0:Nat} (h:BsAt W ms a n c0 x.p.s.l) (hx:x.Ok) (hE:errMs x=0) (early:Bs) (he:early.length=32) (dn:BitVec 32) (f g:Nat→BitVec 32) (hd:TabOk dn f g) :
  FnR Try.prog tds 9 1 [[.past W ms],scN 2 early,shaT dn 0 f g] [.c (.p 1 0 0),.agg (msR x a c0)] (fun _=>True)
  (fun y hs=>∃ V c c',V=openMs x++hmarkL early x.k [] (openMs x)∧V.length≤c∧V.length≤c'∧y=.tup [.c (.sl 3 0 0 V.length c),.c (.int .i64 0)]∧hs=[[.past W ms],scS 2 early 4 V.length c',shaT 1 0 first steps,lsC V c,lsC V c']):=by
 have hN:=fn_hsay0 (reN x a c0) (reN_ok h hx) hE early he dn f g hd
 refine (hN.rawB 0 (by decide) h rfl (fun A i c hi hc=>frH.free (k:=0) (j:=0) ?_ i c (by omega) hc) (fun A ha=>?_) (fun h0=>?_) (fun y hs A hr=>?_)).mono ?_
 ·exact ⟨.inl rfl,.inr ⟨rfl,fun _=>rfl,rfl,trivial⟩,.inr (by repeat' first|exact trivial|exact rfl|exact fun _=>rfl|refine And.intro ?_ ?_),trivial⟩
 ·subst ha
  exact ⟨⟨rfl,rfl⟩,unA_ms,trivial⟩
 ·exact ⟨rfl,nuA_ms h h0,trivial⟩
 ·obtain ⟨V,c,c',_,_,_,rfl,rfl⟩:=hr
  refine ⟨rfl,?_⟩
  simp only [rzH,rzL,Seg.rz,rz_bytesF,List.set_cons_zero]
  rfl
 ·rintro y hs ⟨hs',⟨V,c,c',h1,h2,h3,rfl,rfl⟩,rfl⟩
  exact ⟨V,c,c',h1,h2,h3,rfl,rfl⟩
theorem fn_hsay1R {W:World} {ms:List Nat} (S:Bs) (cS:Nat) (hS1:S.length≤500000) (hS2:S.length≤cS) (hS3:S.length≠0) (x:Ms) {a:Option Addr} {n c0:Nat} (h:BsAt W ms a n c0 x.p.s.l) (hx:x.Ok) (hE:errMs x=0) (early:Bs) (he:early.length=32) (dn:BitVec 32) (f g:Nat→BitVec 32) (hd:TabOk dn f g) :
  FnR Try.prog tds 9 1 [[.past W ms],scS 2 early 3 S.length cS,shaT dn 0 f g,lsC S cS] [.c (.p 1 0 0),.agg (msR x a c0)] (fun _=>True)
  (fun y hs=>∃ V c c',V=openMs x++hmarkL early x.k S (openMs x)∧V.length≤c∧(S++V).length≤c'∧y=.tup [.c (.sl 4 0 0 V.length c),.c (.int .i64 0)]∧hs=[[.past W ms],scS 2 early 5 (S++V).length c',shaT 1 0 first steps,[],lsC V c,lsC (S++V) c']):=by
 have hN:=fn_hsay1 S cS hS1 hS2 hS3 (reN x a c0) (reN_ok h hx) hE early he dn f g hd
 refine (hN.rawB 0 (by decide) h rfl (fun A i c hi hc=>frH.free (k:=0) (j:=0) ?_ i c (by omega) hc) (fun A ha=>?_) (fun h0=>?_) (fun y hs A hr=>?_)).mono ?_
 ·exact ⟨.inl rfl,.inr ⟨rfl,fun _=>rfl,rfl,trivial⟩,.inr (by repeat' first|exact trivial|exact rfl|exact fun _=>rfl|refine And.intro ?_ ?_),.inr ⟨fun i=>rz_bytesF _ _ i,trivial⟩,trivial⟩
 ·subst ha
  exact ⟨⟨rfl,rfl⟩,unA_ms,trivial⟩
 ·exact ⟨rfl,nuA_ms h h0,trivial⟩
 ·obtain ⟨V,c,c',_,_,_,rfl,rfl⟩:=hr
  refine ⟨rfl,?_⟩
  simp only [rzH,rzL,Seg.rz,rz_bytesF,List.set_cons_zero]
  rfl
 ·rintro y hs ⟨hs',⟨V,c,c',h1,h2,h3,rfl,rfl⟩,rfl⟩
  exact ⟨V,c,c',h1,h2,h3,rfl,rfl⟩
theorem fn_hbodyR {W:World} {ms:List Nat} (x:Ms) {a:Option Addr} {n c0:Nat} (h:BsAt W ms a n c0 x.p.s.l) (hx:x.Ok) (hE:errMs x=0):FnR Try.prog tds 10 1 [[.past W ms]] [.agg (msR x a c0)] (fun _=>True)
  (fun y hs=>∃ c,(openMs x).length≤c∧y=.a (.c (.sl 1 0 0 (openMs x).length c))∧hs=[[.past W ms],lsC (openMs x) c]):=by
 have hN:=fn_hbody (reN x a c0) (reN_ok h hx) hE
 refine (hN.rawB 0 (by decide) h rfl (fun A i c hi hc=>frH.free (k:=0) (j:=0) ?_ i c (by omega) hc) (fun A ha=>?_) (fun h0=>?_) (fun y hs A hr=>?_)).mono ?_
 ·exact ⟨.inl rfl,trivial⟩
 ·subst ha
  exact ⟨unA_ms,trivial⟩
 ·exact ⟨nuA_ms h h0,trivial⟩
 ·obtain ⟨c,_,rfl,rfl⟩:=hr
  refine ⟨rfl,?_⟩
  simp only [rzH,rzL,Seg.rz,rz_bytesF,List.set_cons_zero]
 ·rintro y hs ⟨hs',⟨c,h1,rfl,rfl⟩,rfl⟩
  exact ⟨c,h1,rfl,rfl⟩
theorem fn_psameR {W:World} {ms:List Nat} (p q:Pm) (hp:p.s.Ok) {a:Option Addr} {n c0:Nat} (h:BsAt W ms a n c0 q.s.l) (hq:q.s.l.length≤1000000):FnR Try.prog tds 13 2 [svB p.s,[.past W ms]] [.agg (pmC 0 p),.agg (pmR q a c0)] (fun _=>True)
  (fun y hs=>y=.a (.c (.bool (decide (sameP p q))))∧hs=[svB p.s,[.past W ms]]):=by
 have hN:=fn_psame p ⟨q.a0,q.a1,q.a2,q.a3,q.a4,q.a5,q.a6,q.a7,q.a8,slR a c0 q.s.l⟩ hp (h.okB hq)
 have h1:=h.n1
 have h2:=h.le
 refine (hN.rawB 1 (by decide) h rfl (fun A i c hi hc=>frH.free (k:=0) (j:=1) ?_ i c (by omega) hc) (fun A ha=>?_) (fun h0=>?_) (fun y hs A hr=>?_)).mono ?_
 ·exact ⟨.inr (frL_bts _ _ _ _ _),.inl rfl,trivial⟩
 ·subst ha
  exact ⟨⟨⟨rfl,rfl⟩,⟨rfl,rfl⟩,⟨rfl,rfl⟩,⟨rfl,rfl⟩,⟨rfl,rfl⟩,⟨rfl,rfl⟩,⟨rfl,rfl⟩,⟨rfl,rfl⟩,⟨rfl,rfl⟩,⟨rfl,rfl⟩,trivial⟩,⟨⟨rfl,rfl⟩,⟨rfl,rfl⟩,⟨rfl,rfl⟩,⟨rfl,rfl⟩,⟨rfl,rfl⟩,⟨rfl,rfl⟩,⟨rfl,rfl⟩,⟨rfl,rfl⟩,⟨rfl,rfl⟩,⟨rfl,rfl,rfl,rfl,rfl,rfl,rfl⟩,trivial⟩,trivial⟩
 ·have hc:c0=0:=by
   rcases h0 with rfl|h0
   ·exact h.nil rfl
   ·exact h0
  have hl:q.s.l.length=0:=by omega
  refine ⟨⟨rfl,rfl,rfl,rfl,rfl,rfl,rfl,rfl,rfl,rfl,trivial⟩,⟨rfl,rfl,rfl,rfl,rfl,rfl,rfl,rfl,rfl,?_,trivial⟩,trivial⟩
  cases a with
  | none=>exact ⟨rfl,hl,hc,hl,hc⟩
  | some A=>exact ⟨rfl,hl,hc,hl,hc⟩
 ·obtain ⟨rfl,rfl⟩:=hr
  refine ⟨rfl,?_⟩
  simp only [rzH,rzL_bts,List.set_cons_zero,List.set_cons_succ]
 ·rintro y hs ⟨hs',⟨rfl,rfl⟩,rfl⟩
  exact ⟨rfl,rfl⟩
end Sx
end
end Go.Proofs.Ytgmbfaefadefjaa
