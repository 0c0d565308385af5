/-
  Texts of this claim, part 8: QjC, QjD, QjE, QjF, QjG, QjH, QjI, VsB, VsC, EoJ, EoK, EoL, QjJ, QjK, QjO, QjP, VwC, EoM, EoN, EoP, EoQ, EoR, EoS, EpD, QjV, VrA, EoT, EoU, EoV, EoW, EoX, EoY, Sxw, Sxw2. No condition of its own.
-/
import Derived.OpenShut
import Derived.Test.YtnehmcpkeamghaaDoorG7
namespace Go.Proofs.YtnehmcpkeamghaaDoor
set_option linter.unusedVariables false
section
namespace Qj
open Sha Js Ev
theorem hexB_snoc (D:Bs) (c:BitVec 8):hexB (D++[c])=hexB D++[hexd (c.toNat / 16),hexd (c.toNat % 16)]:=by
 unfold hexB; simp
theorem hexB_len (D:Bs):(hexB D).length=2*D.length:=by
 induction D with
 | nil=>rfl
 | cons c D ih=>unfold hexB at ih ⊢; rw [List.flatMap_cons,List.length_append,ih]; simp; omega
theorem hex_lo:∀ c:BitVec 8,(hexS.getD (c &&& 15#8).toNat 0).toBitVec=hexd (c.toNat % 16):=by decide +kernel
theorem hex_hi2:∀ c:BitVec 8,(hexS.getD (c >>> 4).toNat 0).toBitVec=hexd (c.toNat / 16):=by decide +kernel
theorem hi16 (c:BitVec 8):(0:Int)≤((c >>> 4).toNat:Int)∧((c >>> 4).toNat:Int)<((16:Nat):Int):=by
 have:∀ c:BitVec 8,(c >>> 4).toNat<16:=by decide +kernel
 have:=this c
 omega
theorem lo16 (c:BitVec 8):(0:Int)≤((c &&& 15#8).toNat:Int)∧((c &&& 15#8).toNat:Int)<((16:Nat):Int):=by
 have:∀ c:BitVec 8,(c &&& 15#8).toNat<16:=by decide +kernel
 have:=this c
 omega
end Qj
namespace Sx
open Go.RowKit Sha Vi Js Ev Qj

set_option maxRecDepth 20000 in
theorem fn_qfoll {W:World} {ms:List Nat} {x:EvC} {e:Ev} (t:BitVec 64) (l:Bool):FnR Tryd.prog tds 47 1 [[.past W ms]] [.agg (evS e x),.c (.w64 t),.c (.bool l)] (fun _=>True) (fun y hs=>y=.a (.c (.int .i64 (follM e t l)))∧hs=[[.past W ms]]):=by
 refine fn_of_body tds_ok follows_ Tryd.func47 rfl (t:=.a (.agg (evS e x))::.a (.c (.w64 t))::.a (.c (.bool l))::anys (Tryd.f47.ntmps-3)) rfl (fun w r0 hr0 _=>?_)
 obtain ⟨x0,rfl⟩:=len1' hr0
 unfold follM
 by_cases h1:e.t<t
 ·have e1:decide (e.t<t)=true:=decide_eq_true h1
  rw [if_pos h1]
  (repeat show _∧_;first|refine yr ?_|refine yt ?_|refine yf ?_|refine yt ?_ (by first|decide|(rw[e1];decide))|refine yf ?_ (by first|decide|(rw[e1];decide))|refine yo ?_)
  exact ⟨.a (.c (.int .i64 21)),_,⟨[0],⟨rfl,rfl,rfl⟩,by (repeat first|exact trivial|refine ent1 ?_)⟩,rfl,rfl⟩
 have e1:decide (e.t<t)=false:=decide_eq_false h1
 rw [if_neg h1]
 by_cases h2:e.k=19#8
 ·have e2:decide (e.k=19#8)=true:=decide_eq_true h2
  cases l
  ·rw [if_pos ⟨h2,rfl⟩]
   (repeat show _∧_;first|refine yr ?_|refine yt ?_|refine yf ?_|refine yt ?_ (by first|decide|(rw[e1];decide)|(rw[e2];decide))|refine yf ?_ (by first|decide|(rw[e1];decide)|(rw[e2];decide))|refine yo ?_)
   exact ⟨.a (.c (.int .i64 10)),_,⟨[0],⟨rfl,rfl,rfl⟩,by (repeat first|exact trivial|refine ent1 ?_)⟩,rfl,rfl⟩
  ·rw [if_neg (fun h=>Bool.noConfusion h.2)]
   (repeat show _∧_;first|refine yr ?_|refine yt ?_|refine yf ?_|refine yt ?_ (by first|decide|(rw[e1];decide)|(rw[e2];decide))|refine yf ?_ (by first|decide|(rw[e1];decide)|(rw[e2];decide))|refine yo ?_)
   exact ⟨.a (.c (.int .i64 0)),_,⟨[0],⟨rfl,rfl,rfl⟩,by (repeat first|exact trivial|refine ent1 ?_)⟩,rfl,rfl⟩
 ·have e2:decide (e.k=19#8)=false:=decide_eq_false h2
  rw [if_neg (fun h=>h2 h.1)]
  (repeat show _∧_;first|refine yr ?_|refine yt ?_|refine yf ?_|refine yt ?_ (by first|decide|(rw[e1];decide)|(rw[e2];decide))|refine yf ?_ (by first|decide|(rw[e1];decide)|(rw[e2];decide))|refine yo ?_)
  exact ⟨.a (.c (.int .i64 0)),_,⟨[0],⟨rfl,rfl,rfl⟩,by (repeat first|exact trivial|refine ent1 ?_)⟩,rfl,rfl⟩
set_option maxRecDepth 20000 in
theorem fn_qnum1 {W:World} {ms:List Nat} {x:EvC} {e:Ev} (h:EvAt W ms x e) (i:Nat) (hi:i<e.N.length):FnR Tryd.prog tds 33 1 [[.past W ms]] [.agg (evS e x),.c (.int .i64 (i:Int))] (fun _=>True) (fun y hs=>y=.a (.c (.w64 e.N[i]))∧hs=[[.past W ms]]):=by
 have hN:=h.N
 have hn1:=h.nN
 have hNc:=h.N.le
 obtain ⟨aN,nN,cN,aD,nD,cD⟩:=x
 dsimp only at hN hn1 hNc
 refine fn_of_body tds_ok follows_ Tryd.func33 rfl (t:=.a (.agg (evS e ⟨aN,nN,cN,aD,nD,cD⟩))::.a (.c (.int .i64 (i:Int)))::anys (Tryd.f33.ntmps-2)) rfl (fun w r0 hr0 _=>?_)
 obtain ⟨x0,rfl⟩:=len1' hr0
 have e1:decide ((i:Int)<0)=false:=decide_eq_false (by omega)
 have e2:decide ((nN:Int)≤(i:Int))=false:=decide_eq_false (by omega)
 obtain ⟨A,rfl⟩:∃ A,aN=some A:=by
  cases aN with
  | none=>exact absurd (hN.nil rfl) (by omega)
  | some A=>exact ⟨A,rfl⟩
 have him:=(hN.im A rfl (by omega)).one (show (e.N.map SC.w64)[i]?=some (.w64 e.N[i]) by rw [List.getElem?_map,List.getElem?_eq_getElem hi]; rfl)
 (repeat show _∧_;first|refine yr ?_|refine yt ?_|refine yf ?_|refine yt ?_ (by first|decide|(rw[e1];decide)|(rw[e2];decide))|refine yf ?_ (by first|decide|(rw[e1];decide)|(rw[e2];decide))|refine yo ?_)
 (repeat show _∧_;first|refine yr ?_|refine yt ?_|refine yf ?_|refine yt ?_ (by first|decide|(rw[e1];decide)|(rw[e2];decide))|refine yf ?_ (by first|decide|(rw[e1];decide)|(rw[e2];decide))|refine yo ?_)
 refine And.intro (show (0:Int)≤(i:Int)∧(i:Int)<(nN:Int) by omega) ?_
 refine ⟨[.one (.w64 e.N[i])],⟨.past (i:=0) rfl (by show ImAt W ms (A.add (i*1)) _; rw [Nat.mul_one]; exact him),rfl⟩,?_⟩
 (repeat show _∧_;first|refine yr ?_|refine yt ?_|refine yf ?_|refine yo ?_)
 exact ⟨.a (.c (.w64 e.N[i])),_,⟨[0],⟨rfl,rfl,rfl⟩,by (repeat first|exact trivial|refine ent1 ?_)⟩,rfl,rfl⟩
set_option maxRecDepth 20000 in
set_option maxHeartbeats 4000000 in
theorem fn_qdigits {W:World} {ms:List Nat} {a:Option Addr} {n c:Nat} {D:Bs} (h:BsAt W ms a n c D) (hD:D.length≤1000000):FnR Tryd.prog tds 35 1 [[.past W ms]] [.c (.slc a n c)] (fun _=>True) (fun y hs=>y=.a (.c (.str (U8 (hexB D))))∧hs=[[.past W ms]]):=by
 refine fn_of_body tds_ok follows_ Tryd.func35 rfl (t:=.a (.c (.slc a n c))::anys (Tryd.f35.ntmps-1)) rfl (fun w r0 hr0 _=>?_)
 obtain ⟨x0,rfl⟩:=len1' hr0
 have hn:D.length=n:=by have h1:=h.len; simp at h1; omega
 have hle:=h.le
 (repeat show _∧_;first|refine yr ?_|refine yt ?_|refine yf ?_|refine yo ?_)
 refine .inl ⟨Nat × Bs × Option Nat,fun x=>match x with
  | (j,b,none)=>⟨[.any,.any,.a (.c (.str ([]))),.a (.c (.slc none 0 0)),.any,.any,.a (.c (.slc a n c)),.a (.c (.int .i64 (n))),.a (.c (.int .i64 (((j:Nat):Int)))),.any,.any,.any,.any,.any,.any,.any,.any,.any,.any,.any,.any,.any,.any,.any],[[.past W ms]]⟩
  | (j,b,some cc)=>⟨[.any,.any,.a (.c (.str ([]))),.a (.c (.sl 1 0 0 b.length cc)),.any,.any,.a (.c (.slc a n c)),.a (.c (.int .i64 (n))),.a (.c (.int .i64 (((j:Nat):Int)))),.any,.any,.any,.any,.any,.any,.any,.any,.any,.any,.any,.any,.any,.any,.any],[[.past W ms],lsC b cc]⟩,
  fun x=>match x with
  | (j,b,none)=>j=0
  | (j,b,some cc)=>j≤n∧b=hexB (D.take j)∧b.length≤cc,fun x=>n-x.1,⟨(0,[],none),[0],⟨⟨rfl,rfl,rfl⟩,by (repeat first|exact trivial|refine ent1 ?_)⟩,rfl⟩,fun x hx=>?_⟩
 rcases x with ⟨j,b,_|cc⟩
 ·obtain rfl:j=0:=hx
  dsimp only
  by_cases hj:0<n
  rotate_left
  ·have e1:decide (((0:Nat):Int)<(n:Int))=false:=decide_eq_false (by omega)
   have hD0:D=[]:=List.eq_nil_of_length_eq_zero (by omega)
   rw [hD0]
   (repeat show _∧_;first|refine yr ?_|refine yt ?_|refine yf ?_|refine yt ?_ (by first|decide|(rw[e1];decide))|refine yf ?_ (by first|decide|(rw[e1];decide))|refine yo ?_)
   refine ⟨U8 [],⟨rfl,fun q hq=>absurd hq (Nat.not_lt_zero _)⟩,?_⟩
   exact ⟨.a (.c (.str (U8 (hexB [])))),_,⟨[0],⟨rfl,rfl,rfl⟩,by (repeat first|exact trivial|refine ent1 ?_)⟩,rfl,rfl⟩
  have e1:decide (((0:Nat):Int)<(n:Int))=true:=decide_eq_true (by omega)
  obtain ⟨A,rfl⟩:∃ A,a=some A:=by
   cases a with
   | none=>exact absurd (h.nil rfl) (by omega)
   | some A=>exact ⟨A,rfl⟩
  have him:=(h.im A rfl (by omega)).one (show (D.map SC.w8)[0]?=some (.w8 (D[0]'(by omega))) by rw [List.getElem?_map,List.getElem?_eq_getElem (by omega)]; rfl)
  have hst:hexB (D.take (0+1))=[]++[hexd ((D[0]'(by omega)).toNat / 16),hexd ((D[0]'(by omega)).toNat % 16)]:=by
   rw [List.take_add_one,List.getElem?_eq_getElem (by omega),Option.toList_some,hexB_snoc]
   rfl
  generalize (D[0]'(by omega))=ch at him hst
  (repeat show _∧_;first|refine yr ?_|refine yt ?_|refine yf ?_|refine yt ?_ (by first|decide|(rw[e1];decide))|refine yf ?_ (by first|decide|(rw[e1];decide))|refine yo ?_)
  refine ⟨[.one (.w8 ch)],⟨.past (i:=0) rfl (by show ImAt W ms (A.add (0*1)) _; rw [Nat.mul_one]; exact him),rfl⟩,?_⟩
  (repeat show _∧_;first|refine yr ?_|refine yt ?_|refine yf ?_|refine yo ?_)
  refine ⟨none,[],[(0,true),(1,true),(2,true),(3,true),(4,true),(5,true),(6,true),(7,false)],[8,9],by kernel_rfl,?_⟩
  (repeat show _∧_;first|refine yr ?_|refine yt ?_|refine yf ?_|refine yo ?_)
  refine And.intro (show (0:Int)≤((ch >>> 4).toNat:Int)∧((ch >>> 4).toNat:Int)<((16:Nat):Int) from hi16 ch) ?_
  (repeat show _∧_;first|refine yr ?_|refine yt ?_|refine yf ?_|refine yo ?_)
  refine And.intro (show (0:Int)≤((ch &&& 15#8).toNat:Int)∧((ch &&& 15#8).toNat:Int)<((16:Nat):Int) from lo16 ch) ?_
  (repeat show _∧_;first|refine yr ?_|refine yt ?_|refine yf ?_|refine yo ?_)
  intro c1 hc1
  (repeat show _∧_;first|refine yr ?_|refine yt ?_|refine yf ?_|refine yo ?_)
  refine ⟨(1,[hexd (ch.toNat / 16),hexd (ch.toNat % 16)],some c1),[0,2],⟨⟨rfl,rfl,rfl⟩,?_⟩,⟨by omega,hst.symm,hc1⟩,by dsimp only; omega⟩
  dsimp only
  (repeat first|exact trivial|refine ent1 ?_)
  refine ⟨fun j hj=>eqC_bytes (fun i hi=>?_) j,by (repeat first|exact trivial|refine ent1 ?_)⟩
  rw [← hex_hi2 ch,← hex_lo ch] at hi ⊢
  exact new_row (fun i hi=>nthC_w8 _ i hi) i hi
 ·obtain ⟨hj0,hb,hc⟩:=hx
  dsimp only
  by_cases hj:j<n
  rotate_left
  ·have e1:decide (((j:Nat):Int)<(n:Int))=false:=decide_eq_false (by omega)
   have hbD:hexB D=b:=by rw [hb,List.take_of_length_le (by omega)]
   rw [hbD]
   (repeat show _∧_;first|refine yr ?_|refine yt ?_|refine yf ?_|refine yt ?_ (by first|decide|(rw[e1];decide))|refine yf ?_ (by first|decide|(rw[e1];decide))|refine yo ?_)
   refine And.intro (by simp only [scale]; omega) ?_
   refine ⟨U8 b,⟨U8_len b,fun q hq=>by show bytesF b.length (L b) (q+0)=_; rw [Nat.add_zero,bytesF_lt hq,U8_get b q hq]⟩,?_⟩
   exact ⟨.a (.c (.str (U8 b))),_,⟨[0],⟨rfl,rfl,rfl⟩,by (repeat first|exact trivial|refine ent1 ?_)⟩,rfl,rfl⟩
  have e1:decide (((j:Nat):Int)<(n:Int))=true:=decide_eq_true (by omega)
  obtain ⟨A,rfl⟩:∃ A,a=some A:=by
   cases a with
   | none=>exact absurd (h.nil rfl) (by omega)
   | some A=>exact ⟨A,rfl⟩
  have him:=(h.im A rfl (by omega)).one (show (D.map SC.w8)[j]?=some (.w8 (D[j]'(by omega))) by rw [List.getElem?_map,List.getElem?_eq_getElem (by omega)]; rfl)
  have hst:hexB (D.take (j+1))=b++[hexd ((D[j]'(by omega)).toNat / 16),hexd ((D[j]'(by omega)).toNat % 16)]:=by
   rw [List.take_add_one,List.getElem?_eq_getElem (by omega),Option.toList_some,hexB_snoc,hb]
  have hbl:b.length≤2000000:=by rw [hb,hexB_len,List.length_take]; omega
  generalize (D[j]'(by omega))=ch at him hst
  (repeat show _∧_;first|refine yr ?_|refine yt ?_|refine yf ?_|refine yt ?_ (by first|decide|(rw[e1];decide))|refine yf ?_ (by first|decide|(rw[e1];decide))|refine yo ?_)
  refine ⟨[.one (.w8 ch)],⟨.past (i:=0) rfl (by show ImAt W ms (A.add (j*1)) _; rw [Nat.mul_one]; exact him),rfl⟩,?_⟩
  (repeat show _∧_;first|refine yr ?_|refine yt ?_|refine yf ?_|refine yo ?_)
  refine ⟨none,[],[(0,true),(1,true),(2,true),(3,true),(4,true),(5,true),(6,true),(7,false)],[8,9],by kernel_rfl,?_⟩
  (repeat show _∧_;first|refine yr ?_|refine yt ?_|refine yf ?_|refine yo ?_)
  refine And.intro (show (0:Int)≤((ch >>> 4).toNat:Int)∧((ch >>> 4).toNat:Int)<((16:Nat):Int) from hi16 ch) ?_
  (repeat show _∧_;first|refine yr ?_|refine yt ?_|refine yf ?_|refine yo ?_)
  refine And.intro (show (0:Int)≤((ch &&& 15#8).toNat:Int)∧((ch &&& 15#8).toNat:Int)<((16:Nat):Int) from lo16 ch) ?_
  (repeat show _∧_;first|refine yr ?_|refine yt ?_|refine yf ?_|refine yo ?_)
  refine And.intro ⟨hc,by simp only [scale]; omega,by show (b.length+2)*1≤140737488355328; omega⟩ ?_
  intro c1 hc1
  (repeat show _∧_;first|refine yr ?_|refine yt ?_|refine yf ?_|refine yo ?_)
  refine ⟨(j+1,b++[hexd (ch.toNat / 16),hexd (ch.toNat % 16)],some c1),[0,3],⟨⟨rfl,rfl,rfl⟩,?_⟩,⟨hj,hst.symm,by rw [List.length_append]; exact hc1⟩,by dsimp only; omega⟩
  dsimp only
  (repeat first|exact trivial|refine ent1 ?_)
  refine And.intro (show b.length+2=_ by rw [List.length_append]; rfl) ?_
  (repeat first|exact trivial|refine ent1 ?_)
  refine ⟨fun j hj=>eqC_bytes (fun i hi=>?_) j,by (repeat first|exact trivial|refine ent1 ?_)⟩
  have hi':i<b.length+2:=by rw [List.length_append] at hi; exact hi
  rw [← hex_hi2 ch,← hex_lo ch]
  refine app_row (l:=b) (n:=b.length) (k:=2) rfl ?_ (fun i hi=>bytesF_lt hi) (fun i hi=>?_) i hi'
  ·rfl
  ·exact rowl i (by exact hi) rfl
def HexA (o:Option Bs) (y:SV) (hs:List (List Seg)):Prop:=match o with
 | none=>y=.tup [.c (.slc none 0 0),.c (.bool false)]∧hs=[]
 | some []=>y=.tup [.c (.slc none 0 0),.c (.bool true)]∧hs=[]
 | some (d::D)=>∃ c',(d::D).length≤c'∧y=.tup [.c (.sl 0 0 0 (d::D).length c'),.c (.bool true)]∧hs=[lsC (d::D) c']
theorem unhex_odd:∀ {s:Bs},s.length % 2=1→unhex s=none
 | [],h=>by simp at h
 | [_],_=>rfl
 | a::b::l,h=>by
  have ih:=unhex_odd (s:=l) (by simp at h; omega)
  unfold unhex
  rw [ih]
  cases dig1 a <;> cases dig1 b <;> rfl
theorem unhex_step {s:Bs} {j:Nat} (h:j+1<s.length):unhex (s.drop j)=match dig1 (L s j),dig1 (L s (j+1)) with
  | some x,some y=>(unhex (s.drop (j+2))).map ((x <<< 4 ||| y)::·)
  | _,_=>none:=by
 rw [drop_cons s j (by omega),drop_cons s (j+1) h]
 rfl
set_option maxRecDepth 20000 in
set_option maxHeartbeats 8000000 in
theorem fn_qbytes (s:Bs) (hs:s.length≤4611686018427387904) (hs2:s.length≤70368744177664):Fn Tryd.prog tds 52 [] [.c (.str (U8 s))] (fun _=>True) (HexA (unhex s)):=by
 refine fn_of_body tds_ok follows_ Tryd.func52 rfl (t:=.a (.c (.str (U8 s)))::anys (Tryd.f52.ntmps-1)) rfl (fun w r0 hr0 _=>?_)
 obtain rfl:r0=[]:=List.eq_nil_of_length_eq_zero hr0
 by_cases h2:s.length % 2=1
 ·have e0:decide ((((U8 s).length:Nat):Int) % 2≠0)=true:=decide_eq_true (by rw [U8_len]; omega)
  rw [unhex_odd h2]
  (repeat show _∧_;first|refine yr ?_|refine yt ?_|refine yf ?_|refine yt ?_ (by first|decide|(rw[e0];decide))|refine yf ?_ (by first|decide|(rw[e0];decide))|refine yo ?_)
  exact ⟨.tup [.c (.slc none 0 0),.c (.bool false)],_,⟨[],⟨rfl,rfl,rfl⟩,by (repeat first|exact trivial|refine ent1 ?_)⟩,rfl,rfl⟩
 have e0:decide ((((U8 s).length:Nat):Int) % 2≠0)=false:=decide_eq_false (not_not_intro (by rw [U8_len]; omega))
 (repeat show _∧_;first|refine yr ?_|refine yt ?_|refine yf ?_|refine yt ?_ (by first|decide|(rw[e0];decide))|refine yf ?_ (by first|decide|(rw[e0];decide))|refine yo ?_)
 refine .inl ⟨Nat × Bs × Option Nat,fun x=>match x with
  | (j,b,none)=>⟨[.a (.c (.str ((U8 s)))),.any,.any,.any,.a (.c (.slc none 0 0)),.a (.c (.int .i64 (((j:Nat):Int)))),.any,.any,.any,.any,.any,.any,.any,.any,.any,.any,.any,.any,.any,.any,.any,.any,.any,.any,.any,.any,.any,.any,.any,.any,.any,.any,.any,.any,.any,.any,.any,.any,.any,.any,.any,.any,.any,.any,.any,.any,.any,.any,.any],[]⟩
  | (j,b,some cc)=>⟨[.a (.c (.str ((U8 s)))),.any,.any,.any,.a (.c (.sl 0 0 0 b.length cc)),.a (.c (.int .i64 (((j:Nat):Int)))),.any,.any,.any,.any,.any,.any,.any,.any,.any,.any,.any,.any,.any,.any,.any,.any,.any,.any,.any,.any,.any,.any,.any,.any,.any,.any,.any,.any,.any,.any,.any,.any,.any,.any,.any,.any,.any,.any,.any,.any,.any,.any,.any],[lsC b cc]⟩,
  fun x=>match x with
  | (j,b,none)=>j=0
  | (j,b,some cc)=>j≤s.length∧j=2*b.length∧0<j∧unhex s=(unhex (s.drop j)).map (b++·)∧b.length≤cc,fun x=>s.length-x.1,⟨(0,[],none),[],⟨⟨rfl,rfl,rfl⟩,by (repeat first|exact trivial|refine ent1 ?_)⟩,rfl⟩,fun x hx=>?_⟩
 rcases x with ⟨j,b,_|cc⟩
 ·obtain rfl:j=0:=hx
  dsimp only
  by_cases hj:0<s.length
  rotate_left
  ·have e1:decide (((0:Nat):Int)<(((U8 s).length:Nat):Int))=false:=decide_eq_false (by rw [U8_len]; omega)
   have hs0:s=[]:=List.eq_nil_of_length_eq_zero (by omega)
   rw [show unhex s=some [] by rw [hs0]; rfl]
   (repeat show _∧_;first|refine yr ?_|refine yt ?_|refine yf ?_|refine yt ?_ (by first|decide|(rw[e1];decide))|refine yf ?_ (by first|decide|(rw[e1];decide))|refine yo ?_)
   exact ⟨.tup [.c (.slc none 0 0),.c (.bool true)],_,⟨[],⟨rfl,rfl,rfl⟩,by (repeat first|exact trivial|refine ent1 ?_)⟩,rfl,rfl⟩
  have e1:decide (((0:Nat):Int)<(((U8 s).length:Nat):Int))=true:=decide_eq_true (by rw [U8_len]; omega)
  have hj1:0+1<s.length:=by omega
  have hst:=unhex_step hj1
  (repeat show _∧_;first|refine yr ?_|refine yt ?_|refine yf ?_|refine yt ?_ (by first|decide|(rw[e1];decide))|refine yf ?_ (by first|decide|(rw[e1];decide))|refine yo ?_)
  refine And.intro ⟨by omega,by rw [U8_len]; omega⟩ ?_
  rw [show ((U8 s).getD ((0:Nat):Int).toNat 0).toBitVec=L s 0 from U8_get s 0 hj]
  (repeat show _∧_;first|refine yr ?_|refine yt ?_|refine yf ?_|refine yo ?_)
  refine call_same (fn_qdigit (L s 0)) [] rfl (by (repeat first|exact trivial|refine ent1 ?_)) trivial (fun _ _=>trivial) ?_
  rintro y hs9 ⟨rfl,rfl⟩
  (repeat show _∧_;first|refine yr ?_|refine yt ?_|refine yf ?_|refine yo ?_)
  refine And.intro ⟨by omega,by rw [U8_len]; omega⟩ ?_
  rw [show ((U8 s).getD (((0:Nat):Int)+1).toNat 0).toBitVec=L s (0+1) from by rw [show ((((0:Nat):Int)+1).toNat)=0+1 by omega]; exact U8_get s (0+1) hj1]
  (repeat show _∧_;first|refine yr ?_|refine yt ?_|refine yf ?_|refine yo ?_)
  refine call_same (fn_qdigit (L s (0+1))) [] rfl (by (repeat first|exact trivial|refine ent1 ?_)) trivial (fun _ _=>trivial) ?_
  rintro y hs9 ⟨rfl,rfl⟩
  cases ho1:dig1 (L s 0) with
  | none =>
   rw [ho1] at hst
   rw [show unhex s=none from hst]
   (repeat show _∧_;first|refine yr ?_|refine yt ?_|refine yf ?_|refine yo ?_)
   (repeat show _∧_;first|refine yr ?_|refine yt ?_|refine yf ?_|refine yo ?_)
   exact ⟨.tup [.c (.slc none 0 0),.c (.bool false)],_,⟨[],⟨rfl,rfl,rfl⟩,by (repeat first|exact trivial|refine ent1 ?_)⟩,rfl,rfl⟩
  | some x1 =>
  have q1:(!(some x1:Option (BitVec 8)).isSome)=false:=rfl
  cases ho2:dig1 (L s (0+1)) with
  | none =>
   rw [ho1,ho2] at hst
   rw [show unhex s=none from hst]
   (repeat show _∧_;first|refine yr ?_|refine yt ?_|refine yf ?_|refine yt ?_ (by first|decide|(rw[q1];decide))|refine yf ?_ (by first|decide|(rw[q1];decide))|refine yo ?_)
   (repeat show _∧_;first|refine yr ?_|refine yt ?_|refine yf ?_|refine yt ?_ (by first|decide|(rw[q1];decide))|refine yf ?_ (by first|decide|(rw[q1];decide))|refine yo ?_)
   exact ⟨.tup [.c (.slc none 0 0),.c (.bool false)],_,⟨[],⟨rfl,rfl,rfl⟩,by (repeat first|exact trivial|refine ent1 ?_)⟩,rfl,rfl⟩
  | some y1 =>
  have q2:(!(some y1:Option (BitVec 8)).isSome)=false:=rfl
  rw [ho1,ho2] at hst
  dsimp only at hst
  (repeat show _∧_;first|refine yr ?_|refine yt ?_|refine yf ?_|refine yt ?_ (by first|decide|(rw[q1];decide)|(rw[q2];decide))|refine yf ?_ (by first|decide|(rw[q1];decide)|(rw[q2];decide))|refine yo ?_)
  (repeat show _∧_;first|refine yr ?_|refine yt ?_|refine yf ?_|refine yt ?_ (by first|decide|(rw[q1];decide)|(rw[q2];decide))|refine yf ?_ (by first|decide|(rw[q1];decide)|(rw[q2];decide))|refine yo ?_)
  intro c1 hc1
  (repeat show _∧_;first|refine yr ?_|refine yt ?_|refine yf ?_|refine yo ?_)
  refine ⟨(2,[x1 <<< 4 ||| y1],some c1),[1],⟨⟨rfl,rfl,rfl⟩,?_⟩,⟨by omega,rfl,by omega,hst,hc1⟩,by dsimp only; omega⟩
  dsimp only
  (repeat first|exact trivial|refine ent1 ?_)
  refine ⟨fun j hj=>eqC_bytes (fun i hi=>?_) j,by (repeat first|exact trivial|refine ent1 ?_)⟩
  exact new_row (m:=[x1 <<< 4 ||| y1]) (fun i hi=>one_row rfl i hi) i hi
 ·obtain ⟨hj0,hjb,hjp,hu,hc⟩:=hx
  dsimp only
  by_cases hj:j<s.length
  rotate_left
  ·have e1:decide (((j:Nat):Int)<(((U8 s).length:Nat):Int))=false:=decide_eq_false (by rw [U8_len]; omega)
   have hub:unhex s=some b:=by rw [hu,List.drop_eq_nil_of_le (by omega)]; show some (b++[])=some b; rw [List.append_nil]
   obtain ⟨d,D,rfl⟩:∃ d D,b=d::D:=by
    cases b with
    | nil=>simp at hjb; omega
    | cons d D=>exact ⟨d,D,rfl⟩
   rw [hub]
   (repeat show _∧_;first|refine yr ?_|refine yt ?_|refine yf ?_|refine yt ?_ (by first|decide|(rw[e1];decide))|refine yf ?_ (by first|decide|(rw[e1];decide))|refine yo ?_)
   exact ⟨.tup [.c (.sl 0 0 0 (d::D).length cc),.c (.bool true)],_,⟨[0],⟨rfl,rfl,rfl⟩,by (repeat first|exact trivial|refine ent1 ?_)⟩,cc,hc,rfl,rfl⟩
  have e1:decide (((j:Nat):Int)<(((U8 s).length:Nat):Int))=true:=decide_eq_true (by rw [U8_len]; omega)
  have hj1:j+1<s.length:=by omega
  have hst:=unhex_step hj1
  (repeat show _∧_;first|refine yr ?_|refine yt ?_|refine yf ?_|refine yt ?_ (by first|decide|(rw[e1];decide))|refine yf ?_ (by first|decide|(rw[e1];decide))|refine yo ?_)
  refine And.intro ⟨by omega,by rw [U8_len]; omega⟩ ?_
  rw [show ((U8 s).getD ((j:Nat):Int).toNat 0).toBitVec=L s j from U8_get s j hj]
  (repeat show _∧_;first|refine yr ?_|refine yt ?_|refine yf ?_|refine yo ?_)
  refine call_same (fn_qdigit (L s j)) [] rfl (by (repeat first|exact trivial|refine ent1 ?_)) trivial (fun _ _=>trivial) ?_
  rintro y hs9 ⟨rfl,rfl⟩
  (repeat show _∧_;first|refine yr ?_|refine yt ?_|refine yf ?_|refine yo ?_)
  refine And.intro ⟨by omega,by rw [U8_len]; omega⟩ ?_
  rw [show ((U8 s).getD (((j:Nat):Int)+1).toNat 0).toBitVec=L s (j+1) from by rw [show ((((j:Nat):Int)+1).toNat)=j+1 by omega]; exact U8_get s (j+1) hj1]
  (repeat show _∧_;first|refine yr ?_|refine yt ?_|refine yf ?_|refine yo ?_)
  refine call_same (fn_qdigit (L s (j+1))) [] rfl (by (repeat first|exact trivial|refine ent1 ?_)) trivial (fun _ _=>trivial) ?_
  rintro y hs9 ⟨rfl,rfl⟩
  cases ho1:dig1 (L s j) with
  | none =>
   rw [ho1] at hst
   rw [show unhex s=none by rw [hu,hst]; rfl]
   (repeat show _∧_;first|refine yr ?_|refine yt ?_|refine yf ?_|refine yo ?_)
   (repeat show _∧_;first|refine yr ?_|refine yt ?_|refine yf ?_|refine yo ?_)
   exact ⟨.tup [.c (.slc none 0 0),.c (.bool false)],_,⟨[],⟨rfl,rfl,rfl⟩,by (repeat first|exact trivial|refine ent1 ?_)⟩,rfl,rfl⟩
  | some x1 =>
  have q1:(!(some x1:Option (BitVec 8)).isSome)=false:=rfl
  cases ho2:dig1 (L s (j+1)) with
  | none =>
   rw [ho1,ho2] at hst
   rw [show unhex s=none by rw [hu,hst]; rfl]
   (repeat show _∧_;first|refine yr ?_|refine yt ?_|refine yf ?_|refine yt ?_ (by first|decide|(rw[q1];decide))|refine yf ?_ (by first|decide|(rw[q1];decide))|refine yo ?_)
   (repeat show _∧_;first|refine yr ?_|refine yt ?_|refine yf ?_|refine yt ?_ (by first|decide|(rw[q1];decide))|refine yf ?_ (by first|decide|(rw[q1];decide))|refine yo ?_)
   exact ⟨.tup [.c (.slc none 0 0),.c (.bool false)],_,⟨[],⟨rfl,rfl,rfl⟩,by (repeat first|exact trivial|refine ent1 ?_)⟩,rfl,rfl⟩
  | some y1 =>
  have q2:(!(some y1:Option (BitVec 8)).isSome)=false:=rfl
  rw [ho1,ho2] at hst
  dsimp only at hst
  (repeat show _∧_;first|refine yr ?_|refine yt ?_|refine yf ?_|refine yt ?_ (by first|decide|(rw[q1];decide)|(rw[q2];decide))|refine yf ?_ (by first|decide|(rw[q1];decide)|(rw[q2];decide))|refine yo ?_)
  (repeat show _∧_;first|refine yr ?_|refine yt ?_|refine yf ?_|refine yt ?_ (by first|decide|(rw[q1];decide)|(rw[q2];decide))|refine yf ?_ (by first|decide|(rw[q1];decide)|(rw[q2];decide))|refine yo ?_)
  refine And.intro ⟨hc,by simp only [scale]; omega,by show (b.length+1)*1≤140737488355328; omega⟩ ?_
  intro c1 hc1
  (repeat show _∧_;first|refine yr ?_|refine yt ?_|refine yf ?_|refine yo ?_)
  refine ⟨(j+2,b++[x1 <<< 4 ||| y1],some c1),[2],⟨⟨rfl,rfl,rfl⟩,?_⟩,⟨by omega,by rw [List.length_append,List.length_singleton]; omega,by omega,by rw [hu,hst,Option.map_map]; congr 1; funext l; simp,by rw [List.length_append]; exact hc1⟩,by dsimp only; omega⟩
  dsimp only
  (repeat first|exact trivial|refine ent1 ?_)
  refine And.intro (show b.length+1=_ by rw [List.length_append]; rfl) ?_
  (repeat first|exact trivial|refine ent1 ?_)
  refine ⟨fun j hj=>eqC_bytes (fun i hi=>?_) j,by (repeat first|exact trivial|refine ent1 ?_)⟩
  have hi':i<b.length+1:=by rw [List.length_append] at hi; exact hi
  refine app_row (l:=b) (n:=b.length) (k:=1) rfl ?_ (fun i hi=>bytesF_lt hi) (fun i hi=>?_) i hi'
  ·rfl
  ·exact rowl i (by exact hi) rfl
end Sx
end
section
namespace Sx
open Go.RowKit Sha Vi Js Ev Qj

theorem evNm_dec (k:BitVec 8) (s:Bs):decide (evName k=U8 s)=decide (evNm k=s):=decide_eq_decide.2 ⟨fun h=>by
 unfold evNm; rw [h]; exact U8_inj (U8_nsB _),fun h=>by rw [← h]; exact (U8_nsB _).symm⟩
set_option maxRecDepth 20000 in
set_option maxHeartbeats 4000000 in
theorem fn_enamed (s:Bs):Fn Tryd.prog tds 38 [] [.c (.str (U8 s))] (fun _=>True) (fun y hs=>y=.tup [.c (.w8 ((namedM s).getD 0#8)),.c (.bool (namedM s).isSome)]∧hs=[]):=by
 refine fn_of_body tds_ok follows_ Tryd.func38 rfl (t:=.a (.c (.str (U8 s)))::anys (Tryd.f38.ntmps-1)) rfl (fun w r0 hr0 _=>?_)
 obtain rfl:r0=[]:=List.eq_nil_of_length_eq_zero hr0
 (repeat show _∧_;first|refine yr ?_|refine yt ?_|refine yf ?_|refine yo ?_)
 refine .inl ⟨Nat,fun k=>⟨[.a (.c (.str ((U8 s)))),.any,.any,.any,.a (.c (.w8 ((BitVec.ofNat 8 k)))),.any,.any,.any,.any,.any,.any,.any,.any,.any,.any,.any,.any,.any,.any,.any,.any],[]⟩,
  fun k=>1≤k∧k≤20∧namedM s=namedF s (20-k) k,fun k=>20-k,⟨1,[],⟨⟨rfl,rfl,rfl⟩,by (repeat first|exact trivial|refine ent1 ?_)⟩,Nat.le_refl _,by decide,rfl⟩,fun k hk=>?_⟩
 obtain ⟨h1,h2,h3⟩:=hk
 have hkn:(BitVec.ofNat 8 k).toNat=k:=by rw [BitVec.toNat_ofNat]; omega
 by_cases hk20:k=20
 ·subst hk20
  rw [h3]
  (repeat show _∧_;first|refine yr ?_|refine yt ?_|refine yf ?_|refine yo ?_)
  exact ⟨.tup [.c (.w8 0#8),.c (.bool false)],_,⟨[],⟨rfl,rfl,rfl⟩,by (repeat first|exact trivial|refine ent1 ?_)⟩,rfl,rfl⟩
 have e1:decide (BitVec.ofNat 8 k≤19#8)=true:=decide_eq_true (by rw [BitVec.le_def,hkn]; show k≤19; omega)
 have hf:namedF s (20-k) k=if evNm (BitVec.ofNat 8 k)=s then some (BitVec.ofNat 8 k) else namedF s (20-(k+1)) (k+1):=by
  rw [show 20-k=(20-(k+1))+1 by omega]; rfl
 rw [hf] at h3
 (repeat show _∧_;first|refine yr ?_|refine yt ?_|refine yf ?_|refine ya e1 ?_|refine yb e1 ?_|refine yo ?_)
 refine call_same (fn_eof (BitVec.ofNat 8 k)) [] rfl (by (repeat first|exact trivial|refine ent1 ?_)) trivial (fun _ _=>trivial) ?_
 rintro y hs ⟨rfl,rfl⟩
 have hd:=evNm_dec (BitVec.ofNat 8 k) s
 by_cases hs:evNm (BitVec.ofNat 8 k)=s
 ·rw [decide_eq_true hs] at hd
  rw [if_pos hs] at h3
  rw [h3]
  (repeat show _∧_;first|refine yr ?_|refine yt ?_|refine yf ?_|refine ya hd ?_|refine yb hd ?_|refine yo ?_)
  exact ⟨.tup [.c (.w8 (BitVec.ofNat 8 k)),.c (.bool true)],_,⟨[],⟨rfl,rfl,rfl⟩,by (repeat first|exact trivial|refine ent1 ?_)⟩,rfl,rfl⟩
 ·rw [decide_eq_false hs] at hd
  rw [if_neg hs] at h3
  (repeat show _∧_;first|refine yr ?_|refine yt ?_|refine yf ?_|refine ya hd ?_|refine yb hd ?_|refine yo ?_)
  refine ⟨k+1,[],⟨⟨rfl,rfl,rfl⟩,?_⟩,⟨by omega,by omega,h3⟩,by dsimp only; omega⟩
  (repeat first|exact trivial|refine ent1 ?_)
  refine And.intro (show BitVec.ofNat 8 k+1#8=BitVec.ofNat 8 (k+1) by apply BitVec.eq_of_toNat_eq; simp) ?_
  (repeat first|exact trivial|refine ent1 ?_)
end Sx
end
section
namespace Qj
open Sha Js Ev
theorem nums_bad {v:JT} {s:Bs} {l:List Bs} (h:memJ v s 3#8=none):nums v (s::l)=none:=by unfold nums; rw [h]
theorem nums_ok {v x:JT} {s:Bs} {l:List Bs} (h:memJ v s 3#8=some x):nums v (s::l)=(nums v l).map (x.n::·):=by rw [nums,h]
theorem memJ_mem {v x:JT} {s:Bs} {k:BitVec 8} (h:memJ v s k=some x):x∈v.l:=by
 unfold memJ at h
 split at h
 ·cases h
 split at h
 ·cases h
 ·rename_i y hy
  split at h
  ·injection h with h; subst h; exact List.mem_of_getElem? hy
  ·cases h
theorem unhex_len:∀ {s D:Bs},unhex s=some D→D.length≤s.length
 | [],D,h=>by injection h with h; subst h; exact Nat.le_refl _
 | [_],D,h=>by cases h
 | a::b::l,D,h=>by
  unfold unhex at h
  split at h
  ·obtain ⟨E,h1,rfl⟩:=Option.map_eq_some_iff.1 h
   have:=unhex_len h1
   simp; omega
  ·cases h
end Qj
namespace Sx
open Go.RowKit Sha Vi Js Ev Qj

def FillA (W:World) (ms:List Nat) (k:BitVec 8) (t:BitVec 64) (o:Option (List (BitVec 64) × Bs)) (y:SV) (hs:List (List Seg)):Prop:=match o with
 | none=>y=.a (.c (.bool false))∧hs=[[.past W ms],[.one (.w8 k),.one (.w64 t),.one .any,.one .any]]
 | some (N,D)=>y=.a (.c (.bool true))∧∃ x' W' ms',Later W ms W' ms'∧EvAt W' ms' x' ⟨k,t,N,D⟩∧hs=[[.past W' ms'],evS ⟨k,t,N,D⟩ x']
theorem bytes_fin {D:Bs} (j:Nat) (x:SC) (h:(D.map SC.w8)[j]?=some x):bytesF D.length (L D) j=x:=by
 rw [List.getElem?_map,Option.map_eq_some_iff] at h
 obtain ⟨b,hb,rfl⟩:=h
 exact bytes_get hb (Nat.le_refl _) D rfl (fun i hi=>rfl)
theorem bytes_finM {g:Nat→Nat} {D:Bs} (j:Nat) (x:SC) (h:(D.map SC.w8)[j]?=some x):SC.mp g (bytesF D.length (L D) j)=x:=by
 rw [bytes_fin j x h]
 rw [List.getElem?_map,Option.map_eq_some_iff] at h
 obtain ⟨b,hb,rfl⟩:=h
 rfl
theorem nums_fin {N:List (BitVec 64)} (j:Nat) (x:SC) (h:(N.map SC.w64)[j]?=some x):numsF N j=x:=by
 rw [List.getElem?_map,Option.map_eq_some_iff] at h
 obtain ⟨b,hb,rfl⟩:=h
 exact nums_get hb
set_option maxRecDepth 20000 in
set_option maxHeartbeats 32000000 in
theorem fn_qfill {d:Nat} {W:World} {ms:List Nat} {v:JT} {x:JC} (hx:TAt W ms (d+1) v x) (hS:∀ y∈v.l,y.s.length≤4194304) (k:BitVec 8) (t:BitVec 64):FnR Tryd.prog tds 39 1 [[.past W ms],[.one (.w8 k),.one (.w64 t),.one (.slc none 0 0),.one (.slc none 0 0)]] [.c (.p 1 0 0),.agg (jvS v x)] (fun _=>True) (FillA W ms k t (fillM k v)):=by
 refine fn_of_bodyW tds_ok follows_ Tryd.func39 rfl (t:=.a (.c (.p 1 0 0))::.a (.agg (jvS v x))::anys (Tryd.f39.ntmps-2)) rfl (fun w r0 hr0 _=>?_)
 obtain ⟨x0,x1,rfl⟩:=len2' hr0
 (repeat show _∧_;first|refine yr ?_|refine yt ?_|refine yf ?_|refine yo ?_)
 refine call_same (fn_eof k) [] rfl (by (repeat first|exact trivial|refine ent1 ?_)) trivial (fun _ _=>trivial) ?_
 rintro y hs ⟨rfl,rfl⟩
 have hdn:(dataNs k).length=(evNames k).length+if evData k=true then 1 else 0:=by unfold dataNs evNs; rw [List.length_append,List.length_map]; split <;> rfl
 have hfm:fillM k v=if hasJ v (dataNs k).length=false then none else match nums v (evNs k) with
  | none=>none
  | some N=>if evData k=true then match memJ v idB 4#8 with
    | none=>none
    | some x=>(unhex x.s).map fun D=>(N,D)
   else some (N,[]):=rfl
 have hle9:(evNames k).length≤9:=by
  have:∀ k:BitVec 8,(evNames k).length≤9:=by decide +kernel
  exact this k
 obtain ⟨l,hl⟩:∃ l,evNames k=l:=⟨_,rfl⟩
 have hns:evNs k=l.map nsB:=by unfold evNs; rw [hl]
 rw [hl] at hle9 hdn ⊢
 rw [hns] at hfm
 clear hns hl
 cases hd:evData k
 ·rw [hd] at hdn hfm
  have hm9:(dataNs k).length=l.length+0:=by rw [hdn,if_neg (by decide)]
  (repeat show _∧_;first|refine yr ?_|refine yt ?_|refine yf ?_|refine yo ?_)
  refine call_same (fn_qhas hx (l.length+0)) [0] rfl (by (repeat first|exact trivial|refine ent1 ?_)) (by (repeat first|exact trivial|refine ent1 ?_)) (fun _ _=>trivial) ?_
  rintro y hs ⟨rfl,rfl⟩
  rw [hm9] at hfm
  cases hh:hasJ v (l.length+0)
  ·rw [hh,if_pos rfl] at hfm
   rw [hfm]
   (repeat show _∧_;first|refine yr ?_|refine yt ?_|refine yf ?_|refine yo ?_)
   exact FinW.of ⟨.a (.c (.bool false)),_,⟨[0,1],⟨rfl,rfl,rfl⟩,by (repeat first|exact trivial|refine ent1 ?_)⟩,rfl,rfl⟩
  rw [hh,if_neg (by decide)] at hfm
  cases l with
  | nil =>
   (repeat show _∧_;first|refine yr ?_|refine yt ?_|refine yf ?_|refine yo ?_)
   refine .inr ⟨1,?_⟩
   (repeat show _∧_;first|refine yr ?_|refine yt ?_|refine yf ?_|refine yo ?_)
   have hfm:fillM k v=(match (some []:Option (List (BitVec 64))) with
     | none=>none
     | some N=>if false=true then match memJ v idB 4#8 with
       | none=>none
       | some x=>(unhex x.s).map fun D=>(N,D)
      else some (N,[])):=hfm
   dsimp only at hfm
   rw [if_neg (by decide)] at hfm
   rw [hfm]
   (repeat show _∧_;first|refine yr ?_|refine yt ?_|refine yf ?_|refine yo ?_)
   refine finW_frz [0,1] rfl (Nat.zero_lt_one) cx0_m rfl (fun W' ms' α hL hI=>?_)
   refine ⟨.a (.c (.bool true)),[evS ⟨k,t,[],[]⟩ ⟨none,0,0,none,0,0⟩],⟨⟨rfl,rfl,rfl⟩,?_⟩,rfl,⟨none,0,0,none,0,0⟩,W',ms',hL,⟨SlAt.nul,SlAt.nul⟩,rfl⟩
   (repeat first|exact trivial|refine ent1 ?_)
  | cons nm0 l0 =>
  obtain ⟨l,hl⟩:∃ l,nm0::l0=l:=⟨_,rfl⟩
  have hl0:0<l.length:=by rw [← hl]; simp
  have hstB:stB (nm0::l0)=[.row l.length (strsF l)]:=by rw [← hl]; rfl
  have hstC:∀ i,stC i (nm0::l0)=.sn false i 0 0 l.length l.length:=by intro i; rw [← hl]; rfl
  rw [hstB,hstC,hl]
  rw [hl] at hfm hle9 hh hdn hm9
  clear hstB hstC hl
  (repeat show _∧_;first|refine yr ?_|refine yt ?_|refine yf ?_|refine yo ?_)
  refine .inl ⟨Nat × List (BitVec 64) × Option Nat,fun y=>match y with
   | (j,N,none)=>⟨[.a (.c (.p 1 0 0)),.any,.any,.a (.c (.p 2 0 0)),.a (.c (.bool (false))),.a (.c (.p 4 0 0)),.any,.any,.any,.any,.any,.any,.any,.any,.any,.any,.any,.any,.any,.any,.any,.any,.any,.any,.any,.any,.any,.any,.any,.any,.any,.any,.any,.any,.a (.c (.sn false 3 0 0 l.length l.length)),.a (.c (.int .i64 (l.length))),.a (.c (.int .i64 (((j:Nat):Int)))),.any,.any,.any,.any,.any,.any,.any,.any,.any,.any,.any,.any,.any,.any,.any,.any,.any,.any,.any,.any,.any,.any,.any,.any,.any,.any,.any,.any,.any,.any,.any,.any,.any,.any,.any,.any,.any,.any,.any,.any,.any,.any],[[.past W ms],[.one (.w8 k),.one (.w64 t),.one (.slc none 0 0),.one (.slc none 0 0)],jvS v x,[.row l.length (strsF l)],[.one (.str (evName k)),.one (.sn false 3 0 0 l.length l.length),.one (.bool false)]]⟩
   | (j,N,some c)=>⟨[.a (.c (.p 1 0 0)),.any,.any,.a (.c (.p 2 0 0)),.a (.c (.bool (false))),.a (.c (.p 4 0 0)),.any,.any,.any,.any,.any,.any,.any,.any,.any,.any,.any,.any,.any,.any,.any,.any,.any,.any,.any,.any,.any,.any,.any,.any,.any,.any,.any,.any,.a (.c (.sn false 3 0 0 l.length l.length)),.a (.c (.int .i64 (l.length))),.a (.c (.int .i64 (((j:Nat):Int)))),.any,.any,.any,.any,.any,.any,.any,.any,.any,.any,.any,.any,.any,.any,.any,.any,.any,.any,.any,.any,.any,.any,.any,.any,.any,.any,.any,.any,.any,.any,.any,.any,.any,.any,.any,.any,.any,.any,.any,.any,.any,.any],[[.past W ms],[.one (.w8 k),.one (.w64 t),.one (.sl 5 0 0 N.length c),.one (.slc none 0 0)],jvS v x,[.row l.length (strsF l)],[.one (.str (evName k)),.one (.sn false 3 0 0 l.length l.length),.one (.bool false)],[.row c (numsF N)]]⟩,
   fun y=>match y with
   | (j,N,none)=>j=0∧N=[]
   | (j,N,some c)=>j≤l.length∧0<j∧N.length=j∧N.length≤c∧nums v (l.map nsB)=(nums v ((l.map nsB).drop j)).map (N++·),fun y=>l.length-y.1,⟨(0,[],none),[0,1,2,3,4],⟨⟨rfl,rfl,rfl⟩,?_⟩,rfl,rfl⟩,fun y hy=>?_⟩
  ·(repeat first|exact trivial|refine ent1 ?_)
   exact ⟨fun j hj=>eqC_strsM l hj,by (repeat first|exact trivial|refine ent1 ?_)⟩
  rcases y with ⟨j,N,_|c⟩
  ·obtain ⟨rfl,rfl⟩:=hy
   dsimp only
   have hj:0<l.length:=hl0
   have e1:decide (((0:Nat):Int)<(l.length:Int))=true:=decide_eq_true (by omega)
   have hdr:(l.map nsB).drop 0=nsB (l[0]'hj)::(l.map nsB).drop (0+1):=by rw [List.drop_eq_getElem_cons (by rw [List.length_map]; exact hj),List.getElem_map]
   have hsj:strsF l 0=.str (U8 (nsB (l[0]'hj))):=by rw [U8_nsB]; obtain ⟨s,h1,h2⟩:=nthC_str l 0 hj; rw [List.getElem?_eq_getElem hj] at h2; injection h2 with h2; rw [h2]; exact h1
   generalize (l[0]'hj)=nm at hdr hsj
   (repeat show _∧_;first|refine yr ?_|refine yt ?_|refine yf ?_|refine ya e1 ?_|refine yb e1 ?_|refine yo ?_)
   refine frc_atQ (y:=.str (U8 (nsB nm))) (by exact hsj) ?_
   (repeat show _∧_;first|refine yr ?_|refine yt ?_|refine yf ?_|refine yo ?_)
   refine call_same (fn_qmember hx (nsB nm) 3#8) [0] rfl (by (repeat first|exact trivial|refine ent1 ?_)) (by (repeat first|exact trivial|refine ent1 ?_)) (fun _ _=>trivial) ?_
   rintro y hs ⟨rfl,hm⟩
   have hnu:nums v (l.map nsB)=(nums v ((l.map nsB).drop 0)).map ([]++·):=by rw [List.drop_zero]; simp
   rw [hdr] at hnu
   cases hz:memJ v (nsB nm) 3#8 with
   | none =>
    rw [hz] at hm
    obtain rfl:y=_:=hm
    rw [nums_bad hz] at hnu
    rw [show nums v (l.map nsB)=none from hnu] at hfm
    rw [show fillM k v=none from hfm]
    (repeat show _∧_;first|refine yr ?_|refine yt ?_|refine yf ?_|refine yo ?_)
    exact FinW.of ⟨.a (.c (.bool false)),_,⟨[0,1],⟨rfl,rfl,rfl⟩,by (repeat first|exact trivial|refine ent1 ?_)⟩,rfl,rfl⟩
   | some z =>
   rw [hz] at hm
   obtain ⟨xz,hxz,rfl⟩:=hm
   rw [nums_ok hz,Option.map_map] at hnu
   (repeat show _∧_;first|refine yr ?_|refine yt ?_|refine yf ?_|refine yo ?_)
   refine ⟨none,[],[(0,true),(1,true),(2,true),(3,true),(4,true),(5,true),(6,true),(7,false)],[8,9,10,11],by kernel_rfl,?_⟩
   (repeat show _∧_;first|refine yr ?_|refine yt ?_|refine yf ?_|refine yo ?_)
   intro c1 hc1
   (repeat show _∧_;first|refine yr ?_|refine yt ?_|refine yf ?_|refine yo ?_)
   refine ⟨(1,[z.n],some c1),[0,1,2,3,4,7],⟨⟨rfl,rfl,rfl⟩,?_⟩,⟨hl0,Nat.zero_lt_one,rfl,hc1,hnu⟩,by dsimp only; omega⟩
   dsimp only
   (repeat first|exact trivial|refine ent1 ?_)
   refine ⟨fun j hj=>eqC_strs l hj,?_⟩
   (repeat first|exact trivial|refine ent1 ?_)
   exact ⟨fun j hj=>eqC_nums (fun j x h=>new_nums rfl j x h) j,by (repeat first|exact trivial|refine ent1 ?_)⟩
  ·obtain ⟨hj0,hjp,hNl,hc,hnu⟩:=hy
   dsimp only
   by_cases hj:j<l.length
   rotate_left
   ·have e1:decide ((j:Int)<(l.length:Int))=false:=decide_eq_false (by omega)
    rw [List.drop_eq_nil_of_le (by rw [List.length_map]; omega)] at hnu
    have hnu:nums v (l.map nsB)=some N:=by rw [hnu]; show some (N++[])=some N; rw [List.append_nil]
    rw [hnu] at hfm
    dsimp only at hfm
    (repeat show _∧_;first|refine yr ?_|refine yt ?_|refine yf ?_|refine ya e1 ?_|refine yb e1 ?_|refine yo ?_)
    rw [if_neg (by decide)] at hfm
    rw [hfm]
    (repeat show _∧_;first|refine yr ?_|refine yt ?_|refine yf ?_|refine yo ?_)
    refine finW_frz [0,1] rfl (Nat.zero_lt_one) cx0_m rfl (fun W' ms' α hL hI=>?_)
    refine ⟨.a (.c (.bool true)),[evS ⟨k,t,N,[]⟩ ⟨some ((α 5).add (0+0)),N.length,c,none,0,0⟩],⟨⟨rfl,rfl,rfl⟩,?_⟩,rfl,⟨some ((α 5).add (0+0)),N.length,c,none,0,0⟩,W',ms',hL,⟨SlAt.frz (F:=fun j=>!memB j [0,1]) (hI 5 rfl) rfl hc (show N.length≤9223372036854775807 by omega) (by decide) (by simp) nums_fin (rz_w64 _),SlAt.nul⟩,rfl⟩
    (repeat first|exact trivial|refine ent1 ?_)
   have e1:decide (((j:Nat):Int)<(l.length:Int))=true:=decide_eq_true (by omega)
   have hdr:(l.map nsB).drop j=nsB (l[j]'hj)::(l.map nsB).drop (j+1):=by rw [List.drop_eq_getElem_cons (by rw [List.length_map]; exact hj),List.getElem_map]
   have hsj:strsF l j=.str (U8 (nsB (l[j]'hj))):=by rw [U8_nsB]; obtain ⟨s,h1,h2⟩:=nthC_str l j hj; rw [List.getElem?_eq_getElem hj] at h2; injection h2 with h2; rw [h2]; exact h1
   generalize (l[j]'hj)=nm at hdr hsj
   (repeat show _∧_;first|refine yr ?_|refine yt ?_|refine yf ?_|refine ya e1 ?_|refine yb e1 ?_|refine yo ?_)
   refine frc_atQ (y:=.str (U8 (nsB nm))) (by exact hsj) ?_
   (repeat show _∧_;first|refine yr ?_|refine yt ?_|refine yf ?_|refine yo ?_)
   refine call_same (fn_qmember hx (nsB nm) 3#8) [0] rfl (by (repeat first|exact trivial|refine ent1 ?_)) (by (repeat first|exact trivial|refine ent1 ?_)) (fun _ _=>trivial) ?_
   rintro y hs ⟨rfl,hm⟩
   rw [hdr] at hnu
   cases hz:memJ v (nsB nm) 3#8 with
   | none =>
    rw [hz] at hm
    obtain rfl:y=_:=hm
    rw [nums_bad hz] at hnu
    rw [show nums v (l.map nsB)=none from hnu] at hfm
    rw [show fillM k v=none from hfm]
    (repeat show _∧_;first|refine yr ?_|refine yt ?_|refine yf ?_|refine yo ?_)
    exact FinW.of ⟨.a (.c (.bool false)),_,⟨[0,1],⟨rfl,rfl,rfl⟩,by (repeat first|exact trivial|refine ent1 ?_)⟩,rfl,rfl⟩
   | some z =>
   rw [hz] at hm
   obtain ⟨xz,hxz,rfl⟩:=hm
   rw [nums_ok hz,Option.map_map] at hnu
   (repeat show _∧_;first|refine yr ?_|refine yt ?_|refine yf ?_|refine yo ?_)
   refine ⟨none,[],[(0,true),(1,true),(2,true),(3,true),(4,true),(5,true),(6,true),(7,false)],[8,9,10,11],by kernel_rfl,?_⟩
   (repeat show _∧_;first|refine yr ?_|refine yt ?_|refine yf ?_|refine yo ?_)
   refine And.intro ⟨hc,by simp only [scale]; omega,by show (N.length+1)*8≤140737488355328; omega⟩ ?_
   intro c1 hc1
   (repeat show _∧_;first|refine yr ?_|refine yt ?_|refine yf ?_|refine yo ?_)
   refine ⟨(j+1,N++[z.n],some c1),[0,1,2,3,4,8],⟨⟨rfl,rfl,rfl⟩,?_⟩,⟨hj,by omega,by rw [List.length_append,hNl]; rfl,by rw [List.length_append]; exact hc1,by rw [hnu]; congr 1; funext l; simp⟩,by dsimp only; omega⟩
   dsimp only
   (repeat first|exact trivial|refine ent1 ?_)
   refine And.intro (show N.length+1=_ by rw [List.length_append]; rfl) ?_
   (repeat first|exact trivial|refine ent1 ?_)
   refine ⟨fun j hj=>eqC_strs l hj,?_⟩
   (repeat first|exact trivial|refine ent1 ?_)
   exact ⟨fun j hj=>eqC_nums (fun j x h=>app_nums rfl (fun j x h=>nums_get h) rfl j x h) j,by (repeat first|exact trivial|refine ent1 ?_)⟩
 ·rw [hd] at hdn hfm
  have hm9:(dataNs k).length=l.length+1:=by rw [hdn,if_pos rfl]
  (repeat show _∧_;first|refine yr ?_|refine yt ?_|refine yf ?_|refine yo ?_)
  refine call_same (fn_qhas hx (l.length+1)) [0] rfl (by (repeat first|exact trivial|refine ent1 ?_)) (by (repeat first|exact trivial|refine ent1 ?_)) (fun _ _=>trivial) ?_
  rintro y hs ⟨rfl,rfl⟩
  rw [hm9] at hfm
  cases hh:hasJ v (l.length+1)
  ·rw [hh,if_pos rfl] at hfm
   rw [hfm]
   (repeat show _∧_;first|refine yr ?_|refine yt ?_|refine yf ?_|refine yo ?_)
   exact FinW.of ⟨.a (.c (.bool false)),_,⟨[0,1],⟨rfl,rfl,rfl⟩,by (repeat first|exact trivial|refine ent1 ?_)⟩,rfl,rfl⟩
  rw [hh,if_neg (by decide)] at hfm
  cases l with
  | nil =>
   (repeat show _∧_;first|refine yr ?_|refine yt ?_|refine yf ?_|refine yo ?_)
   refine .inr ⟨1,?_⟩
   (repeat show _∧_;first|refine yr ?_|refine yt ?_|refine yf ?_|refine yo ?_)
   have hfm:fillM k v=(match (some []:Option (List (BitVec 64))) with
     | none=>none
     | some N=>if true=true then match memJ v idB 4#8 with
       | none=>none
       | some x=>(unhex x.s).map fun D=>(N,D)
      else some (N,[])):=hfm
   dsimp only at hfm
   rw [if_pos rfl] at hfm
   (repeat show _∧_;first|refine yr ?_|refine yt ?_|refine yf ?_|refine yo ?_)
   refine call_same (fn_qmember hx idB 4#8) [0] rfl (by (repeat first|exact trivial|refine ent1 ?_)) (by (repeat first|exact trivial|refine ent1 ?_)) (fun _ _=>trivial) ?_
   rintro y hs ⟨rfl,hm⟩
   cases hz:memJ v idB 4#8 with
   | none =>
    rw [hz] at hm hfm
    obtain rfl:y=_:=hm
    rw [show fillM k v=none from hfm]
    (repeat show _∧_;first|refine yr ?_|refine yt ?_|refine yf ?_|refine yo ?_)
    exact FinW.of ⟨.a (.c (.bool false)),_,⟨[0,1],⟨rfl,rfl,rfl⟩,by (repeat first|exact trivial|refine ent1 ?_)⟩,rfl,rfl⟩
   | some z =>
   rw [hz] at hm hfm
   obtain ⟨xz,hxz,rfl⟩:=hm
   dsimp only at hfm
   have hzs:=hS z (memJ_mem hz)
   (repeat show _∧_;first|refine yr ?_|refine yt ?_|refine yf ?_|refine yo ?_)
   refine call_same (fn_qbytes z.s (by omega) (by omega)) [] rfl (by (repeat first|exact trivial|refine ent1 ?_)) trivial (fun _ _=>trivial) ?_
   intro y hs hH
   rcases hu:unhex z.s with _|_|⟨b0,D0⟩
   ·rw [hu] at hH hfm
    obtain ⟨rfl,rfl⟩:=hH
    rw [show fillM k v=none from hfm]
    (repeat show _∧_;first|refine yr ?_|refine yt ?_|refine yf ?_|refine yo ?_)
    exact FinW.of ⟨.a (.c (.bool false)),_,⟨[0,1],⟨rfl,rfl,rfl⟩,by (repeat first|exact trivial|refine ent1 ?_)⟩,rfl,rfl⟩
   ·rw [hu] at hH hfm
    obtain ⟨rfl,rfl⟩:=hH
    rw [show fillM k v=some ([],[]) from hfm]
    (repeat show _∧_;first|refine yr ?_|refine yt ?_|refine yf ?_|refine yo ?_)
    refine finW_frz [0,1] rfl (Nat.zero_lt_one) cx0_m rfl (fun W' ms' α hL hI=>?_)
    refine ⟨.a (.c (.bool true)),[evS ⟨k,t,[],[]⟩ ⟨none,0,0,none,0,0⟩],⟨⟨rfl,rfl,rfl⟩,?_⟩,rfl,⟨none,0,0,none,0,0⟩,W',ms',hL,⟨SlAt.nul,SlAt.nul⟩,rfl⟩
    (repeat first|exact trivial|refine ent1 ?_)
   ·rw [hu] at hH hfm
    obtain ⟨c2,hc2,rfl,rfl⟩:=hH
    rw [show fillM k v=some ([],b0::D0) from hfm]
    have hDl:=unhex_len hu
    (repeat show _∧_;first|refine yr ?_|refine yt ?_|refine yf ?_|refine yo ?_)
    refine finW_frz [0,1] rfl (Nat.zero_lt_one) cx0_m rfl (fun W' ms' α hL hI=>?_)
    refine ⟨.a (.c (.bool true)),[evS ⟨k,t,[],b0::D0⟩ ⟨none,0,0,some ((α 6).add (0+0)),(b0::D0).length,c2⟩],⟨⟨rfl,rfl,rfl⟩,?_⟩,rfl,⟨none,0,0,some ((α 6).add (0+0)),(b0::D0).length,c2⟩,W',ms',hL,⟨SlAt.nul,SlAt.frz (F:=fun j=>!memB j [0,1]) (hI 6 rfl) rfl hc2 (show (b0::D0).length≤9223372036854775807 by omega) (by decide) (by simp) bytes_finM (rz_w8 _)⟩,rfl⟩
    (repeat first|exact trivial|refine ent1 ?_)
  | cons nm0 l0 =>
  obtain ⟨l,hl⟩:∃ l,nm0::l0=l:=⟨_,rfl⟩
  have hl0:0<l.length:=by rw [← hl]; simp
  have hstB:stB (nm0::l0)=[.row l.length (strsF l)]:=by rw [← hl]; rfl
  have hstC:∀ i,stC i (nm0::l0)=.sn false i 0 0 l.length l.length:=by intro i; rw [← hl]; rfl
  rw [hstB,hstC,hl]
  rw [hl] at hfm hle9 hh hdn hm9
  clear hstB hstC hl
  (repeat show _∧_;first|refine yr ?_|refine yt ?_|refine yf ?_|refine yo ?_)
  refine .inl ⟨Nat × List (BitVec 64) × Option Nat,fun y=>match y with
   | (j,N,none)=>⟨[.a (.c (.p 1 0 0)),.any,.any,.a (.c (.p 2 0 0)),.a (.c (.bool (false))),.a (.c (.p 4 0 0)),.any,.any,.any,.any,.any,.any,.any,.any,.any,.any,.any,.any,.any,.any,.any,.any,.any,.any,.any,.any,.any,.any,.any,.any,.any,.any,.any,.any,.a (.c (.sn false 3 0 0 l.length l.length)),.a (.c (.int .i64 (l.length))),.a (.c (.int .i64 (((j:Nat):Int)))),.any,.any,.any,.any,.any,.any,.any,.any,.any,.any,.any,.any,.any,.any,.any,.any,.any,.any,.any,.any,.any,.any,.any,.any,.any,.any,.any,.any,.any,.any,.any,.any,.any,.any,.any,.any,.any,.any,.any,.any,.any,.any],[[.past W ms],[.one (.w8 k),.one (.w64 t),.one (.slc none 0 0),.one (.slc none 0 0)],jvS v x,[.row l.length (strsF l)],[.one (.str (evName k)),.one (.sn false 3 0 0 l.length l.length),.one (.bool true)]]⟩
   | (j,N,some c)=>⟨[.a (.c (.p 1 0 0)),.any,.any,.a (.c (.p 2 0 0)),.a (.c (.bool (false))),.a (.c (.p 4 0 0)),.any,.any,.any,.any,.any,.any,.any,.any,.any,.any,.any,.any,.any,.any,.any,.any,.any,.any,.any,.any,.any,.any,.any,.any,.any,.any,.any,.any,.a (.c (.sn false 3 0 0 l.length l.length)),.a (.c (.int .i64 (l.length))),.a (.c (.int .i64 (((j:Nat):Int)))),.any,.any,.any,.any,.any,.any,.any,.any,.any,.any,.any,.any,.any,.any,.any,.any,.any,.any,.any,.any,.any,.any,.any,.any,.any,.any,.any,.any,.any,.any,.any,.any,.any,.any,.any,.any,.any,.any,.any,.any,.any,.any],[[.past W ms],[.one (.w8 k),.one (.w64 t),.one (.sl 5 0 0 N.length c),.one (.slc none 0 0)],jvS v x,[.row l.length (strsF l)],[.one (.str (evName k)),.one (.sn false 3 0 0 l.length l.length),.one (.bool true)],[.row c (numsF N)]]⟩,
   fun y=>match y with
   | (j,N,none)=>j=0∧N=[]
   | (j,N,some c)=>j≤l.length∧0<j∧N.length=j∧N.length≤c∧nums v (l.map nsB)=(nums v ((l.map nsB).drop j)).map (N++·),fun y=>l.length-y.1,⟨(0,[],none),[0,1,2,3,4],⟨⟨rfl,rfl,rfl⟩,?_⟩,rfl,rfl⟩,fun y hy=>?_⟩
  ·(repeat first|exact trivial|refine ent1 ?_)
   exact ⟨fun j hj=>eqC_strsM l hj,by (repeat first|exact trivial|refine ent1 ?_)⟩
  rcases y with ⟨j,N,_|c⟩
  ·obtain ⟨rfl,rfl⟩:=hy
   dsimp only
   have hj:0<l.length:=hl0
   have e1:decide (((0:Nat):Int)<(l.length:Int))=true:=decide_eq_true (by omega)
   have hdr:(l.map nsB).drop 0=nsB (l[0]'hj)::(l.map nsB).drop (0+1):=by rw [List.drop_eq_getElem_cons (by rw [List.length_map]; exact hj),List.getElem_map]
   have hsj:strsF l 0=.str (U8 (nsB (l[0]'hj))):=by rw [U8_nsB]; obtain ⟨s,h1,h2⟩:=nthC_str l 0 hj; rw [List.getElem?_eq_getElem hj] at h2; injection h2 with h2; rw [h2]; exact h1
   generalize (l[0]'hj)=nm at hdr hsj
   (repeat show _∧_;first|refine yr ?_|refine yt ?_|refine yf ?_|refine ya e1 ?_|refine yb e1 ?_|refine yo ?_)
   refine frc_atQ (y:=.str (U8 (nsB nm))) (by exact hsj) ?_
   (repeat show _∧_;first|refine yr ?_|refine yt ?_|refine yf ?_|refine yo ?_)
   refine call_same (fn_qmember hx (nsB nm) 3#8) [0] rfl (by (repeat first|exact trivial|refine ent1 ?_)) (by (repeat first|exact trivial|refine ent1 ?_)) (fun _ _=>trivial) ?_
   rintro y hs ⟨rfl,hm⟩
   have hnu:nums v (l.map nsB)=(nums v ((l.map nsB).drop 0)).map ([]++·):=by rw [List.drop_zero]; simp
   rw [hdr] at hnu
   cases hz:memJ v (nsB nm) 3#8 with
   | none =>
    rw [hz] at hm
    obtain rfl:y=_:=hm
    rw [nums_bad hz] at hnu
    rw [show nums v (l.map nsB)=none from hnu] at hfm
    rw [show fillM k v=none from hfm]
    (repeat show _∧_;first|refine yr ?_|refine yt ?_|refine yf ?_|refine yo ?_)
    exact FinW.of ⟨.a (.c (.bool false)),_,⟨[0,1],⟨rfl,rfl,rfl⟩,by (repeat first|exact trivial|refine ent1 ?_)⟩,rfl,rfl⟩
   | some z =>
   rw [hz] at hm
   obtain ⟨xz,hxz,rfl⟩:=hm
   rw [nums_ok hz,Option.map_map] at hnu
   (repeat show _∧_;first|refine yr ?_|refine yt ?_|refine yf ?_|refine yo ?_)
   refine ⟨none,[],[(0,true),(1,true),(2,true),(3,true),(4,true),(5,true),(6,true),(7,false)],[8,9,10,11],by kernel_rfl,?_⟩
   (repeat show _∧_;first|refine yr ?_|refine yt ?_|refine yf ?_|refine yo ?_)
   intro c1 hc1
   (repeat show _∧_;first|refine yr ?_|refine yt ?_|refine yf ?_|refine yo ?_)
   refine ⟨(1,[z.n],some c1),[0,1,2,3,4,7],⟨⟨rfl,rfl,rfl⟩,?_⟩,⟨hl0,Nat.zero_lt_one,rfl,hc1,hnu⟩,by dsimp only; omega⟩
   dsimp only
   (repeat first|exact trivial|refine ent1 ?_)
   refine ⟨fun j hj=>eqC_strs l hj,?_⟩
   (repeat first|exact trivial|refine ent1 ?_)
   exact ⟨fun j hj=>eqC_nums (fun j x h=>new_nums rfl j x h) j,by (repeat first|exact trivial|refine ent1 ?_)⟩
  ·obtain ⟨hj0,hjp,hNl,hc,hnu⟩:=hy
   dsimp only
   by_cases hj:j<l.length
   rotate_left
   ·have e1:decide ((j:Int)<(l.length:Int))=false:=decide_eq_false (by omega)
    rw [List.drop_eq_nil_of_le (by rw [List.length_map]; omega)] at hnu
    have hnu:nums v (l.map nsB)=some N:=by rw [hnu]; show some (N++[])=some N; rw [List.append_nil]
    rw [hnu] at hfm
    dsimp only at hfm
    (repeat show _∧_;first|refine yr ?_|refine yt ?_|refine yf ?_|refine ya e1 ?_|refine yb e1 ?_|refine yo ?_)
    rw [if_pos rfl] at hfm
    (repeat show _∧_;first|refine yr ?_|refine yt ?_|refine yf ?_|refine yo ?_)
    refine call_same (fn_qmember hx idB 4#8) [0] rfl (by (repeat first|exact trivial|refine ent1 ?_)) (by (repeat first|exact trivial|refine ent1 ?_)) (fun _ _=>trivial) ?_
    rintro y hs ⟨rfl,hm⟩
    cases hz:memJ v idB 4#8 with
    | none =>
     rw [hz] at hm hfm
     obtain rfl:y=_:=hm
     rw [show fillM k v=none from hfm]
     (repeat show _∧_;first|refine yr ?_|refine yt ?_|refine yf ?_|refine yo ?_)
     exact FinW.of ⟨.a (.c (.bool false)),_,⟨[0,1],⟨rfl,rfl,rfl⟩,by (repeat first|exact trivial|refine ent1 ?_)⟩,rfl,rfl⟩
    | some z =>
    rw [hz] at hm hfm
    obtain ⟨xz,hxz,rfl⟩:=hm
    dsimp only at hfm
    have hzs:=hS z (memJ_mem hz)
    (repeat show _∧_;first|refine yr ?_|refine yt ?_|refine yf ?_|refine yo ?_)
    refine call_same (fn_qbytes z.s (by omega) (by omega)) [] rfl (by (repeat first|exact trivial|refine ent1 ?_)) trivial (fun _ _=>trivial) ?_
    intro y hs hH
    rcases hu:unhex z.s with _|_|⟨b0,D0⟩
    ·rw [hu] at hH hfm
     obtain ⟨rfl,rfl⟩:=hH
     rw [show fillM k v=none from hfm]
     (repeat show _∧_;first|refine yr ?_|refine yt ?_|refine yf ?_|refine yo ?_)
     exact FinW.of ⟨.a (.c (.bool false)),_,⟨[0,1],⟨rfl,rfl,rfl⟩,by (repeat first|exact trivial|refine ent1 ?_)⟩,rfl,rfl⟩
    ·rw [hu] at hH hfm
     obtain ⟨rfl,rfl⟩:=hH
     rw [show fillM k v=some (N,[]) from hfm]
     (repeat show _∧_;first|refine yr ?_|refine yt ?_|refine yf ?_|refine yo ?_)
     refine finW_frz [0,1] rfl (Nat.zero_lt_one) cx0_m rfl (fun W' ms' α hL hI=>?_)
     refine ⟨.a (.c (.bool true)),[evS ⟨k,t,N,[]⟩ ⟨some ((α 5).add (0+0)),N.length,c,none,0,0⟩],⟨⟨rfl,rfl,rfl⟩,?_⟩,rfl,⟨some ((α 5).add (0+0)),N.length,c,none,0,0⟩,W',ms',hL,⟨SlAt.frz (F:=fun j=>!memB j [0,1]) (hI 5 rfl) rfl hc (show N.length≤9223372036854775807 by omega) (by decide) (by simp) nums_fin (rz_w64 _),SlAt.nul⟩,rfl⟩
     (repeat first|exact trivial|refine ent1 ?_)
    ·rw [hu] at hH hfm
     obtain ⟨c2,hc2,rfl,rfl⟩:=hH
     rw [show fillM k v=some (N,b0::D0) from hfm]
     have hDl:=unhex_len hu
     (repeat show _∧_;first|refine yr ?_|refine yt ?_|refine yf ?_|refine yo ?_)
     refine finW_frz [0,1] rfl (Nat.zero_lt_one) cx0_m rfl (fun W' ms' α hL hI=>?_)
     refine ⟨.a (.c (.bool true)),[evS ⟨k,t,N,b0::D0⟩ ⟨some ((α 5).add (0+0)),N.length,c,some ((α 7).add (0+0)),(b0::D0).length,c2⟩],⟨⟨rfl,rfl,rfl⟩,?_⟩,rfl,⟨some ((α 5).add (0+0)),N.length,c,some ((α 7).add (0+0)),(b0::D0).length,c2⟩,W',ms',hL,⟨SlAt.frz (F:=fun j=>!memB j [0,1]) (hI 5 rfl) rfl hc (show N.length≤9223372036854775807 by omega) (by decide) (by simp) nums_fin (rz_w64 _),SlAt.frz (F:=fun j=>!memB j [0,1]) (hI 7 rfl) rfl hc2 (show (b0::D0).length≤9223372036854775807 by omega) (by decide) (by simp) bytes_finM (rz_w8 _)⟩,rfl⟩
     (repeat first|exact trivial|refine ent1 ?_)
   have e1:decide (((j:Nat):Int)<(l.length:Int))=true:=decide_eq_true (by omega)
   have hdr:(l.map nsB).drop j=nsB (l[j]'hj)::(l.map nsB).drop (j+1):=by rw [List.drop_eq_getElem_cons (by rw [List.length_map]; exact hj),List.getElem_map]
   have hsj:strsF l j=.str (U8 (nsB (l[j]'hj))):=by rw [U8_nsB]; obtain ⟨s,h1,h2⟩:=nthC_str l j hj; rw [List.getElem?_eq_getElem hj] at h2; injection h2 with h2; rw [h2]; exact h1
   generalize (l[j]'hj)=nm at hdr hsj
   (repeat show _∧_;first|refine yr ?_|refine yt ?_|refine yf ?_|refine ya e1 ?_|refine yb e1 ?_|refine yo ?_)
   refine frc_atQ (y:=.str (U8 (nsB nm))) (by exact hsj) ?_
   (repeat show _∧_;first|refine yr ?_|refine yt ?_|refine yf ?_|refine yo ?_)
   refine call_same (fn_qmember hx (nsB nm) 3#8) [0] rfl (by (repeat first|exact trivial|refine ent1 ?_)) (by (repeat first|exact trivial|refine ent1 ?_)) (fun _ _=>trivial) ?_
   rintro y hs ⟨rfl,hm⟩
   rw [hdr] at hnu
   cases hz:memJ v (nsB nm) 3#8 with
   | none =>
    rw [hz] at hm
    obtain rfl:y=_:=hm
    rw [nums_bad hz] at hnu
    rw [show nums v (l.map nsB)=none from hnu] at hfm
    rw [show fillM k v=none from hfm]
    (repeat show _∧_;first|refine yr ?_|refine yt ?_|refine yf ?_|refine yo ?_)
    exact FinW.of ⟨.a (.c (.bool false)),_,⟨[0,1],⟨rfl,rfl,rfl⟩,by (repeat first|exact trivial|refine ent1 ?_)⟩,rfl,rfl⟩
   | some z =>
   rw [hz] at hm
   obtain ⟨xz,hxz,rfl⟩:=hm
   rw [nums_ok hz,Option.map_map] at hnu
   (repeat show _∧_;first|refine yr ?_|refine yt ?_|refine yf ?_|refine yo ?_)
   refine ⟨none,[],[(0,true),(1,true),(2,true),(3,true),(4,true),(5,true),(6,true),(7,false)],[8,9,10,11],by kernel_rfl,?_⟩
   (repeat show _∧_;first|refine yr ?_|refine yt ?_|refine yf ?_|refine yo ?_)
   refine And.intro ⟨hc,by simp only [scale]; omega,by show (N.length+1)*8≤140737488355328; omega⟩ ?_
   intro c1 hc1
   (repeat show _∧_;first|refine yr ?_|refine yt ?_|refine yf ?_|refine yo ?_)
   refine ⟨(j+1,N++[z.n],some c1),[0,1,2,3,4,8],⟨⟨rfl,rfl,rfl⟩,?_⟩,⟨hj,by omega,by rw [List.length_append,hNl]; rfl,by rw [List.length_append]; exact hc1,by rw [hnu]; congr 1; funext l; simp⟩,by dsimp only; omega⟩
   dsimp only
   (repeat first|exact trivial|refine ent1 ?_)
   refine And.intro (show N.length+1=_ by rw [List.length_append]; rfl) ?_
   (repeat first|exact trivial|refine ent1 ?_)
   refine ⟨fun j hj=>eqC_strs l hj,?_⟩
   (repeat first|exact trivial|refine ent1 ?_)
   exact ⟨fun j hj=>eqC_nums (fun j x h=>app_nums rfl (fun j x h=>nums_get h) rfl j x h) j,by (repeat first|exact trivial|refine ent1 ?_)⟩
end Sx
end
section
namespace Sx
open Go.RowKit Sha Vi Js Ev Qj

def ev0:Ev:=⟨0#8,0#64,[],[]⟩
def ec0:EvC:=⟨none,0,0,none,0,0⟩
def EvA (W:World) (ms:List Nat) (o:Ev ⊕ Int) (y:SV) (hs:List (List Seg)):Prop:=match o with
 | .inr c=>c≠0∧∃ W' ms',Later W ms W' ms'∧y=.tup [.agg (evS ev0 ec0),.c (.int .i64 c)]∧hs=[[.past W' ms']]
 | .inl e=>∃ x W' ms',Later W ms W' ms'∧EvAt W' ms' x e∧y=.tup [.agg (evS e x),.c (.int .i64 0)]∧hs=[[.past W' ms']]
theorem MemA.gen {W:World} {ms:List Nat} {d:Nat} {o:Option JT} {y:SV} {hs:List (List Seg)} (h:MemA W ms d o y hs):hs=[[.past W ms]]∧∃ v x b,y=.tup [.agg (jvS v x),.c (.bool b)]∧(b=true→o=some v∧TAt W ms d v x)∧(b=false→o=none):=by
 obtain ⟨h1,h2⟩:=h
 refine ⟨h1,?_⟩
 cases o with
 | none=>exact ⟨_,_,false,h2,fun h=>Bool.noConfusion h,fun _=>rfl⟩
 | some v =>
  obtain ⟨x,hx,hy⟩:=h2
  exact ⟨v,x,true,hy,fun _=>⟨rfl,hx⟩,fun h=>Bool.noConfusion h⟩
def Shrt (n:Nat):Nat→JT→Prop
 | 0,v=>v.s.length≤n
 | d+1,v=>v.s.length≤n∧∀ x∈v.l,Shrt n d x
theorem Shrt.s {n:Nat}:∀ {d:Nat} {v:JT},Shrt n d v→v.s.length≤n
 | 0,_,h=>h
 | _+1,_,h=>h.1
theorem evOf_no {v:JT} (h:hasJ v 3=false∨memJ v timeB 3#8=none∨memJ v nameB 4#8=none∨memJ v dataB 6#8=none):evOf v=.inr 4:=by
 unfold evOf
 rcases h with h|h|h|h
 ·split
  ·rw [if_pos h]
  ·rfl
 ·rw [h]
 ·rw [h]; cases memJ v timeB 3#8 <;> rfl
 ·rw [h]; cases memJ v timeB 3#8 <;> cases memJ v nameB 4#8 <;> rfl
set_option maxRecDepth 20000 in
set_option maxHeartbeats 16000000 in
theorem fn_qevent {d:Nat} {W:World} {ms:List Nat} {v:JT} {x:JC} (hx:TAt W ms (d+2) v x) (hS:Shrt 4194304 2 v):FnR Tryd.prog tds 14 1 [[.past W ms]] [.agg (jvS v x)] (fun _=>True) (EvA W ms (evOf v)):=by
 refine fn_of_bodyW tds_ok follows_ Tryd.func14 rfl (t:=.a (.agg (jvS v x))::anys (Tryd.f14.ntmps-1)) rfl (fun w r0 hr0 _=>?_)
 obtain ⟨x0,rfl⟩:=len1' hr0
 (repeat show _∧_;first|refine yr ?_|refine yt ?_|refine yf ?_|refine yo ?_)
 refine call_same (fn_qmember hx timeB 3#8) [0] rfl (by (repeat first|exact trivial|refine ent1 ?_)) (by (repeat first|exact trivial|refine ent1 ?_)) (fun _ _=>trivial) ?_
 intro y hs h
 obtain ⟨rfl,v1,x1,b1,rfl,h1,h1'⟩:=h.gen
 clear h
 (repeat show _∧_;first|refine yr ?_|refine yt ?_|refine yf ?_|refine yo ?_)
 refine call_same (fn_qmember hx nameB 4#8) [0] rfl (by (repeat first|exact trivial|refine ent1 ?_)) (by (repeat first|exact trivial|refine ent1 ?_)) (fun _ _=>trivial) ?_
 intro y hs h
 obtain ⟨rfl,v2,x2,b2,rfl,h2,h2'⟩:=h.gen
 clear h
 (repeat show _∧_;first|refine yr ?_|refine yt ?_|refine yf ?_|refine yo ?_)
 refine call_same (fn_qmember hx dataB 6#8) [0] rfl (by (repeat first|exact trivial|refine ent1 ?_)) (by (repeat first|exact trivial|refine ent1 ?_)) (fun _ _=>trivial) ?_
 intro y hs h
 obtain ⟨rfl,v3,x3,b3,rfl,h3,h3'⟩:=h.gen
 clear h
 (repeat show _∧_;first|refine yr ?_|refine yt ?_|refine yf ?_|refine yo ?_)
 refine call_same (fn_qhas hx 3) [0] rfl (by (repeat first|exact trivial|refine ent1 ?_)) (by (repeat first|exact trivial|refine ent1 ?_)) (fun _ _=>trivial) ?_
 rintro y hs ⟨rfl,rfl⟩
 cases hh:hasJ v 3
 ·rw [evOf_no (.inl hh)]
  (repeat show _∧_;first|refine yr ?_|refine yt ?_|refine yf ?_|refine yo ?_)
  (repeat show _∧_;first|refine yr ?_|refine yt ?_|refine yf ?_|refine yo ?_)
  exact FinW.of ⟨.tup [.agg (evS ev0 ec0),.c (.int .i64 4)],_,⟨[0],⟨rfl,rfl,rfl⟩,by (repeat first|exact trivial|refine ent1 ?_)⟩,by decide,W,ms,Later.refl _ _,rfl,rfl⟩
 cases b1
 ·rw [evOf_no (.inr (.inl (h1' rfl)))]
  (repeat show _∧_;first|refine yr ?_|refine yt ?_|refine yf ?_|refine yo ?_)
  (repeat show _∧_;first|refine yr ?_|refine yt ?_|refine yf ?_|refine yo ?_)
  exact FinW.of ⟨.tup [.agg (evS ev0 ec0),.c (.int .i64 4)],_,⟨[0],⟨rfl,rfl,rfl⟩,by (repeat first|exact trivial|refine ent1 ?_)⟩,by decide,W,ms,Later.refl _ _,rfl,rfl⟩
 cases b2
 ·rw [evOf_no (.inr (.inr (.inl (h2' rfl))))]
  (repeat show _∧_;first|refine yr ?_|refine yt ?_|refine yf ?_|refine yo ?_)
  (repeat show _∧_;first|refine yr ?_|refine yt ?_|refine yf ?_|refine yo ?_)
  exact FinW.of ⟨.tup [.agg (evS ev0 ec0),.c (.int .i64 4)],_,⟨[0],⟨rfl,rfl,rfl⟩,by (repeat first|exact trivial|refine ent1 ?_)⟩,by decide,W,ms,Later.refl _ _,rfl,rfl⟩
 cases b3
 ·rw [evOf_no (.inr (.inr (.inr (h3' rfl))))]
  (repeat show _∧_;first|refine yr ?_|refine yt ?_|refine yf ?_|refine yo ?_)
  (repeat show _∧_;first|refine yr ?_|refine yt ?_|refine yf ?_|refine yo ?_)
  exact FinW.of ⟨.tup [.agg (evS ev0 ec0),.c (.int .i64 4)],_,⟨[0],⟨rfl,rfl,rfl⟩,by (repeat first|exact trivial|refine ent1 ?_)⟩,by decide,W,ms,Later.refl _ _,rfl,rfl⟩
 obtain ⟨m1,t1⟩:=h1 rfl
 obtain ⟨m2,t2⟩:=h2 rfl
 obtain ⟨m3,t3⟩:=h3 rfl
 have hE:evOf v=match namedM v2.s with
   | none=>.inr 5
   | some k=>match fillM k v3 with
    | none=>.inr 4
    | some (N,D)=>if checkM ⟨k,v1.n,N,D⟩=0 then .inl ⟨k,v1.n,N,D⟩ else .inr (checkM ⟨k,v1.n,N,D⟩):=by
  unfold evOf
  rw [m1,m2,m3]
  dsimp only
  rw [hh,if_neg (by decide)]
  rfl
 (repeat show _∧_;first|refine yr ?_|refine yt ?_|refine yf ?_|refine yo ?_)
 (repeat show _∧_;first|refine yr ?_|refine yt ?_|refine yf ?_|refine yo ?_)
 refine call_same (fn_enamed v2.s) [] rfl (by (repeat first|exact trivial|refine ent1 ?_)) trivial (fun _ _=>trivial) ?_
 rintro y hs ⟨rfl,rfl⟩
 cases hn:namedM v2.s with
 | none =>
  rw [hn] at hE
  rw [hE]
  (repeat show _∧_;first|refine yr ?_|refine yt ?_|refine yf ?_|refine yo ?_)
  (repeat show _∧_;first|refine yr ?_|refine yt ?_|refine yf ?_|refine yo ?_)
  exact FinW.of ⟨.tup [.agg (evS ev0 ec0),.c (.int .i64 5)],_,⟨[0],⟨rfl,rfl,rfl⟩,by (repeat first|exact trivial|refine ent1 ?_)⟩,by decide,W,ms,Later.refl _ _,rfl,rfl⟩
 | some k =>
 rw [hn] at hE
 dsimp only at hE
 have q1:(!(some k:Option (BitVec 8)).isSome)=false:=rfl
 (repeat show _∧_;first|refine yr ?_|refine yt ?_|refine yf ?_|refine ya q1 ?_|refine yb q1 ?_|refine yo ?_)
 (repeat show _∧_;first|refine yr ?_|refine yt ?_|refine yf ?_|refine ya q1 ?_|refine yb q1 ?_|refine yo ?_)
 have hv3:v3∈v.l:=memJ_mem m3
 cases hF:fillM k v3 with
 | none =>
  rw [hF] at hE
  rw [hE]
  refine call_past (fn_qfill t3 (fun y hy=>((hS.2 v3 hv3).2 y hy).s) k v1.n) 0 [6] rfl rfl (by (repeat first|exact trivial|refine ent1 ?_)) (by (repeat first|exact trivial|refine ent1 ?_)) (fun _ _=>trivial) (fun x hs hr=>?_) ?_
  ·rw [hF] at hr
   obtain ⟨_,rfl⟩:=hr
   exact ⟨W,ms,rfl,Later.refl _ _⟩
  intro y hs hr
  rw [hF] at hr
  obtain ⟨rfl,rfl⟩:=hr
  (repeat show _∧_;first|refine yr ?_|refine yt ?_|refine yf ?_|refine yo ?_)
  (repeat show _∧_;first|refine yr ?_|refine yt ?_|refine yf ?_|refine yo ?_)
  exact FinW.of ⟨.tup [.agg (evS ev0 ec0),.c (.int .i64 4)],_,⟨[0],⟨rfl,rfl,rfl⟩,by (repeat first|exact trivial|refine ent1 ?_)⟩,by decide,W,ms,Later.refl _ _,rfl,rfl⟩
 | some ND =>
 obtain ⟨N,D⟩:=ND
 rw [hF] at hE
 dsimp only at hE
 refine call_past (fn_qfill t3 (fun y hy=>((hS.2 v3 hv3).2 y hy).s) k v1.n) 0 [6] rfl rfl (by (repeat first|exact trivial|refine ent1 ?_)) (by (repeat first|exact trivial|refine ent1 ?_)) (fun _ _=>trivial) (fun x hs hr=>?_) ?_
 ·rw [hF] at hr
  obtain ⟨_,x',W',ms',hL,_,rfl⟩:=hr
  exact ⟨W',ms',rfl,hL⟩
 intro y hs hr
 rw [hF] at hr
 obtain ⟨rfl,x',W',ms',hL,hev,rfl⟩:=hr
 (repeat show _∧_;first|refine yr ?_|refine yt ?_|refine yf ?_|refine yo ?_)
 (repeat show _∧_;first|refine yr ?_|refine yt ?_|refine yf ?_|refine yo ?_)
 refine call_same (fn_echeck hev) [0] rfl (by (repeat first|exact trivial|refine ent1 ?_)) (by (repeat first|exact trivial|refine ent1 ?_)) (fun _ _=>trivial) ?_
 rintro y hs ⟨rfl,rfl⟩
 by_cases hc:checkM ⟨k,v1.n,N,D⟩=0
 ·rw [if_pos hc] at hE
  rw [hE,hc]
  (repeat show _∧_;first|refine yr ?_|refine yt ?_|refine yf ?_|refine yo ?_)
  exact FinW.of ⟨.tup [.agg (evS ⟨k,v1.n,N,D⟩ x'),.c (.int .i64 0)],_,⟨[0],⟨rfl,rfl,rfl⟩,by (repeat first|exact trivial|refine ent1 ?_)⟩,x',W',ms',hL,hev,rfl,rfl⟩
 ·rw [if_neg hc] at hE
  rw [hE]
  have f1:decide (checkM ⟨k,v1.n,N,D⟩≠0)=true:=decide_eq_true hc
  (repeat show _∧_;first|refine yr ?_|refine yt ?_|refine yf ?_|refine ya f1 ?_|refine yb f1 ?_|refine yo ?_)
  exact FinW.of ⟨.tup [.agg (evS ev0 ec0),.c (.int .i64 (checkM ⟨k,v1.n,N,D⟩))],_,⟨[0],⟨rfl,rfl,rfl⟩,by (repeat first|exact trivial|refine ent1 ?_)⟩,hc,W',ms',hL,rfl,rfl⟩
end Sx
end
section
namespace Sx
open Go.RowKit Sha Vi Js Ev Qj

theorem jv_raw (v:JT) (x:JC):∀ y∈flat (jvS v x),y.raw=y:=fun y hy=>by
 rw [flat_jvS] at hy
 simp only [List.mem_cons,List.not_mem_nil,or_false] at hy
 rcases hy with rfl|rfl|rfl|rfl|rfl <;> rfl
theorem eqJ_app {q:List Nat} {cs D:List SC} (hr:∀ x∈cs,x.raw=x) {f:Nat→SC} (hf:∀ j,j<(cs++D).length→f j=nthC (cs++D) j) (hD:∀ i,i<D.length→eqC q (nthC D i) (nthC D i) True) (j:Nat):eqC q (f j) (nthC (cs++D) j) True:=by
 rcases Nat.lt_or_ge j (cs++D).length with hj|hj
 ·rw [hf j hj]
  rcases Nat.lt_or_ge j cs.length with h|h
  ·rw [nthJ_l h]; exact eqJ_raw (hr _ (nthJ_mem h))
  ·rw [nthJ_r h]; exact hD _ (by rw [List.length_append] at hj; omega)
 ·rw [nthJ_out hj]; trivial
set_option maxRecDepth 20000 in
set_option maxHeartbeats 8000000 in
theorem fn_qadd0 (v:JT) (x:JC) (s:Bs):Fn Tryd.prog tds 31 [vo0] [.c (.p 0 0 0),.c (.str (U8 s)),.agg (jvS v x)] (fun _=>True)
  (fun y hs=>∃ c e,1≤c∧1≤e∧y=.tup []∧hs=[vo1 1 1 c 2 1 e,[.row (scale c (4+1)) (nthC (flat (jvS v x)))],[.row (scale e (0+1)) (nthC (nmJ [s]))]]):=by
 refine fn_of_body tds_ok follows_ Tryd.func31 rfl (t:=.a (.c (.p 0 0 0))::.a (.c (.str (U8 s)))::.a (.agg (jvS v x))::anys (Tryd.f31.ntmps-3)) rfl (fun w r0 hr0 _=>?_)
 obtain ⟨x0,rfl⟩:∃ x0,r0=[x0]:=by
  match r0,hr0 with
  | [y0],_=>exact ⟨_,rfl⟩
 (repeat show _∧_;first|refine yr ?_|refine yt ?_|refine yf ?_|refine yo ?_)
 refine ⟨some [0,1],[1001,1000,1001,1002,1003,1004,1005,1006,1009,1010,1011,1012,1013,3,7,14,3,8,14,2014,2015,0,2008,2015,0,2007,2008,2015,0],[(0,true),(1,true),(2,true),(3,true),(4,true),(5,true),(6,true),(7,false),(8,false),(9,true),(10,true),(11,true),(12,true),(13,true),(14,false),(15,false)],[16,17,18,19,20,21],by kernel_rfl,?_⟩
 (repeat show _∧_;first|refine yr ?_|refine yt ?_|refine yf ?_|refine yo ?_)
 refine And.intro (And.intro ?_ ?_) ?_
 ·(repeat show _∧_;first|refine yr ?_|refine yt ?_|refine yf ?_|refine yo ?_)
  intro e2 he2
  refine And.intro rfl ?_
  refine And.intro (show 0+5≤5 by decide) ?_
  (repeat show _∧_;first|refine yr ?_|refine yt ?_|refine yf ?_|refine yo ?_)
  intro c2 hc2
  (repeat show _∧_;first|refine yr ?_|refine yt ?_|refine yf ?_|refine yo ?_)
  refine ⟨.tup [],_,⟨[0,5,3],⟨rfl,rfl,rfl⟩,?_⟩,c2,e2,hc2,he2,rfl,rfl⟩
  (repeat first|exact trivial|refine ent1 ?_)
  refine And.intro (fun j hj=>eqJ_cs (jv_raw v x) (newJ_cs (m:=1) (sz:=4) rfl fun j hj=>updJ_new hj) j) ?_
  (repeat first|exact trivial|refine ent1 ?_)
  exact ⟨fun j hj=>eqJ_cs (nmL_raw _) (fun j hj=>nmL_newrow j hj) j,by (repeat first|exact trivial|refine ent1 ?_)⟩
 ·refine And.intro rfl ?_
  refine And.intro (show 0+5≤5 by decide) ?_
  (repeat show _∧_;first|refine yr ?_|refine yt ?_|refine yf ?_|refine yo ?_)
  intro e2 he2
  (repeat show _∧_;first|refine yr ?_|refine yt ?_|refine yf ?_|refine yo ?_)
  intro c2 hc2
  (repeat show _∧_;first|refine yr ?_|refine yt ?_|refine yf ?_|refine yo ?_)
  refine ⟨.tup [],_,⟨[0,5,4],⟨rfl,rfl,rfl⟩,?_⟩,c2,e2,hc2,he2,rfl,rfl⟩
  (repeat first|exact trivial|refine ent1 ?_)
  refine And.intro (fun j hj=>eqJ_cs (jv_raw v x) (newJ_cs (m:=1) (sz:=4) rfl fun j hj=>updJ_new hj) j) ?_
  (repeat first|exact trivial|refine ent1 ?_)
  exact ⟨fun j hj=>eqJ_cs (nmL_raw _) (fun j hj=>nmL_newrow j hj) j,by (repeat first|exact trivial|refine ent1 ?_)⟩
 ·refine And.intro rfl ?_
  refine And.intro (show 0+5≤5 by decide) ?_
  (repeat show _∧_;first|refine yr ?_|refine yt ?_|refine yf ?_|refine yo ?_)
  intro e2 he2
  (repeat show _∧_;first|refine yr ?_|refine yt ?_|refine yf ?_|refine yo ?_)
  intro c2 hc2
  (repeat show _∧_;first|refine yr ?_|refine yt ?_|refine yf ?_|refine yo ?_)
  refine ⟨.tup [],_,⟨[0,5,4],⟨rfl,rfl,rfl⟩,?_⟩,c2,e2,hc2,he2,rfl,rfl⟩
  (repeat first|exact trivial|refine ent1 ?_)
  refine And.intro (fun j hj=>eqJ_cs (jv_raw v x) (newJ_cs (m:=1) (sz:=4) rfl fun j hj=>updJ_new hj) j) ?_
  (repeat first|exact trivial|refine ent1 ?_)
  exact ⟨fun j hj=>eqJ_cs (nmL_raw _) (fun j hj=>nmL_newrow j hj) j,by (repeat first|exact trivial|refine ent1 ?_)⟩
set_option maxRecDepth 20000 in
set_option maxHeartbeats 8000000 in
theorem fn_qadd1 (cs:List SC) (ns:List Bs) (m c e:Nat) (hr:∀ x∈cs,x.raw=x) (hl:cs.length=m*5) (hn:ns.length=m) (hc:m≤c) (he:m≤e) (hm:m≤1000000) (v:JT) (x:JC) (s:Bs):Fn Tryd.prog tds 31 [vo1 1 m c 2 m e,[.row (scale c (4+1)) (nthC cs)],[.row (scale e (0+1)) (nthC (nmJ ns))]] [.c (.p 0 0 0),.c (.str (U8 s)),.agg (jvS v x)] (fun _=>True)
  (fun y hs=>∃ c' e',m+1≤c'∧m+1≤e'∧y=.tup []∧hs=[vo1 3 (m+1) c' 4 (m+1) e',[],[],[.row (scale c' (4+1)) (nthC (cs++(flat (jvS v x))))],[.row (scale e' (0+1)) (nthC (nmJ (ns++[s])))]]):=by
 refine fn_of_body tds_ok follows_ Tryd.func31 rfl (t:=.a (.c (.p 0 0 0))::.a (.c (.str (U8 s)))::.a (.agg (jvS v x))::anys (Tryd.f31.ntmps-3)) rfl (fun w r0 hr0 _=>?_)
 obtain ⟨x0,x1,x2,rfl⟩:∃ x0 x1 x2,r0=[x0,x1,x2]:=by
  match r0,hr0 with
  | [y0,y1,y2],_=>exact ⟨_,_,_,rfl⟩
 (repeat show _∧_;first|refine yr ?_|refine yt ?_|refine yf ?_|refine yo ?_)
 refine ⟨some [0,3],[1001,1000,1001,1002,1003,1004,1005,1006,1009,1010,1011,1012,1013,3,7,14,3,8,14,2014,2015,0,2008,2015,0,2007,2008,2015,0],[(0,true),(1,true),(2,true),(3,true),(4,true),(5,true),(6,true),(7,false),(8,false),(9,true),(10,true),(11,true),(12,true),(13,true),(14,false),(15,false)],[16,17,18,19,20,21],by kernel_rfl,?_⟩
 (repeat show _∧_;first|refine yr ?_|refine yt ?_|refine yf ?_|refine yo ?_)
 refine And.intro (And.intro ?_ ?_) ?_
 ·refine And.intro (show 0+scale 1 (0+1)≤1 by decide) ?_
  refine And.intro ⟨he,by rw [sc1]; omega,show (m+1)*16≤140737488355328 by omega⟩ ?_
  intro e2 he2
  refine And.intro rfl ?_
  refine And.intro (show 0+5≤5 by decide) ?_
  refine And.intro (show 0+scale 1 (4+1)≤5 by decide) ?_
  refine And.intro ⟨hc,by rw [sc5]; omega,show (m+1)*80≤140737488355328 by omega⟩ ?_
  intro c2 hc2
  (repeat show _∧_;first|refine yr ?_|refine yt ?_|refine yf ?_|refine yo ?_)
  refine ⟨.tup [],_,⟨[0,1,2,7,5],⟨rfl,rfl,rfl⟩,?_⟩,c2,e2,hc2,he2,rfl,rfl⟩
  (repeat first|exact trivial|refine ent1 ?_)
  refine And.intro (fun j hj=>eqJ_cs (fun y hy=>(List.mem_append.1 hy).elim (hr y) ((jv_raw v x) y)) (appJ_cs (m:=1) (sz:=4) (by rw [hl]) (fun _ _=>rfl) rfl fun j hj=>updJ_new hj) j) ?_
  (repeat first|exact trivial|refine ent1 ?_)
  exact ⟨fun j hj=>eqJ_cs (nmL_raw _) (fun j hj=>nmL_approw hn j hj) j,by (repeat first|exact trivial|refine ent1 ?_)⟩
 ·refine And.intro rfl ?_
  refine And.intro (show 0+5≤5 by decide) ?_
  refine And.intro (show 0+scale 1 (0+1)≤1 by decide) ?_
  refine And.intro ⟨he,by rw [sc1]; omega,show (m+1)*16≤140737488355328 by omega⟩ ?_
  intro e2 he2
  refine And.intro (show 0+scale 1 (4+1)≤5 by decide) ?_
  refine And.intro ⟨hc,by rw [sc5]; omega,show (m+1)*80≤140737488355328 by omega⟩ ?_
  intro c2 hc2
  (repeat show _∧_;first|refine yr ?_|refine yt ?_|refine yf ?_|refine yo ?_)
  refine ⟨.tup [],_,⟨[0,1,2,7,6],⟨rfl,rfl,rfl⟩,?_⟩,c2,e2,hc2,he2,rfl,rfl⟩
  (repeat first|exact trivial|refine ent1 ?_)
  refine And.intro (fun j hj=>eqJ_cs (fun y hy=>(List.mem_append.1 hy).elim (hr y) ((jv_raw v x) y)) (appJ_cs (m:=1) (sz:=4) (by rw [hl]) (fun _ _=>rfl) rfl fun j hj=>updJ_new hj) j) ?_
  (repeat first|exact trivial|refine ent1 ?_)
  exact ⟨fun j hj=>eqJ_cs (nmL_raw _) (fun j hj=>nmL_approw hn j hj) j,by (repeat first|exact trivial|refine ent1 ?_)⟩
 ·refine And.intro rfl ?_
  refine And.intro (show 0+5≤5 by decide) ?_
  refine And.intro (show 0+scale 1 (0+1)≤1 by decide) ?_
  refine And.intro ⟨he,by rw [sc1]; omega,show (m+1)*16≤140737488355328 by omega⟩ ?_
  intro e2 he2
  refine And.intro (show 0+scale 1 (4+1)≤5 by decide) ?_
  refine And.intro ⟨hc,by rw [sc5]; omega,show (m+1)*80≤140737488355328 by omega⟩ ?_
  intro c2 hc2
  (repeat show _∧_;first|refine yr ?_|refine yt ?_|refine yf ?_|refine yo ?_)
  refine ⟨.tup [],_,⟨[0,1,2,7,6],⟨rfl,rfl,rfl⟩,?_⟩,c2,e2,hc2,he2,rfl,rfl⟩
  (repeat first|exact trivial|refine ent1 ?_)
  refine And.intro (fun j hj=>eqJ_cs (fun y hy=>(List.mem_append.1 hy).elim (hr y) ((jv_raw v x) y)) (appJ_cs (m:=1) (sz:=4) (by rw [hl]) (fun _ _=>rfl) rfl fun j hj=>updJ_new hj) j) ?_
  (repeat first|exact trivial|refine ent1 ?_)
  exact ⟨fun j hj=>eqJ_cs (nmL_raw _) (fun j hj=>nmL_approw hn j hj) j,by (repeat first|exact trivial|refine ent1 ?_)⟩
set_option maxRecDepth 20000 in
set_option maxHeartbeats 8000000 in
theorem fn_qadd2 (cs:List SC) (ns:List Bs) (m c e:Nat) (hr:∀ x∈cs,x.raw=x) (hl:cs.length=m*5) (hn:ns.length=m) (hc:m≤c) (he:m≤e) (hm:m≤1000000) (p pc r rc:Nat) (X Y:Nat→SC) (a1 a2:Nat) (hX:∀ q j,eqC q (X j) (X j) True) (hY:∀ q j,eqC q (Y j) (Y j) True) (s:Bs):Fn Tryd.prog tds 31 [vo1 1 m c 2 m e,[.row (scale c (4+1)) (nthC cs)],[.row (scale e (0+1)) (nthC (nmJ ns))],[.row a1 X],[.row a2 Y]] [.c (.p 0 0 0),.c (.str (U8 s)),.agg ([.one (.w8 6#8),.one (.w64 0#64),.one (.str []),.one (.sl 3 0 0 p pc),.one (.sl 4 0 0 r rc)])] (fun _=>True)
  (fun y hs=>∃ c' e',m+1≤c'∧m+1≤e'∧y=.tup []∧hs=[vo1 5 (m+1) c' 6 (m+1) e',[],[],[.row a1 X],[.row a2 Y],[.row (scale c' (4+1)) (nthC (cs++[.w8 6#8,.w64 0#64,.str [],.sl 3 0 0 p pc,.sl 4 0 0 r rc]))],[.row (scale e' (0+1)) (nthC (nmJ (ns++[s])))]]):=by
 refine fn_of_body tds_ok follows_ Tryd.func31 rfl (t:=.a (.c (.p 0 0 0))::.a (.c (.str (U8 s)))::.a (.agg ([.one (.w8 6#8),.one (.w64 0#64),.one (.str []),.one (.sl 3 0 0 p pc),.one (.sl 4 0 0 r rc)]))::anys (Tryd.f31.ntmps-3)) rfl (fun w r0 hr0 _=>?_)
 obtain ⟨x0,x1,x2,x3,x4,rfl⟩:∃ x0 x1 x2 x3 x4,r0=[x0,x1,x2,x3,x4]:=by
  match r0,hr0 with
  | [y0,y1,y2,y3,y4],_=>exact ⟨_,_,_,_,_,rfl⟩
 (repeat show _∧_;first|refine yr ?_|refine yt ?_|refine yf ?_|refine yo ?_)
 refine ⟨some [0,5],[1001,1000,1001,1002,1003,1004,1005,1006,1009,1010,1011,1012,1013,3,7,14,3,8,14,2014,2015,0,2008,2015,0,2007,2008,2015,0],[(0,true),(1,true),(2,true),(3,true),(4,true),(5,true),(6,true),(7,false),(8,false),(9,true),(10,true),(11,true),(12,true),(13,true),(14,false),(15,false)],[16,17,18,19,20,21],by kernel_rfl,?_⟩
 (repeat show _∧_;first|refine yr ?_|refine yt ?_|refine yf ?_|refine yo ?_)
 refine And.intro (And.intro ?_ ?_) ?_
 ·refine And.intro (show 0+scale 1 (0+1)≤1 by decide) ?_
  refine And.intro ⟨he,by rw [sc1]; omega,show (m+1)*16≤140737488355328 by omega⟩ ?_
  intro e2 he2
  refine And.intro rfl ?_
  refine And.intro (show 0+5≤5 by decide) ?_
  refine And.intro (show 0+scale 1 (4+1)≤5 by decide) ?_
  refine And.intro ⟨hc,by rw [sc5]; omega,show (m+1)*80≤140737488355328 by omega⟩ ?_
  intro c2 hc2
  (repeat show _∧_;first|refine yr ?_|refine yt ?_|refine yf ?_|refine yo ?_)
  refine ⟨.tup [],_,⟨[0,1,2,3,4,9,7],⟨rfl,rfl,rfl⟩,?_⟩,c2,e2,hc2,he2,rfl,rfl⟩
  (repeat first|exact trivial|refine ent1 ?_)
  refine And.intro (fun j hj=>hX _ j) ?_
  (repeat first|exact trivial|refine ent1 ?_)
  refine And.intro (fun j hj=>hY _ j) ?_
  (repeat first|exact trivial|refine ent1 ?_)
  refine And.intro (fun j hj=>eqJ_app hr (appJ_cs (new:=[.w8 6#8,.w64 0#64,.str [],.sl 3 0 0 p pc,.sl 4 0 0 r rc]) (m:=1) (sz:=4) (by rw [hl]) (fun _ _=>rfl) rfl fun j hj=>updJ_new hj) (fun i hi=>?_) j) ?_
  ·match i,hi with
   | 0,_=>(repeat first|exact trivial|refine ent1 ?_)
   | 1,_=>(repeat first|exact trivial|refine ent1 ?_)
   | 2,_=>(repeat first|exact trivial|refine ent1 ?_)
   | 3,_=>(repeat first|exact trivial|refine ent1 ?_)
   | 4,_=>(repeat first|exact trivial|refine ent1 ?_)
  (repeat first|exact trivial|refine ent1 ?_)
  exact ⟨fun j hj=>eqJ_cs (nmL_raw _) (fun j hj=>nmL_approw hn j hj) j,by (repeat first|exact trivial|refine ent1 ?_)⟩
 ·refine And.intro rfl ?_
  refine And.intro (show 0+5≤5 by decide) ?_
  refine And.intro (show 0+scale 1 (0+1)≤1 by decide) ?_
  refine And.intro ⟨he,by rw [sc1]; omega,show (m+1)*16≤140737488355328 by omega⟩ ?_
  intro e2 he2
  refine And.intro (show 0+scale 1 (4+1)≤5 by decide) ?_
  refine And.intro ⟨hc,by rw [sc5]; omega,show (m+1)*80≤140737488355328 by omega⟩ ?_
  intro c2 hc2
  (repeat show _∧_;first|refine yr ?_|refine yt ?_|refine yf ?_|refine yo ?_)
  refine ⟨.tup [],_,⟨[0,1,2,3,4,9,8],⟨rfl,rfl,rfl⟩,?_⟩,c2,e2,hc2,he2,rfl,rfl⟩
  (repeat first|exact trivial|refine ent1 ?_)
  refine And.intro (fun j hj=>hX _ j) ?_
  (repeat first|exact trivial|refine ent1 ?_)
  refine And.intro (fun j hj=>hY _ j) ?_
  (repeat first|exact trivial|refine ent1 ?_)
  refine And.intro (fun j hj=>eqJ_app hr (appJ_cs (new:=[.w8 6#8,.w64 0#64,.str [],.sl 3 0 0 p pc,.sl 4 0 0 r rc]) (m:=1) (sz:=4) (by rw [hl]) (fun _ _=>rfl) rfl fun j hj=>updJ_new hj) (fun i hi=>?_) j) ?_
  ·match i,hi with
   | 0,_=>(repeat first|exact trivial|refine ent1 ?_)
   | 1,_=>(repeat first|exact trivial|refine ent1 ?_)
   | 2,_=>(repeat first|exact trivial|refine ent1 ?_)
   | 3,_=>(repeat first|exact trivial|refine ent1 ?_)
   | 4,_=>(repeat first|exact trivial|refine ent1 ?_)
  (repeat first|exact trivial|refine ent1 ?_)
  exact ⟨fun j hj=>eqJ_cs (nmL_raw _) (fun j hj=>nmL_approw hn j hj) j,by (repeat first|exact trivial|refine ent1 ?_)⟩
 ·refine And.intro rfl ?_
  refine And.intro (show 0+5≤5 by decide) ?_
  refine And.intro (show 0+scale 1 (0+1)≤1 by decide) ?_
  refine And.intro ⟨he,by rw [sc1]; omega,show (m+1)*16≤140737488355328 by omega⟩ ?_
  intro e2 he2
  refine And.intro (show 0+scale 1 (4+1)≤5 by decide) ?_
  refine And.intro ⟨hc,by rw [sc5]; omega,show (m+1)*80≤140737488355328 by omega⟩ ?_
  intro c2 hc2
  (repeat show _∧_;first|refine yr ?_|refine yt ?_|refine yf ?_|refine yo ?_)
  refine ⟨.tup [],_,⟨[0,1,2,3,4,9,8],⟨rfl,rfl,rfl⟩,?_⟩,c2,e2,hc2,he2,rfl,rfl⟩
  (repeat first|exact trivial|refine ent1 ?_)
  refine And.intro (fun j hj=>hX _ j) ?_
  (repeat first|exact trivial|refine ent1 ?_)
  refine And.intro (fun j hj=>hY _ j) ?_
  (repeat first|exact trivial|refine ent1 ?_)
  refine And.intro (fun j hj=>eqJ_app hr (appJ_cs (new:=[.w8 6#8,.w64 0#64,.str [],.sl 3 0 0 p pc,.sl 4 0 0 r rc]) (m:=1) (sz:=4) (by rw [hl]) (fun _ _=>rfl) rfl fun j hj=>updJ_new hj) (fun i hi=>?_) j) ?_
  ·match i,hi with
   | 0,_=>(repeat first|exact trivial|refine ent1 ?_)
   | 1,_=>(repeat first|exact trivial|refine ent1 ?_)
   | 2,_=>(repeat first|exact trivial|refine ent1 ?_)
   | 3,_=>(repeat first|exact trivial|refine ent1 ?_)
   | 4,_=>(repeat first|exact trivial|refine ent1 ?_)
  (repeat first|exact trivial|refine ent1 ?_)
  exact ⟨fun j hj=>eqJ_cs (nmL_raw _) (fun j hj=>nmL_approw hn j hj) j,by (repeat first|exact trivial|refine ent1 ?_)⟩
set_option maxRecDepth 20000 in
set_option maxHeartbeats 8000000 in
theorem fn_qadd3 (cs:List SC) (ns:List Bs) (m c e:Nat) (hr:∀ x∈cs,x.raw=x) (hl:cs.length=m*5) (hn:ns.length=m) (hc:m≤c) (he:m≤e) (hm:m≤1000000) (p pc:Nat) (X:Nat→SC) (a1:Nat) (hX:∀ q j,eqC q (X j) (X j) True) (s:Bs):Fn Tryd.prog tds 31 [vo1 1 m c 2 m e,[.row (scale c (4+1)) (nthC cs)],[.row (scale e (0+1)) (nthC (nmJ ns))],[.row a1 X]] [.c (.p 0 0 0),.c (.str (U8 s)),.agg ([.one (.w8 5#8),.one (.w64 0#64),.one (.str []),.one (.sl 3 0 0 p pc),.one (.slc none 0 0)])] (fun _=>True)
  (fun y hs=>∃ c' e',m+1≤c'∧m+1≤e'∧y=.tup []∧hs=[vo1 4 (m+1) c' 5 (m+1) e',[],[],[.row a1 X],[.row (scale c' (4+1)) (nthC (cs++[.w8 5#8,.w64 0#64,.str [],.sl 3 0 0 p pc,.slc none 0 0]))],[.row (scale e' (0+1)) (nthC (nmJ (ns++[s])))]]):=by
 refine fn_of_body tds_ok follows_ Tryd.func31 rfl (t:=.a (.c (.p 0 0 0))::.a (.c (.str (U8 s)))::.a (.agg ([.one (.w8 5#8),.one (.w64 0#64),.one (.str []),.one (.sl 3 0 0 p pc),.one (.slc none 0 0)]))::anys (Tryd.f31.ntmps-3)) rfl (fun w r0 hr0 _=>?_)
 obtain ⟨x0,x1,x2,x3,rfl⟩:∃ x0 x1 x2 x3,r0=[x0,x1,x2,x3]:=by
  match r0,hr0 with
  | [y0,y1,y2,y3],_=>exact ⟨_,_,_,_,rfl⟩
 (repeat show _∧_;first|refine yr ?_|refine yt ?_|refine yf ?_|refine yo ?_)
 refine ⟨some [0,4],[1001,1000,1001,1002,1003,1004,1005,1006,1009,1010,1011,1012,1013,3,7,14,3,8,14,2014,2015,0,2008,2015,0,2007,2008,2015,0],[(0,true),(1,true),(2,true),(3,true),(4,true),(5,true),(6,true),(7,false),(8,false),(9,true),(10,true),(11,true),(12,true),(13,true),(14,false),(15,false)],[16,17,18,19,20,21],by kernel_rfl,?_⟩
 (repeat show _∧_;first|refine yr ?_|refine yt ?_|refine yf ?_|refine yo ?_)
 refine And.intro (And.intro ?_ ?_) ?_
 ·refine And.intro (show 0+scale 1 (0+1)≤1 by decide) ?_
  refine And.intro ⟨he,by rw [sc1]; omega,show (m+1)*16≤140737488355328 by omega⟩ ?_
  intro e2 he2
  refine And.intro rfl ?_
  refine And.intro (show 0+5≤5 by decide) ?_
  refine And.intro (show 0+scale 1 (4+1)≤5 by decide) ?_
  refine And.intro ⟨hc,by rw [sc5]; omega,show (m+1)*80≤140737488355328 by omega⟩ ?_
  intro c2 hc2
  (repeat show _∧_;first|refine yr ?_|refine yt ?_|refine yf ?_|refine yo ?_)
  refine ⟨.tup [],_,⟨[0,1,2,3,8,6],⟨rfl,rfl,rfl⟩,?_⟩,c2,e2,hc2,he2,rfl,rfl⟩
  (repeat first|exact trivial|refine ent1 ?_)
  refine And.intro (fun j hj=>hX _ j) ?_
  (repeat first|exact trivial|refine ent1 ?_)
  refine And.intro (fun j hj=>eqJ_app hr (appJ_cs (new:=[.w8 5#8,.w64 0#64,.str [],.sl 3 0 0 p pc,.slc none 0 0]) (m:=1) (sz:=4) (by rw [hl]) (fun _ _=>rfl) rfl fun j hj=>updJ_new hj) (fun i hi=>?_) j) ?_
  ·match i,hi with
   | 0,_=>(repeat first|exact trivial|refine ent1 ?_)
   | 1,_=>(repeat first|exact trivial|refine ent1 ?_)
   | 2,_=>(repeat first|exact trivial|refine ent1 ?_)
   | 3,_=>(repeat first|exact trivial|refine ent1 ?_)
   | 4,_=>(repeat first|exact trivial|refine ent1 ?_)
  (repeat first|exact trivial|refine ent1 ?_)
  exact ⟨fun j hj=>eqJ_cs (nmL_raw _) (fun j hj=>nmL_approw hn j hj) j,by (repeat first|exact trivial|refine ent1 ?_)⟩
 ·refine And.intro rfl ?_
  refine And.intro (show 0+5≤5 by decide) ?_
  refine And.intro (show 0+scale 1 (0+1)≤1 by decide) ?_
  refine And.intro ⟨he,by rw [sc1]; omega,show (m+1)*16≤140737488355328 by omega⟩ ?_
  intro e2 he2
  refine And.intro (show 0+scale 1 (4+1)≤5 by decide) ?_
  refine And.intro ⟨hc,by rw [sc5]; omega,show (m+1)*80≤140737488355328 by omega⟩ ?_
  intro c2 hc2
  (repeat show _∧_;first|refine yr ?_|refine yt ?_|refine yf ?_|refine yo ?_)
  refine ⟨.tup [],_,⟨[0,1,2,3,8,7],⟨rfl,rfl,rfl⟩,?_⟩,c2,e2,hc2,he2,rfl,rfl⟩
  (repeat first|exact trivial|refine ent1 ?_)
  refine And.intro (fun j hj=>hX _ j) ?_
  (repeat first|exact trivial|refine ent1 ?_)
  refine And.intro (fun j hj=>eqJ_app hr (appJ_cs (new:=[.w8 5#8,.w64 0#64,.str [],.sl 3 0 0 p pc,.slc none 0 0]) (m:=1) (sz:=4) (by rw [hl]) (fun _ _=>rfl) rfl fun j hj=>updJ_new hj) (fun i hi=>?_) j) ?_
  ·match i,hi with
   | 0,_=>(repeat first|exact trivial|refine ent1 ?_)
   | 1,_=>(repeat first|exact trivial|refine ent1 ?_)
   | 2,_=>(repeat first|exact trivial|refine ent1 ?_)
   | 3,_=>(repeat first|exact trivial|refine ent1 ?_)
   | 4,_=>(repeat first|exact trivial|refine ent1 ?_)
  (repeat first|exact trivial|refine ent1 ?_)
  exact ⟨fun j hj=>eqJ_cs (nmL_raw _) (fun j hj=>nmL_approw hn j hj) j,by (repeat first|exact trivial|refine ent1 ?_)⟩
 ·refine And.intro rfl ?_
  refine And.intro (show 0+5≤5 by decide) ?_
  refine And.intro (show 0+scale 1 (0+1)≤1 by decide) ?_
  refine And.intro ⟨he,by rw [sc1]; omega,show (m+1)*16≤140737488355328 by omega⟩ ?_
  intro e2 he2
  refine And.intro (show 0+scale 1 (4+1)≤5 by decide) ?_
  refine And.intro ⟨hc,by rw [sc5]; omega,show (m+1)*80≤140737488355328 by omega⟩ ?_
  intro c2 hc2
  (repeat show _∧_;first|refine yr ?_|refine yt ?_|refine yf ?_|refine yo ?_)
  refine ⟨.tup [],_,⟨[0,1,2,3,8,7],⟨rfl,rfl,rfl⟩,?_⟩,c2,e2,hc2,he2,rfl,rfl⟩
  (repeat first|exact trivial|refine ent1 ?_)
  refine And.intro (fun j hj=>hX _ j) ?_
  (repeat first|exact trivial|refine ent1 ?_)
  refine And.intro (fun j hj=>eqJ_app hr (appJ_cs (new:=[.w8 5#8,.w64 0#64,.str [],.sl 3 0 0 p pc,.slc none 0 0]) (m:=1) (sz:=4) (by rw [hl]) (fun _ _=>rfl) rfl fun j hj=>updJ_new hj) (fun i hi=>?_) j) ?_
  ·match i,hi with
   | 0,_=>(repeat first|exact trivial|refine ent1 ?_)
   | 1,_=>(repeat first|exact trivial|refine ent1 ?_)
   | 2,_=>(repeat first|exact trivial|refine ent1 ?_)
   | 3,_=>(repeat first|exact trivial|refine ent1 ?_)
   | 4,_=>(repeat first|exact trivial|refine ent1 ?_)
  (repeat first|exact trivial|refine ent1 ?_)
  exact ⟨fun j hj=>eqJ_cs (nmL_raw _) (fun j hj=>nmL_approw hn j hj) j,by (repeat first|exact trivial|refine ent1 ?_)⟩
end Sx
end
section
namespace Qj
open Sha Js Ev
theorem names_data:∀ k:BitVec 8,evOk k=true→evNames k=[]→evData k=false:=by decide +kernel
theorem names_le9:∀ k:BitVec 8,(evNames k).length≤9:=by decide +kernel
theorem check0 {e:Ev} (h:checkM e=0):evOk e.k=true∧e.N.length=(evNames e.k).length∧e.D.length≤20∧(evData e.k=false→e.D=[]):=by
 unfold checkM at h
 split at h
 ·cases h
 rename_i h1
 split at h
 ·cases h
 split at h
 ·cases h
 rename_i h3
 split at h
 ·cases h
 rename_i h4
 split at h
 ·cases h
 rename_i h5
 refine ⟨by simpa using h1,by simpa using h3,by omega,fun hd=>?_⟩
 refine List.eq_nil_of_length_eq_zero ?_
 rcases Nat.eq_zero_or_pos e.D.length with h|h
 ·exact h
 ·exact absurd ⟨h,hd⟩ h5
end Qj
namespace Sx
open Go.RowKit Sha Vi Js Ev Qj

def ValueA (W:World) (ms:List Nat) (e:Ev) (y:SV) (hs:List (List Seg)):Prop :=
 (checkM e≠0∧y=.tup [.agg (jvS jt0 jc0),.c (.int .i64 (checkM e))]∧hs=[[.past W ms]]) ∨
 (checkM e=0∧∃ x W' ms',Later W ms W' ms'∧TAt W' ms' 2 (evJ e) x∧y=.tup [.agg (jvS (evJ e) x),.c (.int .i64 0)]∧hs=[[.past W' ms']])
theorem RowJ.frz2 {W:World} {ms:List Nat} {A:Addr} {F:Nat→Bool} {α:Nat→Addr} {n c d:Nat} {cs:List SC} {l:List JT} {g:Nat→SC} (k:RowJ W ms d cs l) (hg:∀ j,j<cs.length→((g j).rz F α).raw=nthC cs j)
  (h:flat [.row (scale c (4+1)) g]≠[]→ImAt W ms A (((flat [.row (scale c (4+1)) g]).map (SC.rz F α)).map SC.raw)∧(marksOk=false→Unm W ms A)) (hmk:marksOk=false) (hn:l.length=n) (hc:n≤c) (hcap:n≤9223372036854775807) :
  l.length=n∧n≤c∧n≤9223372036854775807∧(some (A.add (0+0))=none→c=0)∧∀ B,some (A.add (0+0))=some B→n≠0→Unm W ms B∧∀ j e,l[j]?=some e→∃ y,ImAt W ms (B.add (j*5)) (flat (jvS e y))∧TAt W ms d e y:=by
 refine ⟨hn,hc,hcap,(fun e=>by cases e),fun B hB hn0=>?_⟩
 injection hB with hB
 subst hB
 have hne:flat [.row (scale c (4+1)) g]≠[]:=by
  intro e
  have:=congrArg List.length e
  simp [flat,sc5] at this
  omega
 obtain ⟨h1,h2⟩:=h hne
 rw [show A.add (0+0)=A from h1.zero]
 refine ⟨h2 hmk,fun j e he=>?_⟩
 obtain ⟨x,x1,x2⟩:=k.elt j e he
 have hj:j<n:=by rw [← hn]; exact (List.getElem?_eq_some_iff.1 he).1
 refine ⟨x,h1.part (j*5) fun i y hy=>?_,x2⟩
 have hi:i<5:=(List.getElem?_eq_some_iff.1 hy).1
 have hcs:=x1 i y hy
 have hlen:=k.len
 have hjn:j*5+i<scale c (4+1):=by rw [sc5]; omega
 rw [List.getElem?_map,List.getElem?_map]
 simp only [flat,List.append_nil,List.getElem?_map,List.getElem?_range hjn,Option.map_some]
 rw [hg _ ((List.getElem?_eq_some_iff.1 hcs).1),nthC_get? hcs]
theorem rz_app {g:Nat→Nat} {F:Nat→Bool} {α:Nat→Addr} {cs D E:List SC} (hr:∀ x∈cs,x.raw=x) (hl:D.length=E.length) (hD:∀ i,i<D.length→((SC.mp g (nthC D i)).rz F α).raw=nthC E i) (j:Nat) (hj:j<(cs++E).length):((SC.mp g (nthC (cs++D) j)).rz F α).raw=nthC (cs++E) j:=by
 rw [List.length_append] at hj
 rcases Nat.lt_or_ge j cs.length with h|h
 ·rw [nthJ_l h,nthJ_l h,mpJ_raw (hr _ (nthJ_mem h)),rzJ_raw (hr _ (nthJ_mem h))]
 ·rw [nthJ_r h,nthJ_r h]
  exact hD _ (by omega)
set_option maxRecDepth 20000 in
set_option maxHeartbeats 32000000 in
theorem fn_qvalue {W:World} {ms:List Nat} {x:EvC} {e:Ev} (hx:EvAt W ms x e):FnR Tryd.prog tds 12 1 [[.past W ms]] [.agg (evS e x)] (fun _=>True) (ValueA W ms e):=by
 refine fn_of_bodyW tds_ok follows_ Tryd.func12 rfl (t:=.a (.agg (evS e x))::anys (Tryd.f12.ntmps-1)) rfl (fun w r0 hr0 _=>?_)
 obtain ⟨x0,rfl⟩:=len1' hr0
 (repeat show _∧_;first|refine yr ?_|refine yt ?_|refine yf ?_|refine yo ?_)
 refine call_same (fn_echeck hx) [0] rfl (by (repeat first|exact trivial|refine ent1 ?_)) (by (repeat first|exact trivial|refine ent1 ?_)) (fun _ _=>trivial) ?_
 rintro y hs ⟨rfl,rfl⟩
 by_cases hc:checkM e=0
 rotate_left
 ·have f1:decide (checkM e≠0)=true:=decide_eq_true hc
  (repeat show _∧_;first|refine yr ?_|refine yt ?_|refine yf ?_|refine ya f1 ?_|refine yb f1 ?_|refine yo ?_)
  exact FinW.of ⟨.tup [.agg (jvS jt0 jc0),.c (.int .i64 (checkM e))],_,⟨[0],⟨rfl,rfl,rfl⟩,by (repeat first|exact trivial|refine ent1 ?_)⟩,.inl ⟨hc,rfl,rfl⟩⟩
 obtain ⟨k1,k2,k3,k4⟩:=check0 hc
 have k5:=names_data e.k k1
 have k6:=names_le9 e.k
 rw [hc]
 (repeat show _∧_;first|refine yr ?_|refine yt ?_|refine yf ?_|refine yo ?_)
 refine call_same (fn_eof e.k) [] rfl (by (repeat first|exact trivial|refine ent1 ?_)) trivial (fun _ _=>trivial) ?_
 rintro y hs ⟨rfl,rfl⟩
 have hDN:dataNs e.k=(evNames e.k).map nsB++if evData e.k=true then [idB] else []:=rfl
 obtain ⟨l,hl⟩:∃ l,evNames e.k=l:=⟨_,rfl⟩
 rw [hl] at k2 k5 k6 hDN ⊢
 clear hl
 (repeat show _∧_;first|refine yr ?_|refine yt ?_|refine yf ?_|refine yo ?_)
 cases l with
 | nil =>
  have hd:=k5 rfl
  refine .inr ⟨1,?_⟩
  (repeat show _∧_;first|refine yr ?_|refine yt ?_|refine yf ?_|refine ya hd ?_|refine yb hd ?_|refine yo ?_)
  have hN0:e.N=[]:=List.eq_nil_of_length_eq_zero k2
  have hDL:dataL e=[]:=by unfold dataL; rw [hN0,hd]; rfl
  have hDN:dataNs e.k=[]:=by rw [hDN,hd]; rfl
  refine call_same (fn_qnum e.t) [] rfl (by (repeat first|exact trivial|refine ent1 ?_)) trivial (fun _ _=>trivial) ?_
  rintro y hs ⟨rfl,rfl⟩
  (repeat show _∧_;first|refine yr ?_|refine yt ?_|refine yf ?_|refine yo ?_)
  refine call_same (fn_qadd0 (tNum e.t) jc0 timeB) [6] rfl (by (repeat first|exact trivial|refine ent1 ?_)) (by (repeat first|exact trivial|refine ent1 ?_)) (fun _ _=>trivial) ?_
  rintro y hs ⟨c3,d3,hc3,hd3,rfl,rfl⟩
  (repeat show _∧_;first|refine yr ?_|refine yt ?_|refine yf ?_|refine yo ?_)
  refine call_same (fn_qtext (evNm e.k)) [] rfl (by exact And.intro (U8_nsB _).symm trivial) trivial (fun _ _=>trivial) ?_
  rintro y hs ⟨rfl,rfl⟩
  (repeat show _∧_;first|refine yr ?_|refine yt ?_|refine yf ?_|refine yo ?_)
  refine call_same (fn_qadd1 (flat (jvS (tNum e.t) jc0)) [timeB] 1 c3 d3 (jv_raw _ _) rfl rfl hc3 hd3 (by decide) (tText (evNm e.k)) jc0 nameB) [6,7,8] rfl (by (repeat first|exact trivial|refine ent1 ?_)) ?_ (fun _ _=>trivial) ?_
  ·(repeat first|exact trivial|refine ent1 ?_)
   refine ⟨fun j hj=>eqJ_csM (jv_raw _ _) j,?_⟩
   (repeat first|exact trivial|refine ent1 ?_)
   exact ⟨fun j hj=>eqJ_csM (nmL_raw _) j,by (repeat first|exact trivial|refine ent1 ?_)⟩
  rintro y hs ⟨c4,d4,hc4,hd4,rfl,rfl⟩
  have hraw2:∀ y∈flat (jvS (tNum e.t) jc0)++flat (jvS (tText (evNm e.k)) jc0),y.raw=y:=fun y hy=>(List.mem_append.1 hy).elim (jv_raw _ _ y) (jv_raw _ _ y)
  obtain ⟨cs2,hcs2⟩:∃ cs2,flat (jvS (tNum e.t) jc0)++flat (jvS (tText (evNm e.k)) jc0)=cs2:=⟨_,rfl⟩
  have hlen2:cs2.length=2*5:=by rw [← hcs2]; rfl
  rw [hcs2] at hraw2 ⊢
  (repeat show _∧_;first|refine yr ?_|refine yt ?_|refine yf ?_|refine yo ?_)
  refine call_same (fn_qadd1 cs2 [timeB,nameB] 2 c4 d4 hraw2 hlen2 rfl hc4 hd4 (by decide) (dataJ e) jc0 dataB) [6,9,10] rfl (by (repeat first|exact trivial|refine ent1 ?_)) ?_ (fun _ _=>trivial) ?_
  ·(repeat first|exact trivial|refine ent1 ?_)
   refine ⟨fun j hj=>eqJ_csM hraw2 j,?_⟩
   (repeat first|exact trivial|refine ent1 ?_)
   exact ⟨fun j hj=>eqJ_csM (nmL_raw _) j,by (repeat first|exact trivial|refine ent1 ?_)⟩
  rintro y hs ⟨c5,d5,hc5,hd5,rfl,rfl⟩
  (repeat show _∧_;first|refine yr ?_|refine yt ?_|refine yf ?_|refine yo ?_)
  refine finW_frzU [0] rfl (Nat.zero_lt_one) cx0_m rfl (fun W9 ms9 α hL9 hI=>?_)
  have hdat:TAt W9 ms9 1 (dataJ e) jc0:=TAt.leaf (v:=dataJ e) hDL hDN 1
  have hroot:RowJ W9 ms9 1 (cs2++flat (jvS (dataJ e) jc0)) [tNum e.t,tText (evNm e.k),dataJ e]:=by
   rw [← hcs2]
   exact ((RowJ.nil.snoc (v:=tNum e.t) (x:=jc0) (TAt.leaf rfl rfl 1)).snoc (v:=tText (evNm e.k)) (x:=jc0) (TAt.leaf rfl rfl 1)).snoc hdat
  have hrawF:∀ y∈cs2++flat (jvS (dataJ e) jc0),y.raw=y:=fun y hy=>(List.mem_append.1 hy).elim (hraw2 y) (jv_raw _ _ y)
  have hfn:=strs_frz (l:=[timeB,nameB,dataB].map U8) (F:=fun j=>!memB j [0]) (fun j hj=>mpJ_raw (nmL_raw _ _ (nthJ_mem (l:=nmJ [timeB,nameB,dataB]) hj))) (fun h=>(hI 12 rfl h).1) (n:=3) rfl hd5 (by decide)
  refine ⟨.tup [.agg (jvS (evJ e) ⟨some ((α 11).add (0+0)),3,c5,some ((α 12).add (0+0)),3,d5⟩),.c (.int .i64 0)],[],⟨⟨rfl,rfl,rfl⟩,?_⟩,.inr ⟨hc,⟨some ((α 11).add (0+0)),3,c5,some ((α 12).add (0+0)),3,d5⟩,W9,ms9,hL9,⟨hroot.frz2 (F:=fun j=>!memB j [0]) (fun j hj=>by simp only [mpJ_raw (hrawF _ (nthJ_mem hj)),rzJ_raw (hrawF _ (nthJ_mem hj))]) (hI 11 rfl) marks_off (n:=3) rfl hc5 (by decide),hfn⟩,rfl,rfl⟩⟩
  ·(repeat first|exact trivial|refine ent1 ?_)
 | cons nm0 l0 =>
 obtain ⟨l,hl⟩:∃ l,nm0::l0=l:=⟨_,rfl⟩
 have hl0:0<l.length:=by rw [← hl]; simp
 have hstB:stB (nm0::l0)=[.row l.length (strsF l)]:=by rw [← hl]; rfl
 have hstC:∀ i,stC i (nm0::l0)=.sn false i 0 0 l.length l.length:=by intro i; rw [← hl]; rfl
 rw [hl] at k2 k6 hDN
 clear k5
 rw [hstB,hstC]
 clear hstB hstC hl
 (repeat show _∧_;first|refine yr ?_|refine yt ?_|refine yf ?_|refine yo ?_)
 refine .inl ⟨Nat × Option (List SC × Nat × Nat),fun y=>match y with
  | (j,none)=>⟨[.any,.a (.c (.p 1 0 0)),.a (.c (.p 2 0 0)),.a (.c (.int .i64 (0))),.any,.a (.c (.p 4 0 0)),.any,.a (.c (.p 5 0 0)),.any,.any,.any,.any,.any,.any,.any,.any,.any,.any,.any,.any,.any,.any,.any,.any,.any,.a (.c (.sn false 3 0 0 l.length l.length)),.a (.c (.int .i64 (l.length))),.a (.c (.int .i64 (((j:Nat):Int)))),.any,.any,.any,.any,.any,.any,.any,.any,.any,.any,.any,.any,.any,.any,.any,.any,.any,.any,.any,.any,.any,.any,.any,.any,.any,.any,.any,.any,.any,.any],[[.past W ms],evS e x,vz,[.row l.length (strsF l)],[.one (.str (evName e.k)),.one (.sn false 3 0 0 l.length l.length),.one (.bool (evData e.k))],vo0]⟩
  | (j,some (cs,c,d))=>⟨[.any,.a (.c (.p 1 0 0)),.a (.c (.p 2 0 0)),.a (.c (.int .i64 (0))),.any,.a (.c (.p 4 0 0)),.any,.a (.c (.p 5 0 0)),.any,.any,.any,.any,.any,.any,.any,.any,.any,.any,.any,.any,.any,.any,.any,.any,.any,.a (.c (.sn false 3 0 0 l.length l.length)),.a (.c (.int .i64 (l.length))),.a (.c (.int .i64 (((j:Nat):Int)))),.any,.any,.any,.any,.any,.any,.any,.any,.any,.any,.any,.any,.any,.any,.any,.any,.any,.any,.any,.any,.any,.any,.any,.any,.any,.any,.any,.any,.any,.any],[[.past W ms],evS e x,vz,[.row l.length (strsF l)],[.one (.str (evName e.k)),.one (.sn false 3 0 0 l.length l.length),.one (.bool (evData e.k))],vo1 6 j c 7 j d,[.row (scale c (4+1)) (nthC cs)],[.row (scale d (0+1)) (nthC (nmJ ((l.take j).map nsB)))]]⟩,
  fun y=>match y with
  | (j,none)=>j=0
  | (j,some (cs,c,d))=>0<j∧j≤l.length∧j≤c∧j≤d∧RowJ W ms 0 cs ((e.N.take j).map tNum),fun y=>l.length-y.1,⟨(0,none),[0,1,2,3,4,5],⟨⟨rfl,rfl,rfl⟩,?_⟩,rfl⟩,fun y hy=>?_⟩
 ·(repeat first|exact trivial|refine ent1 ?_)
  exact ⟨fun j hj=>eqC_strsM l hj,by (repeat first|exact trivial|refine ent1 ?_)⟩
 rcases y with ⟨j,_|⟨cs,c,d⟩⟩
 ·obtain rfl:j=0:=hy
  dsimp only
  have hj:0<l.length:=hl0
  have e1:decide (((0:Nat):Int)<(l.length:Int))=true:=decide_eq_true (by omega)
  have hjN:0<e.N.length:=by omega
  have hsj:strsF l 0=.str (U8 (nsB (l[0]'hj))):=by rw [U8_nsB]; obtain ⟨s,h1,h2⟩:=nthC_str l 0 hj; rw [List.getElem?_eq_getElem hj] at h2; injection h2 with h2; rw [h2]; exact h1
  have hlt:(l.take (0+1)).map nsB=(l.take 0).map nsB++[nsB (l[0]'hj)]:=by rw [List.take_add_one,List.getElem?_eq_getElem hj,Option.toList_some,List.map_append]; rfl
  have hNt:(e.N.take (0+1)).map tNum=(e.N.take 0).map tNum++[tNum (e.N[0]'hjN)]:=by rw [List.take_add_one,List.getElem?_eq_getElem hjN,Option.toList_some,List.map_append]; rfl
  have hnum:=fn_qnum1 hx 0 hjN
  generalize (l[0]'hj)=nm at hsj hlt
  generalize (e.N[0]'hjN)=n at hNt hnum
  (repeat show _∧_;first|refine yr ?_|refine yt ?_|refine yf ?_|refine ya e1 ?_|refine yb e1 ?_|refine yo ?_)
  refine frc_atQ (y:=.str (U8 (nsB nm))) (by exact hsj) ?_
  (repeat show _∧_;first|refine yr ?_|refine yt ?_|refine yf ?_|refine yo ?_)
  refine call_same hnum [0] rfl (by (repeat first|exact trivial|refine ent1 ?_)) (by (repeat first|exact trivial|refine ent1 ?_)) (fun _ _=>trivial) ?_
  rintro y hs ⟨rfl,rfl⟩
  (repeat show _∧_;first|refine yr ?_|refine yt ?_|refine yf ?_|refine yo ?_)
  refine call_same (fn_qnum n) [] rfl (by (repeat first|exact trivial|refine ent1 ?_)) trivial (fun _ _=>trivial) ?_
  rintro y hs ⟨rfl,rfl⟩
  (repeat show _∧_;first|refine yr ?_|refine yt ?_|refine yf ?_|refine yo ?_)
  refine call_same (fn_qadd0 (tNum n) jc0 (nsB nm)) [5] rfl (by (repeat first|exact trivial|refine ent1 ?_)) (by (repeat first|exact trivial|refine ent1 ?_)) (fun _ _=>trivial) ?_
  rintro y hs ⟨c2,d2,hc2,hd2,rfl,rfl⟩
  (repeat show _∧_;first|refine yr ?_|refine yt ?_|refine yf ?_|refine yo ?_)
  refine ⟨(1,some (flat (jvS (tNum n) jc0),c2,d2)),[0,1,2,3,4,5,6,7],⟨⟨rfl,rfl,rfl⟩,?_⟩,⟨Nat.zero_lt_one,hl0,hc2,hd2,?_⟩,by dsimp only; omega⟩
  ·dsimp only
   rw [hlt]
   (repeat first|exact trivial|refine ent1 ?_)
   refine ⟨fun j hj=>eqC_strs l hj,?_⟩
   (repeat first|exact trivial|refine ent1 ?_)
   refine ⟨fun j hj=>eqJ_csM (jv_raw _ _) j,?_⟩
   (repeat first|exact trivial|refine ent1 ?_)
   exact ⟨fun j hj=>eqJ_csM (nmL_raw _) j,by (repeat first|exact trivial|refine ent1 ?_)⟩
  ·rw [hNt]
   exact RowJ.nil.snoc (TAt.leaf rfl rfl 0)
 ·obtain ⟨h1,h2,h3,h4,hrow⟩:=hy
  dsimp only
  have hrl:=hrow.len
  rw [List.length_map,List.length_take] at hrl
  by_cases hj:j<l.length
  rotate_left
  ·have e1:decide ((j:Int)<(l.length:Int))=false:=decide_eq_false (by omega)
   obtain rfl:j=l.length:=by omega
   rw [List.take_length]
   rw [List.take_of_length_le (by omega)] at hrow
   cases hd:evData e.k
   ·(repeat show _∧_;first|refine yr ?_|refine yt ?_|refine yf ?_|refine ya e1 ?_|refine yb e1 ?_|refine ya hd ?_|refine yb hd ?_|refine yo ?_)
    have hrowD:RowJ W ms 0 cs (dataL e):=by rwa [show dataL e=e.N.map tNum by unfold dataL; rw [hd,if_neg (by decide),List.append_nil]]
    have hDN:dataNs e.k=l.map nsB:=by rw [hDN,hd,if_neg (by decide),List.append_nil]
    refine call_same (fn_qnum e.t) [] rfl (by (repeat first|exact trivial|refine ent1 ?_)) trivial (fun _ _=>trivial) ?_
    rintro y hs ⟨rfl,rfl⟩
    (repeat show _∧_;first|refine yr ?_|refine yt ?_|refine yf ?_|refine yo ?_)
    refine call_same (fn_qadd0 (tNum e.t) jc0 timeB) [8] rfl (by (repeat first|exact trivial|refine ent1 ?_)) (by (repeat first|exact trivial|refine ent1 ?_)) (fun _ _=>trivial) ?_
    rintro y hs ⟨c3,d3,hc3,hd3,rfl,rfl⟩
    (repeat show _∧_;first|refine yr ?_|refine yt ?_|refine yf ?_|refine yo ?_)
    refine call_same (fn_qtext (evNm e.k)) [] rfl (by exact And.intro (U8_nsB _).symm trivial) trivial (fun _ _=>trivial) ?_
    rintro y hs ⟨rfl,rfl⟩
    (repeat show _∧_;first|refine yr ?_|refine yt ?_|refine yf ?_|refine yo ?_)
    refine call_same (fn_qadd1 (flat (jvS (tNum e.t) jc0)) [timeB] 1 c3 d3 (jv_raw _ _) rfl rfl hc3 hd3 (by decide) (tText (evNm e.k)) jc0 nameB) [8,9,10] rfl (by (repeat first|exact trivial|refine ent1 ?_)) ?_ (fun _ _=>trivial) ?_
    ·(repeat first|exact trivial|refine ent1 ?_)
     refine ⟨fun j hj=>eqJ_csM (jv_raw _ _) j,?_⟩
     (repeat first|exact trivial|refine ent1 ?_)
     exact ⟨fun j hj=>eqJ_csM (nmL_raw _) j,by (repeat first|exact trivial|refine ent1 ?_)⟩
    rintro y hs ⟨c4,d4,hc4,hd4,rfl,rfl⟩
    have hraw2:∀ y∈flat (jvS (tNum e.t) jc0)++flat (jvS (tText (evNm e.k)) jc0),y.raw=y:=fun y hy=>(List.mem_append.1 hy).elim (jv_raw _ _ y) (jv_raw _ _ y)
    obtain ⟨cs2,hcs2⟩:∃ cs2,flat (jvS (tNum e.t) jc0)++flat (jvS (tText (evNm e.k)) jc0)=cs2:=⟨_,rfl⟩
    have hlen2:cs2.length=2*5:=by rw [← hcs2]; rfl
    rw [hcs2] at hraw2 ⊢
    (repeat show _∧_;first|refine yr ?_|refine yt ?_|refine yf ?_|refine yo ?_)
    refine call_same (fn_qadd2 cs2 [timeB,nameB] 2 c4 d4 hraw2 hlen2 rfl hc4 hd4 (by decide) l.length c l.length d (nthC cs) (nthC (nmJ (l.map nsB))) (scale c (4+1)) (scale d (0+1)) (fun q j=>eqJ_cs hrowD.raw (fun _ _=>rfl) j) (fun q j=>eqJ_cs (nmL_raw _) (fun _ _=>rfl) j) dataB) [8,11,12,6,7] rfl (by (repeat first|exact trivial|refine ent1 ?_)) ?_ (fun _ _=>trivial) ?_
    ·(repeat first|exact trivial|refine ent1 ?_)
     refine ⟨fun j hj=>eqJ_csM hraw2 j,?_⟩
     (repeat first|exact trivial|refine ent1 ?_)
     refine ⟨fun j hj=>eqJ_csM (nmL_raw _) j,?_⟩
     (repeat first|exact trivial|refine ent1 ?_)
     refine ⟨fun j hj=>eqJ_cs hrowD.raw (fun _ _=>rfl) j,?_⟩
     (repeat first|exact trivial|refine ent1 ?_)
     exact ⟨fun j hj=>eqJ_cs (nmL_raw _) (fun _ _=>rfl) j,by (repeat first|exact trivial|refine ent1 ?_)⟩
    rintro y hs ⟨c5,d5,hc5,hd5,rfl,rfl⟩
    (repeat show _∧_;first|refine yr ?_|refine yt ?_|refine yf ?_|refine yo ?_)
    refine finW_frzU [0] rfl (Nat.zero_lt_one) cx0_m rfl (fun W9 ms9 α hL9 hI=>?_)
    have hdl:(dataL e).length=l.length:=by have:=hrowD.len; unfold dataL; rw [hd,if_neg (by decide),List.length_append,List.length_map,k2]; rfl
    have hdat:TAt W9 ms9 1 (dataJ e) ⟨some ((α 6).add (0+0)),l.length,c,some ((α 7).add (0+0)),l.length,d⟩:=⟨(hrowD.later hL9).frz2 (F:=fun j=>!memB j [0]) (fun j hj=>by simp only [mpJ_raw (hrowD.raw _ (nthJ_mem hj)),rzJ_raw (hrowD.raw _ (nthJ_mem hj))]) (hI 6 rfl) marks_off (n:=l.length) hdl h3 (by omega),?_⟩
    rotate_left
    ·show StAt W9 ms9 _ _ _ ((dataNs e.k).map U8)
     rw [hDN]
     exact strs_frz (l:=(l.map nsB).map U8) (F:=fun j=>!memB j [0]) (fun j hj=>mpJ_raw (nmL_raw _ _ (nthJ_mem (l:=nmJ (l.map nsB)) hj))) (fun h=>(hI 7 rfl h).1) (n:=l.length) (by simp) h4 (by omega)
    have hroot:RowJ W9 ms9 1 (cs2++flat (jvS (dataJ e) ⟨some ((α 6).add (0+0)),l.length,c,some ((α 7).add (0+0)),l.length,d⟩)) [tNum e.t,tText (evNm e.k),dataJ e]:=by
     rw [← hcs2]
     exact ((RowJ.nil.snoc (v:=tNum e.t) (x:=jc0) (TAt.leaf rfl rfl 1)).snoc (v:=tText (evNm e.k)) (x:=jc0) (TAt.leaf rfl rfl 1)).snoc hdat
    have hfn:=strs_frz (l:=[timeB,nameB,dataB].map U8) (F:=fun j=>!memB j [0]) (fun j hj=>mpJ_raw (nmL_raw _ _ (nthJ_mem (l:=nmJ [timeB,nameB,dataB]) hj))) (fun h=>(hI 14 rfl h).1) (n:=3) rfl hd5 (by decide)
    refine ⟨.tup [.agg (jvS (evJ e) ⟨some ((α 13).add (0+0)),3,c5,some ((α 14).add (0+0)),3,d5⟩),.c (.int .i64 0)],[],⟨⟨rfl,rfl,rfl⟩,?_⟩,.inr ⟨hc,⟨some ((α 13).add (0+0)),3,c5,some ((α 14).add (0+0)),3,d5⟩,W9,ms9,hL9,⟨hroot.frz2 (F:=fun j=>!memB j [0]) (fun j hj=>rz_app (g:=bk 13 [8,11,12,6,7]) (D:=[.w8 6#8,.w64 0#64,.str [],.sl 3 0 0 l.length c,.sl 4 0 0 l.length d]) (E:=flat (jvS (dataJ e) ⟨some ((α 6).add (0+0)),l.length,c,some ((α 7).add (0+0)),l.length,d⟩)) hraw2 rfl (fun i hi=>?_) j hj) (hI 13 rfl) marks_off (n:=3) rfl hc5 (by decide),hfn⟩,rfl,rfl⟩⟩
    ·(repeat first|exact trivial|refine ent1 ?_)
    match i,hi with
    | 0,_=>rfl
    | 1,_=>rfl
    | 2,_=>rfl
    | 3,_=>rfl
    | 4,_=>rfl
   ·(repeat show _∧_;first|refine yr ?_|refine yt ?_|refine yf ?_|refine ya e1 ?_|refine yb e1 ?_|refine ya hd ?_|refine yb hd ?_|refine yo ?_)
    refine call_same (fn_qdigits hx.D (by omega)) [0] rfl (by (repeat first|exact trivial|refine ent1 ?_)) (by (repeat first|exact trivial|refine ent1 ?_)) (fun _ _=>trivial) ?_
    rintro y hs ⟨rfl,rfl⟩
    (repeat show _∧_;first|refine yr ?_|refine yt ?_|refine yf ?_|refine yo ?_)
    refine call_same (fn_qtext (hexB e.D)) [] rfl (by (repeat first|exact trivial|refine ent1 ?_)) trivial (fun _ _=>trivial) ?_
    rintro y hs ⟨rfl,rfl⟩
    (repeat show _∧_;first|refine yr ?_|refine yt ?_|refine yf ?_|refine yo ?_)
    refine call_same (fn_qadd1 cs (l.map nsB) l.length c d hrow.raw (by omega) (by rw [List.length_map]) h3 h4 (by omega) (tText (hexB e.D)) jc0 idB) [5,6,7] rfl (by (repeat first|exact trivial|refine ent1 ?_)) ?_ (fun _ _=>trivial) ?_
    ·(repeat first|exact trivial|refine ent1 ?_)
     refine ⟨fun j hj=>eqJ_cs hrow.raw (fun _ _=>rfl) j,?_⟩
     (repeat first|exact trivial|refine ent1 ?_)
     exact ⟨fun j hj=>eqJ_cs (nmL_raw _) (fun _ _=>rfl) j,by (repeat first|exact trivial|refine ent1 ?_)⟩
    rintro y hs ⟨c0,d0,hc0,hd0,rfl,rfl⟩
    have hrowD:RowJ W ms 0 (cs++flat (jvS (tText (hexB e.D)) jc0)) (dataL e):=by
     have:=hrow.snoc (v:=tText (hexB e.D)) (x:=jc0) (TAt.leaf rfl rfl 0)
     rwa [show dataL e=e.N.map tNum++[tText (hexB e.D)] by unfold dataL; rw [hd,if_pos rfl]]
    have hDN:dataNs e.k=l.map nsB++[idB]:=by rw [hDN,hd,if_pos rfl]
    generalize cs++flat (jvS (tText (hexB e.D)) jc0)=cs0 at hrowD ⊢
    (repeat show _∧_;first|refine yr ?_|refine yt ?_|refine yf ?_|refine yo ?_)
    refine call_same (fn_qnum e.t) [] rfl (by (repeat first|exact trivial|refine ent1 ?_)) trivial (fun _ _=>trivial) ?_
    rintro y hs ⟨rfl,rfl⟩
    (repeat show _∧_;first|refine yr ?_|refine yt ?_|refine yf ?_|refine yo ?_)
    refine call_same (fn_qadd0 (tNum e.t) jc0 timeB) [10] rfl (by (repeat first|exact trivial|refine ent1 ?_)) (by (repeat first|exact trivial|refine ent1 ?_)) (fun _ _=>trivial) ?_
    rintro y hs ⟨c3,d3,hc3,hd3,rfl,rfl⟩
    (repeat show _∧_;first|refine yr ?_|refine yt ?_|refine yf ?_|refine yo ?_)
    refine call_same (fn_qtext (evNm e.k)) [] rfl (by exact And.intro (U8_nsB _).symm trivial) trivial (fun _ _=>trivial) ?_
    rintro y hs ⟨rfl,rfl⟩
    (repeat show _∧_;first|refine yr ?_|refine yt ?_|refine yf ?_|refine yo ?_)
    refine call_same (fn_qadd1 (flat (jvS (tNum e.t) jc0)) [timeB] 1 c3 d3 (jv_raw _ _) rfl rfl hc3 hd3 (by decide) (tText (evNm e.k)) jc0 nameB) [10,11,12] rfl (by (repeat first|exact trivial|refine ent1 ?_)) ?_ (fun _ _=>trivial) ?_
    ·(repeat first|exact trivial|refine ent1 ?_)
     refine ⟨fun j hj=>eqJ_csM (jv_raw _ _) j,?_⟩
     (repeat first|exact trivial|refine ent1 ?_)
     exact ⟨fun j hj=>eqJ_csM (nmL_raw _) j,by (repeat first|exact trivial|refine ent1 ?_)⟩
    rintro y hs ⟨c4,d4,hc4,hd4,rfl,rfl⟩
    have hraw2:∀ y∈flat (jvS (tNum e.t) jc0)++flat (jvS (tText (evNm e.k)) jc0),y.raw=y:=fun y hy=>(List.mem_append.1 hy).elim (jv_raw _ _ y) (jv_raw _ _ y)
    obtain ⟨cs2,hcs2⟩:∃ cs2,flat (jvS (tNum e.t) jc0)++flat (jvS (tText (evNm e.k)) jc0)=cs2:=⟨_,rfl⟩
    have hlen2:cs2.length=2*5:=by rw [← hcs2]; rfl
    rw [hcs2] at hraw2 ⊢
    (repeat show _∧_;first|refine yr ?_|refine yt ?_|refine yf ?_|refine yo ?_)
    refine call_same (fn_qadd2 cs2 [timeB,nameB] 2 c4 d4 hraw2 hlen2 rfl hc4 hd4 (by decide) (l.length+1) c0 (l.length+1) d0 (nthC cs0) (nthC (nmJ (l.map nsB++[idB]))) (scale c0 (4+1)) (scale d0 (0+1)) (fun q j=>eqJ_cs hrowD.raw (fun _ _=>rfl) j) (fun q j=>eqJ_cs (nmL_raw _) (fun _ _=>rfl) j) dataB) [10,13,14,8,9] rfl (by (repeat first|exact trivial|refine ent1 ?_)) ?_ (fun _ _=>trivial) ?_
    ·(repeat first|exact trivial|refine ent1 ?_)
     refine ⟨fun j hj=>eqJ_csM hraw2 j,?_⟩
     (repeat first|exact trivial|refine ent1 ?_)
     refine ⟨fun j hj=>eqJ_csM (nmL_raw _) j,?_⟩
     (repeat first|exact trivial|refine ent1 ?_)
     refine ⟨fun j hj=>eqJ_csM hrowD.raw j,?_⟩
     (repeat first|exact trivial|refine ent1 ?_)
     exact ⟨fun j hj=>eqJ_csM (nmL_raw _) j,by (repeat first|exact trivial|refine ent1 ?_)⟩
    rintro y hs ⟨c5,d5,hc5,hd5,rfl,rfl⟩
    (repeat show _∧_;first|refine yr ?_|refine yt ?_|refine yf ?_|refine yo ?_)
    refine finW_frzU [0] rfl (Nat.zero_lt_one) cx0_m rfl (fun W9 ms9 α hL9 hI=>?_)
    have hdl:(dataL e).length=(l.length+1):=by have:=hrowD.len; unfold dataL; rw [hd,if_pos rfl,List.length_append,List.length_map,k2]; rfl
    have hdat:TAt W9 ms9 1 (dataJ e) ⟨some ((α 8).add (0+0)),(l.length+1),c0,some ((α 9).add (0+0)),(l.length+1),d0⟩:=⟨(hrowD.later hL9).frz2 (F:=fun j=>!memB j [0]) (fun j hj=>by simp only [mpJ_raw (hrowD.raw _ (nthJ_mem hj)),rzJ_raw (hrowD.raw _ (nthJ_mem hj))]) (hI 8 rfl) marks_off (n:=(l.length+1)) hdl hc0 (by omega),?_⟩
    rotate_left
    ·show StAt W9 ms9 _ _ _ ((dataNs e.k).map U8)
     rw [hDN]
     exact strs_frz (l:=(l.map nsB++[idB]).map U8) (F:=fun j=>!memB j [0]) (fun j hj=>mpJ_raw (nmL_raw _ _ (nthJ_mem (l:=nmJ (l.map nsB++[idB])) hj))) (fun h=>(hI 9 rfl h).1) (n:=(l.length+1)) (by simp) hd0 (by omega)
    have hroot:RowJ W9 ms9 1 (cs2++flat (jvS (dataJ e) ⟨some ((α 8).add (0+0)),(l.length+1),c0,some ((α 9).add (0+0)),(l.length+1),d0⟩)) [tNum e.t,tText (evNm e.k),dataJ e]:=by
     rw [← hcs2]
     exact ((RowJ.nil.snoc (v:=tNum e.t) (x:=jc0) (TAt.leaf rfl rfl 1)).snoc (v:=tText (evNm e.k)) (x:=jc0) (TAt.leaf rfl rfl 1)).snoc hdat
    have hfn:=strs_frz (l:=[timeB,nameB,dataB].map U8) (F:=fun j=>!memB j [0]) (fun j hj=>mpJ_raw (nmL_raw _ _ (nthJ_mem (l:=nmJ [timeB,nameB,dataB]) hj))) (fun h=>(hI 16 rfl h).1) (n:=3) rfl hd5 (by decide)
    refine ⟨.tup [.agg (jvS (evJ e) ⟨some ((α 15).add (0+0)),3,c5,some ((α 16).add (0+0)),3,d5⟩),.c (.int .i64 0)],[],⟨⟨rfl,rfl,rfl⟩,?_⟩,.inr ⟨hc,⟨some ((α 15).add (0+0)),3,c5,some ((α 16).add (0+0)),3,d5⟩,W9,ms9,hL9,⟨hroot.frz2 (F:=fun j=>!memB j [0]) (fun j hj=>rz_app (g:=bk 15 [10,13,14,8,9]) (D:=[.w8 6#8,.w64 0#64,.str [],.sl 3 0 0 (l.length+1) c0,.sl 4 0 0 (l.length+1) d0]) (E:=flat (jvS (dataJ e) ⟨some ((α 8).add (0+0)),(l.length+1),c0,some ((α 9).add (0+0)),(l.length+1),d0⟩)) hraw2 rfl (fun i hi=>?_) j hj) (hI 15 rfl) marks_off (n:=3) rfl hc5 (by decide),hfn⟩,rfl,rfl⟩⟩
    ·(repeat first|exact trivial|refine ent1 ?_)
    match i,hi with
    | 0,_=>rfl
    | 1,_=>rfl
    | 2,_=>rfl
    | 3,_=>rfl
    | 4,_=>rfl
  have e1:decide (((j:Nat):Int)<(l.length:Int))=true:=decide_eq_true (by omega)
  have hjN:j<e.N.length:=by omega
  have hsj:strsF l j=.str (U8 (nsB (l[j]'hj))):=by rw [U8_nsB]; obtain ⟨s,h1,h2⟩:=nthC_str l j hj; rw [List.getElem?_eq_getElem hj] at h2; injection h2 with h2; rw [h2]; exact h1
  have hlt:(l.take (j+1)).map nsB=(l.take j).map nsB++[nsB (l[j]'hj)]:=by rw [List.take_add_one,List.getElem?_eq_getElem hj,Option.toList_some,List.map_append]; rfl
  have hNt:(e.N.take (j+1)).map tNum=(e.N.take j).map tNum++[tNum (e.N[j]'hjN)]:=by rw [List.take_add_one,List.getElem?_eq_getElem hjN,Option.toList_some,List.map_append]; rfl
  have hnum:=fn_qnum1 hx j hjN
  generalize (l[j]'hj)=nm at hsj hlt
  generalize (e.N[j]'hjN)=n at hNt hnum
  (repeat show _∧_;first|refine yr ?_|refine yt ?_|refine yf ?_|refine ya e1 ?_|refine yb e1 ?_|refine yo ?_)
  refine frc_atQ (y:=.str (U8 (nsB nm))) (by exact hsj) ?_
  (repeat show _∧_;first|refine yr ?_|refine yt ?_|refine yf ?_|refine yo ?_)
  refine call_same hnum [0] rfl (by (repeat first|exact trivial|refine ent1 ?_)) (by (repeat first|exact trivial|refine ent1 ?_)) (fun _ _=>trivial) ?_
  rintro y hs ⟨rfl,rfl⟩
  (repeat show _∧_;first|refine yr ?_|refine yt ?_|refine yf ?_|refine yo ?_)
  refine call_same (fn_qnum n) [] rfl (by (repeat first|exact trivial|refine ent1 ?_)) trivial (fun _ _=>trivial) ?_
  rintro y hs ⟨rfl,rfl⟩
  (repeat show _∧_;first|refine yr ?_|refine yt ?_|refine yf ?_|refine yo ?_)
  refine call_same (fn_qadd1 cs ((l.take j).map nsB) j c d hrow.raw (by omega) (by rw [List.length_map,List.length_take]; omega) h3 h4 (by omega) (tNum n) jc0 (nsB nm)) [5,6,7] rfl (by (repeat first|exact trivial|refine ent1 ?_)) ?_ (fun _ _=>trivial) ?_
  ·(repeat first|exact trivial|refine ent1 ?_)
   refine ⟨fun j hj=>eqJ_cs hrow.raw (fun _ _=>rfl) j,?_⟩
   (repeat first|exact trivial|refine ent1 ?_)
   exact ⟨fun j hj=>eqJ_cs (nmL_raw _) (fun _ _=>rfl) j,by (repeat first|exact trivial|refine ent1 ?_)⟩
  rintro y hs ⟨c2,d2,hc2,hd2,rfl,rfl⟩
  (repeat show _∧_;first|refine yr ?_|refine yt ?_|refine yf ?_|refine yo ?_)
  refine ⟨(j+1,some (cs++flat (jvS (tNum n) jc0),c2,d2)),[0,1,2,3,4,5,8,9],⟨⟨rfl,rfl,rfl⟩,?_⟩,⟨by omega,hj,hc2,hd2,?_⟩,by dsimp only; omega⟩
  ·dsimp only
   rw [hlt]
   (repeat first|exact trivial|refine ent1 ?_)
   refine ⟨fun j hj=>eqC_strs l hj,?_⟩
   (repeat first|exact trivial|refine ent1 ?_)
   refine ⟨fun j hj=>eqJ_csM (fun y hy=>(List.mem_append.1 hy).elim (hrow.raw y) (jv_raw _ _ y)) j,?_⟩
   (repeat first|exact trivial|refine ent1 ?_)
   exact ⟨fun j hj=>eqJ_csM (nmL_raw _) j,by (repeat first|exact trivial|refine ent1 ?_)⟩
  ·rw [hNt]
   exact hrow.snoc (TAt.leaf rfl rfl 0)
end Sx
end
section
namespace Sx
open Go.RowKit Sha Vi Js Ev Qj

def PrtA (W:World) (ms:List Nat) (es:List Ev) (y:SV) (hs:List (List Seg)):Prop :=
 ∃ W' ms',Later W ms W' ms'∧hs=[[.past W' ms']]∧y=if prtM es=0 then .tup [.c (.str (U8 (put 4 (rootJ es)))),.c (.int .i64 0)] else .tup [.c (.str []),.c (.int .i64 (prtM es))]
abbrev lo0:List Seg:=[.one (.w8 5#8),.one (.w64 0#64),.one (.str []),.one (.slc none 0 0),.one (.slc none 0 0)]
abbrev lo1 (i n c:Nat):List Seg:=[.one (.w8 5#8),.one (.w64 0#64),.one (.str []),.one (.sl i 0 0 n c),.one (.slc none 0 0)]
def lstJ (es:List Ev):JT:=.mk 5#8 0#64 [] (es.map evJ) []
set_option maxRecDepth 20000 in
set_option maxHeartbeats 32000000 in
theorem fn_qprint {W:World} {ms:List Nat} {a:Option Addr} {n c:Nat} {es:List Ev} (hT:Tabs W ms) (h:EvsAt W ms a n c es) (hp:prtM es=0→norm 4 (rootJ es)∧(put 4 (rootJ es)).length≤70368744177664):FnR Tryd.prog tds 24 1 [[.past W ms]] [.c (.slc a n c)] (fun _=>True) (PrtA W ms es):=by
 refine fn_of_bodyW tds_ok follows_ Tryd.func24 rfl (t:=.a (.c (.slc a n c))::anys (Tryd.f24.ntmps-1)) rfl (fun w r0 hr0 _=>?_)
 obtain ⟨x0,rfl⟩:=len1' hr0
 have hl:=h.len
 have hle:=h.le
 have hcap:=h.cap
 by_cases hn:2048<n
 ·have e0:decide ((2048:Int)<(n:Int))=true:=decide_eq_true (by omega)
  have hP:prtM es=7:=by unfold prtM; rw [if_pos (by omega)]
  (repeat show _∧_;first|refine yr ?_|refine yt ?_|refine yf ?_|refine ya e0 ?_|refine yb e0 ?_|refine yo ?_)
  exact FinW.of ⟨.tup [.c (.str []),.c (.int .i64 7)],_,⟨[0],⟨rfl,rfl,rfl⟩,by (repeat first|exact trivial|refine ent1 ?_)⟩,W,ms,Later.refl _ _,rfl,by rw [hP]; rfl⟩
 have e0:decide ((2048:Int)<(n:Int))=false:=decide_eq_false (by omega)
 have hP0:prtM es=prtF es 0#64:=by unfold prtM; rw [if_neg (by omega)]
 (repeat show _∧_;first|refine yr ?_|refine yt ?_|refine yf ?_|refine ya e0 ?_|refine yb e0 ?_|refine yo ?_)
 refine .inl ⟨Nat × BitVec 64 × Option (List SC × Nat) × World × List Nat,fun y=>match y with
  | (j,t,none,W',ms')=>⟨[.a (.c (.slc a n c)),.any,.a (.c (.str ([]))),.a (.c (.int .i64 (0))),.a (.c (.p 1 0 0)),.a (.c (.w64 (t))),.any,.any,.any,.any,.any,.any,.any,.any,.any,.a (.c (.slc a n c)),.a (.c (.int .i64 (n))),.a (.c (.int .i64 (((j:Nat):Int)))),.any,.any,.any,.any,.any,.any,.any,.any,.any,.any,.any,.any,.any,.any,.any,.any,.any,.any,.any,.any,.any,.any,.any,.any,.any,.any,.any,.any,.any,.any,.any,.any,.any,.any,.any,.any,.any,.any,.any,.any],[[.past W' ms'],lo0]⟩
  | (j,t,some (cs,cc),W',ms')=>⟨[.a (.c (.slc a n c)),.any,.a (.c (.str ([]))),.a (.c (.int .i64 (0))),.a (.c (.p 1 0 0)),.a (.c (.w64 (t))),.any,.any,.any,.any,.any,.any,.any,.any,.any,.a (.c (.slc a n c)),.a (.c (.int .i64 (n))),.a (.c (.int .i64 (((j:Nat):Int)))),.any,.any,.any,.any,.any,.any,.any,.any,.any,.any,.any,.any,.any,.any,.any,.any,.any,.any,.any,.any,.any,.any,.any,.any,.any,.any,.any,.any,.any,.any,.any,.any,.any,.any,.any,.any,.any,.any,.any,.any],[[.past W' ms'],lo1 2 j cc,[.row (scale cc (4+1)) (nthC cs)]]⟩,
  fun y=>match y with
  | (j,t,none,W',ms')=>j=0∧t=0#64∧Later W ms W' ms'
  | (j,t,some (cs,cc),W',ms')=>0<j∧j≤n∧j≤cc∧Later W ms W' ms'∧prtM es=prtF (es.drop j) t∧RowJ W' ms' 2 cs ((es.take j).map evJ),fun y=>n-y.1,⟨(0,0#64,none,W,ms),[0,1],⟨⟨rfl,rfl,rfl⟩,by (repeat first|exact trivial|refine ent1 ?_)⟩,rfl,rfl,Later.refl _ _⟩,fun y hy=>?_⟩
 rcases y with ⟨j,t,_|⟨cs,cc⟩,W',ms'⟩
 ·obtain ⟨rfl,rfl,hL'⟩:=hy
  dsimp only
  have hPj:prtM es=prtF (es.drop 0) 0#64:=by rw [List.drop_zero]; exact hP0
  by_cases hj:0<n
  rotate_left
  ·have e1:decide (((0:Nat):Int)<(n:Int))=false:=decide_eq_false (by omega)
   have hP:prtM es=0:=by rw [hPj,List.drop_eq_nil_of_le (by omega)]; rfl
   obtain rfl:es=[]:=List.eq_nil_of_length_eq_zero (by omega)
   (repeat show _∧_;first|refine yr ?_|refine yt ?_|refine yf ?_|refine ya e1 ?_|refine yb e1 ?_|refine yo ?_)
   refine call_same (fn_qtext v03B) [] rfl (by exact And.intro rfl trivial) trivial (fun _ _=>trivial) ?_
   rintro y hs ⟨rfl,rfl⟩
   (repeat show _∧_;first|refine yr ?_|refine yt ?_|refine yf ?_|refine yo ?_)
   refine call_same (fn_qadd0 (tText v03B) jc0 verB) [2] rfl (by (repeat first|exact trivial|refine ent1 ?_)) (by (repeat first|exact trivial|refine ent1 ?_)) (fun _ _=>trivial) ?_
   rintro y hs ⟨c3,d3,hc3,hd3,rfl,rfl⟩
   (repeat show _∧_;first|refine yr ?_|refine yt ?_|refine yf ?_|refine yo ?_)
   refine call_same (fn_qadd1 (flat (jvS (tText v03B) jc0)) [verB] 1 c3 d3 (jv_raw _ _) rfl rfl hc3 hd3 (by decide) (lstJ []) jc0 evsB) [2,3,4] rfl (by (repeat first|exact trivial|refine ent1 ?_)) ?_ (fun _ _=>trivial) ?_
   ·(repeat first|exact trivial|refine ent1 ?_)
    refine ⟨fun j hj=>eqJ_csM (jv_raw _ _) j,?_⟩
    (repeat first|exact trivial|refine ent1 ?_)
    exact ⟨fun j hj=>eqJ_csM (nmL_raw _) j,by (repeat first|exact trivial|refine ent1 ?_)⟩
   rintro y hs ⟨c4,d4,hc4,hd4,rfl,rfl⟩
   (repeat show _∧_;first|refine yr ?_|refine yt ?_|refine yf ?_|refine yo ?_)
   obtain ⟨hn4,hp4⟩:=hp hP
   refine call_lendU [5,6] 0 [] rfl rfl (by (repeat first|exact trivial|refine ent1 ?_)) NoP.nil (fun _ _=>trivial) (fun W9 ms9 α hL9 hI=>⟨[.agg (jvS (rootJ []) ⟨some ((α 5).add (0+0)),2,c4,some ((α 6).add (0+0)),2,d4⟩)],?_,(fn_print (d:=4) (by decide) (hT.later (hL'.trans hL9)) ?_ hn4 hp4).mono (Res':=fun y hs=>y=.tup [.c (.str (U8 (put 4 (rootJ [])))),.c (.int .i64 0)]∧hs.drop 1=[]) (fun x hs hr=>⟨hr.1,by rw [hr.2]; rfl⟩)⟩) (fun x hs hr=>by rw [hr.2]; exact NoP.nil) ?_
   ·(repeat first|exact trivial|refine ent1 ?_)
   ·have hlst:TAt W9 ms9 3 (lstJ []) jc0:=TAt.leaf (v:=lstJ []) rfl rfl 3
    have hroot:RowJ W9 ms9 3 (flat (jvS (tText v03B) jc0)++flat (jvS (lstJ []) jc0)) [tText v03B,lstJ []]:=(RowJ.nil.snoc (v:=tText v03B) (x:=jc0) (TAt.leaf rfl rfl 3)).snoc hlst
    have hfn:=strs_frz (l:=[verB,evsB].map U8) (F:=fun j=>memB j [5,6]) (fun j hj=>mpJ_raw (nmL_raw _ _ (nthJ_mem (l:=nmJ [verB,evsB]) hj))) (fun hf=>(hI 6 rfl hf).1) (n:=2) rfl hd4 (by decide)
    have hrawF:∀ y∈flat (jvS (tText v03B) jc0)++flat (jvS (lstJ []) jc0),y.raw=y:=fun y hy=>(List.mem_append.1 hy).elim (jv_raw _ _ y) (jv_raw _ _ y)
    exact ⟨hroot.frz2 (F:=fun j=>memB j [5,6]) (fun j hj=>by simp only [mpJ_raw (hrawF _ (nthJ_mem hj)),rzJ_raw (hrawF _ (nthJ_mem hj))]) (fun hf=>⟨(hI 5 rfl hf).1,fun hm=>(hI 5 rfl hf).2 hm rfl⟩) marks_off (n:=2) rfl hc4 (by decide),hfn⟩
   ·rintro x hs ⟨rfl,hdrop⟩
    rw [hdrop]
    (repeat show _∧_;first|refine yr ?_|refine yt ?_|refine yf ?_|refine yo ?_)
    exact FinW.of ⟨.tup [.c (.str (U8 (put 4 (rootJ [])))),.c (.int .i64 0)],_,⟨[0],⟨rfl,rfl,rfl⟩,by (repeat first|exact trivial|refine ent1 ?_)⟩,W',ms',hL',rfl,by rw [if_pos hP]⟩
  have e1:decide (((0:Nat):Int)<(n:Int))=true:=decide_eq_true (by omega)
  obtain ⟨A,rfl⟩:∃ A,a=some A:=by
   cases a with
   | none=>exact absurd (h.nil rfl) (by omega)
   | some A=>exact ⟨A,rfl⟩
  have hjl:0<es.length:=by omega
  obtain ⟨x,him,hxe⟩:=(h.later hL').elt A rfl 0 (es[0]'hjl) (List.getElem?_eq_getElem hjl)
  have hlast:decide (((0:Nat):Int)+1=(n:Int))=(es.drop (0+1)).isEmpty:=by
   by_cases hz:0+1=n
   ·rw [List.drop_eq_nil_of_le (by omega)]; exact decide_eq_true (by omega)
   ·rw [List.drop_eq_getElem_cons (show 0+1<es.length by omega)]; exact decide_eq_false (by omega)
  have htk:(es.take (0+1)).map evJ=(es.take 0).map evJ++[evJ (es[0]'hjl)]:=by rw [List.take_add_one,List.getElem?_eq_getElem hjl,Option.toList_some,List.map_append]; rfl
  rw [List.drop_eq_getElem_cons hjl,prtF,← hlast] at hPj
  generalize (es[0]'hjl)=e at him hxe hPj htk
  (repeat show _∧_;first|refine yr ?_|refine yt ?_|refine yf ?_|refine ya e1 ?_|refine yb e1 ?_|refine yo ?_)
  refine ⟨evS e x,⟨.past (i:=0) rfl (by exact him),rfl⟩,?_⟩
  (repeat show _∧_;first|refine yr ?_|refine yt ?_|refine yf ?_|refine yo ?_)
  refine call_past (fn_qvalue hxe) 0 [] rfl rfl (by (repeat first|exact trivial|refine ent1 ?_)) (by (repeat first|exact trivial|refine ent1 ?_)) (fun _ _=>trivial) (fun x hs hr=>?_) ?_
  ·rcases hr with ⟨_,_,rfl⟩|⟨_,xj,W5,ms5,hL5,_,_,rfl⟩
   ·exact ⟨W',ms',rfl,Later.refl _ _⟩
   ·exact ⟨W5,ms5,rfl,hL5⟩
  rintro y hs (⟨hc0,rfl,rfl⟩|⟨hc0,xj,W5,ms5,hL5,hxj,rfl,rfl⟩)
  ·have f0:decide (checkM e=0)=false:=decide_eq_false hc0
   have f1:decide (checkM e≠0)=true:=decide_eq_true hc0
   rw [if_pos hc0] at hPj
   (repeat show _∧_;first|refine yr ?_|refine yt ?_|refine yf ?_|refine ya f0 ?_|refine yb f0 ?_|refine ya f1 ?_|refine yb f1 ?_|refine yo ?_)
   exact FinW.of ⟨.tup [.c (.str []),.c (.int .i64 (checkM e))],_,⟨[0],⟨rfl,rfl,rfl⟩,by (repeat first|exact trivial|refine ent1 ?_)⟩,W',ms',hL',rfl,by rw [hPj,if_neg hc0]⟩
  rw [if_neg (not_not_intro hc0)] at hPj
  (repeat show _∧_;first|refine yr ?_|refine yt ?_|refine yf ?_|refine yo ?_)
  refine call_same (fn_qfoll (W:=W5) (ms:=ms5) (x:=x) (e:=e) 0#64 (decide (((0:Nat):Int)+1=(n:Int)))) [0] rfl (by (repeat first|exact trivial|refine ent1 ?_)) (by (repeat first|exact trivial|refine ent1 ?_)) (fun _ _=>trivial) ?_
  rintro y hs ⟨rfl,rfl⟩
  by_cases hf:follM e 0#64 (decide (((0:Nat):Int)+1=(n:Int)))=0
  rotate_left
  ·have f1:decide (follM e 0#64 (decide (((0:Nat):Int)+1=(n:Int)))≠0)=true:=decide_eq_true hf
   rw [if_pos hf] at hPj
   (repeat show _∧_;first|refine yr ?_|refine yt ?_|refine yf ?_|refine ya f1 ?_|refine yb f1 ?_|refine yo ?_)
   exact FinW.of ⟨.tup [.c (.str []),.c (.int .i64 (follM e 0#64 (decide (((0:Nat):Int)+1=(n:Int)))))],_,⟨[0],⟨rfl,rfl,rfl⟩,by (repeat first|exact trivial|refine ent1 ?_)⟩,W5,ms5,hL'.trans hL5,rfl,by rw [hPj,if_neg hf]⟩
  have f1:decide (follM e 0#64 (decide (((0:Nat):Int)+1=(n:Int)))≠0)=false:=decide_eq_false (not_not_intro hf)
  rw [if_neg (not_not_intro hf)] at hPj
  (repeat show _∧_;first|refine yr ?_|refine yt ?_|refine yf ?_|refine ya f1 ?_|refine yb f1 ?_|refine yo ?_)
  refine And.intro (show 0+5≤5 by decide) ?_
  (repeat show _∧_;first|refine yr ?_|refine yt ?_|refine yf ?_|refine yo ?_)
  intro c2 hc2
  (repeat show _∧_;first|refine yr ?_|refine yt ?_|refine yf ?_|refine yo ?_)
  refine ⟨(1,e.t,some (flat (jvS (evJ e) xj),c2),W5,ms5),[0,1,5],⟨⟨rfl,rfl,rfl⟩,?_⟩,⟨Nat.zero_lt_one,hj,hc2,hL'.trans hL5,hPj,by rw [htk]; exact RowJ.nil.snoc hxj⟩,by dsimp only; omega⟩
  dsimp only
  (repeat first|exact trivial|refine ent1 ?_)
  exact ⟨fun j hj=>eqJ_cs (jv_raw _ _) (newJ_cs (m:=1) (sz:=4) rfl fun j hj=>updJ_new hj) j,by (repeat first|exact trivial|refine ent1 ?_)⟩
 ·obtain ⟨hj0,hjn,hjc,hL',hPj,hrow⟩:=hy
  dsimp only
  by_cases hj:j<n
  rotate_left
  ·have e1:decide (((j:Nat):Int)<(n:Int))=false:=decide_eq_false (by omega)
   have hP:prtM es=0:=by rw [hPj,List.drop_eq_nil_of_le (by omega)]; rfl
   obtain rfl:j=n:=by omega
   rw [List.take_of_length_le (by omega)] at hrow
   subst hl
   (repeat show _∧_;first|refine yr ?_|refine yt ?_|refine yf ?_|refine ya e1 ?_|refine yb e1 ?_|refine yo ?_)
   refine call_same (fn_qtext v03B) [] rfl (by exact And.intro rfl trivial) trivial (fun _ _=>trivial) ?_
   rintro y hs ⟨rfl,rfl⟩
   (repeat show _∧_;first|refine yr ?_|refine yt ?_|refine yf ?_|refine yo ?_)
   refine call_same (fn_qadd0 (tText v03B) jc0 verB) [3] rfl (by (repeat first|exact trivial|refine ent1 ?_)) (by (repeat first|exact trivial|refine ent1 ?_)) (fun _ _=>trivial) ?_
   rintro y hs ⟨c3,d3,hc3,hd3,rfl,rfl⟩
   (repeat show _∧_;first|refine yr ?_|refine yt ?_|refine yf ?_|refine yo ?_)
   refine call_same (fn_qadd3 (flat (jvS (tText v03B) jc0)) [verB] 1 c3 d3 (jv_raw _ _) rfl rfl hc3 hd3 (by decide) es.length cc (nthC cs) (scale cc (4+1)) (fun q j=>eqJ_cs hrow.raw (fun _ _=>rfl) j) evsB) [3,4,5,2] rfl (by (repeat first|exact trivial|refine ent1 ?_)) ?_ (fun _ _=>trivial) ?_
   ·(repeat first|exact trivial|refine ent1 ?_)
    refine ⟨fun j hj=>eqJ_csM (jv_raw _ _) j,?_⟩
    (repeat first|exact trivial|refine ent1 ?_)
    refine ⟨fun j hj=>eqJ_csM (nmL_raw _) j,?_⟩
    (repeat first|exact trivial|refine ent1 ?_)
    exact ⟨fun j hj=>eqJ_cs hrow.raw (fun _ _=>rfl) j,by (repeat first|exact trivial|refine ent1 ?_)⟩
   rintro y hs ⟨c4,d4,hc4,hd4,rfl,rfl⟩
   (repeat show _∧_;first|refine yr ?_|refine yt ?_|refine yf ?_|refine yo ?_)
   obtain ⟨hn4,hp4⟩:=hp hP
   refine call_lendU [6,7,2] 0 [] rfl rfl (by (repeat first|exact trivial|refine ent1 ?_)) NoP.nil (fun _ _=>trivial) (fun W9 ms9 α hL9 hI=>⟨[.agg (jvS (rootJ es) ⟨some ((α 6).add (0+0)),2,c4,some ((α 7).add (0+0)),2,d4⟩)],?_,(fn_print (d:=4) (by decide) (hT.later (hL'.trans hL9)) ?_ hn4 hp4).mono (Res':=fun y hs=>y=.tup [.c (.str (U8 (put 4 (rootJ es)))),.c (.int .i64 0)]∧hs.drop 1=[]) (fun x hs hr=>⟨hr.1,by rw [hr.2]; rfl⟩)⟩) (fun x hs hr=>by rw [hr.2]; exact NoP.nil) ?_
   ·(repeat first|exact trivial|refine ent1 ?_)
   ·have hlst:TAt W9 ms9 3 (lstJ es) ⟨some ((α 2).add (0+0)),es.length,cc,none,0,0⟩:=⟨(hrow.later hL9).frz2 (F:=fun j=>memB j [6,7,2]) (fun j hj=>by simp only [mpJ_raw (hrow.raw _ (nthJ_mem hj)),rzJ_raw (hrow.raw _ (nthJ_mem hj))]) (fun hf=>⟨(hI 2 rfl hf).1,fun hm=>(hI 2 rfl hf).2 hm rfl⟩) marks_off (n:=es.length) (by simp) hjc (by omega),(TAt.leaf (W:=W9) (ms:=ms9) (v:=lstJ []) rfl rfl 0).ns⟩
    have hroot:RowJ W9 ms9 3 (flat (jvS (tText v03B) jc0)++flat (jvS (lstJ es) ⟨some ((α 2).add (0+0)),es.length,cc,none,0,0⟩)) [tText v03B,lstJ es]:=(RowJ.nil.snoc (v:=tText v03B) (x:=jc0) (TAt.leaf rfl rfl 3)).snoc hlst
    have hfn:=strs_frz (l:=[verB,evsB].map U8) (F:=fun j=>memB j [6,7,2]) (fun j hj=>mpJ_raw (nmL_raw _ _ (nthJ_mem (l:=nmJ [verB,evsB]) hj))) (fun hf=>(hI 7 rfl hf).1) (n:=2) rfl hd4 (by decide)
    refine ⟨hroot.frz2 (F:=fun j=>memB j [6,7,2]) (fun j hj=>rz_app (g:=bk 6 [3,4,5,2]) (D:=[.w8 5#8,.w64 0#64,.str [],.sl 3 0 0 es.length cc,.slc none 0 0]) (E:=flat (jvS (lstJ es) ⟨some ((α 2).add (0+0)),es.length,cc,none,0,0⟩)) (jv_raw (tText v03B) jc0) rfl (fun i hi=>?_) j hj) (fun hf=>⟨(hI 6 rfl hf).1,fun hm=>(hI 6 rfl hf).2 hm rfl⟩) marks_off (n:=2) rfl hc4 (by decide),hfn⟩
    match i,hi with
    | 0,_=>rfl
    | 1,_=>rfl
    | 2,_=>rfl
    | 3,_=>rfl
    | 4,_=>rfl
   ·rintro x hs ⟨rfl,hdrop⟩
    rw [hdrop]
    (repeat show _∧_;first|refine yr ?_|refine yt ?_|refine yf ?_|refine yo ?_)
    exact FinW.of ⟨.tup [.c (.str (U8 (put 4 (rootJ es)))),.c (.int .i64 0)],_,⟨[0],⟨rfl,rfl,rfl⟩,by (repeat first|exact trivial|refine ent1 ?_)⟩,W',ms',hL',rfl,by rw [if_pos hP]⟩
  have e1:decide (((j:Nat):Int)<(n:Int))=true:=decide_eq_true (by omega)
  obtain ⟨A,rfl⟩:∃ A,a=some A:=by
   cases a with
   | none=>exact absurd (h.nil rfl) (by omega)
   | some A=>exact ⟨A,rfl⟩
  have hjl:j<es.length:=by omega
  obtain ⟨x,him,hxe⟩:=(h.later hL').elt A rfl j (es[j]'hjl) (List.getElem?_eq_getElem hjl)
  have hlast:decide (((j:Nat):Int)+1=(n:Int))=(es.drop (j+1)).isEmpty:=by
   by_cases hz:j+1=n
   ·rw [List.drop_eq_nil_of_le (by omega)]; exact decide_eq_true (by omega)
   ·rw [List.drop_eq_getElem_cons (show j+1<es.length by omega)]; exact decide_eq_false (by omega)
  have htk:(es.take (j+1)).map evJ=(es.take j).map evJ++[evJ (es[j]'hjl)]:=by rw [List.take_add_one,List.getElem?_eq_getElem hjl,Option.toList_some,List.map_append]; rfl
  rw [List.drop_eq_getElem_cons hjl,prtF,← hlast] at hPj
  generalize (es[j]'hjl)=e at him hxe hPj htk
  (repeat show _∧_;first|refine yr ?_|refine yt ?_|refine yf ?_|refine ya e1 ?_|refine yb e1 ?_|refine yo ?_)
  refine ⟨evS e x,⟨.past (i:=0) rfl (by exact him),rfl⟩,?_⟩
  (repeat show _∧_;first|refine yr ?_|refine yt ?_|refine yf ?_|refine yo ?_)
  refine call_past (fn_qvalue hxe) 0 [] rfl rfl (by (repeat first|exact trivial|refine ent1 ?_)) (by (repeat first|exact trivial|refine ent1 ?_)) (fun _ _=>trivial) (fun x hs hr=>?_) ?_
  ·rcases hr with ⟨_,_,rfl⟩|⟨_,xj,W5,ms5,hL5,_,_,rfl⟩
   ·exact ⟨W',ms',rfl,Later.refl _ _⟩
   ·exact ⟨W5,ms5,rfl,hL5⟩
  rintro y hs (⟨hc0,rfl,rfl⟩|⟨hc0,xj,W5,ms5,hL5,hxj,rfl,rfl⟩)
  ·have f0:decide (checkM e=0)=false:=decide_eq_false hc0
   have f1:decide (checkM e≠0)=true:=decide_eq_true hc0
   rw [if_pos hc0] at hPj
   (repeat show _∧_;first|refine yr ?_|refine yt ?_|refine yf ?_|refine ya f0 ?_|refine yb f0 ?_|refine ya f1 ?_|refine yb f1 ?_|refine yo ?_)
   exact FinW.of ⟨.tup [.c (.str []),.c (.int .i64 (checkM e))],_,⟨[0],⟨rfl,rfl,rfl⟩,by (repeat first|exact trivial|refine ent1 ?_)⟩,W',ms',hL',rfl,by rw [hPj,if_neg hc0]⟩
  rw [if_neg (not_not_intro hc0)] at hPj
  (repeat show _∧_;first|refine yr ?_|refine yt ?_|refine yf ?_|refine yo ?_)
  refine call_same (fn_qfoll (W:=W5) (ms:=ms5) (x:=x) (e:=e) t (decide (((j:Nat):Int)+1=(n:Int)))) [0] rfl (by (repeat first|exact trivial|refine ent1 ?_)) (by (repeat first|exact trivial|refine ent1 ?_)) (fun _ _=>trivial) ?_
  rintro y hs ⟨rfl,rfl⟩
  by_cases hf:follM e t (decide (((j:Nat):Int)+1=(n:Int)))=0
  rotate_left
  ·have f1:decide (follM e t (decide (((j:Nat):Int)+1=(n:Int)))≠0)=true:=decide_eq_true hf
   rw [if_pos hf] at hPj
   (repeat show _∧_;first|refine yr ?_|refine yt ?_|refine yf ?_|refine ya f1 ?_|refine yb f1 ?_|refine yo ?_)
   exact FinW.of ⟨.tup [.c (.str []),.c (.int .i64 (follM e t (decide (((j:Nat):Int)+1=(n:Int)))))],_,⟨[0],⟨rfl,rfl,rfl⟩,by (repeat first|exact trivial|refine ent1 ?_)⟩,W5,ms5,hL'.trans hL5,rfl,by rw [hPj,if_neg hf]⟩
  have f1:decide (follM e t (decide (((j:Nat):Int)+1=(n:Int)))≠0)=false:=decide_eq_false (not_not_intro hf)
  rw [if_neg (not_not_intro hf)] at hPj
  (repeat show _∧_;first|refine yr ?_|refine yt ?_|refine yf ?_|refine ya f1 ?_|refine yb f1 ?_|refine yo ?_)
  refine And.intro (show 0+5≤5 by decide) ?_
  refine And.intro (show 0+scale 1 (4+1)≤5 by decide) ?_
  refine And.intro ⟨hjc,by rw [sc5]; omega,show (j+1)*80≤140737488355328 by omega⟩ ?_
  intro c2 hc2
  (repeat show _∧_;first|refine yr ?_|refine yt ?_|refine yf ?_|refine yo ?_)
  have hrl:cs.length=j*5:=by have:=hrow.len; rw [List.length_map,List.length_take] at this; omega
  have hrw:RowJ W5 ms5 2 (cs++flat (jvS (evJ e) xj)) ((es.take (j+1)).map evJ):=by rw [htk]; exact (hrow.later hL5).snoc hxj
  refine ⟨(j+1,e.t,some (cs++flat (jvS (evJ e) xj),c2),W5,ms5),[0,1,6],⟨⟨rfl,rfl,rfl⟩,?_⟩,⟨by omega,hj,hc2,hL'.trans hL5,hPj,hrw⟩,by dsimp only; omega⟩
  dsimp only
  (repeat first|exact trivial|refine ent1 ?_)
  exact ⟨fun j hj=>eqJ_cs hrw.raw (appJ_cs (m:=1) (sz:=4) (by rw [hrl]) (fun _ _=>rfl) rfl fun j hj=>updJ_new hj) j,by (repeat first|exact trivial|refine ent1 ?_)⟩
end Sx
end
section
namespace Vi
open Sha
def failM (l:Bs) (e x:Int):Bs × Int:=if x=0∨e≠0 then (l,e) else ([],x)
def nextM (l:Bs) (e:Int):(BitVec 64 × Nat × Bool) × Bs × Int :=
 if e≠0 then ((0#64,0,false),l,e) else
 if (takeM l).2.2≠0 then ((0#64,0,false),[],(takeM l).2.2) else (((takeM l).1,(takeM l).2.1,true),l.drop (takeM l).2.1,0)
def bytesM (l:Bs) (e many:Int):Bs × Bs × Int :=
 if e≠0 then ([],l,e) else if many<0∨(l.length:Int)<many then ([],[],3) else (l.take many.toNat,l.drop many.toNat,0)
end Vi
namespace Sx
open Sha Vi

end Sx
end
section
namespace Vi
open Sha
def endM (l:Bs) (e:Int):Bs × Int:=if 0<l.length then failM l e 24 else (l,e)
end Vi
namespace Sx
open Sha Vi

end Sx
end
section
namespace Vi
open Sha
def leastM (l:Bs) (e:Int):BitVec 64 × Bs × Int:=match nextM l e with
 | ((n,k,b),l',e')=>if b=false then (0#64,l',e') else if k≠lenN n then (0#64,failM l' e' 4) else (n,l',e')
end Vi
namespace Sx
open Go.RowKit Sha Vi Ev

end Sx
end
section
namespace Ev
open Vi Sha
def numsR:Nat→Bs→Int→List (BitVec 64) × Bs × Int
 | 0,l,e=>([],l,e)
 | k+1,l,e=>((leastM l e).1::(numsR k (leastM l e).2.1 (leastM l e).2.2).1,(numsR k (leastM l e).2.1 (leastM l e).2.2).2)
def failIf (c:Bool) (x:Int) (p:Bs × Int):Bs × Int:=if c=true then failM p.1 p.2 x else p
abbrev kindL (k:BitVec 64):BitVec 8:=BitVec.setWidth 8 (if 255#64<k then 255#64 else k)
abbrev manyL (m:BitVec 64):Int:=((if 20#64<m then 20#64 else m).toNat:Int)
def data1 (m:BitVec 64) (q:Bs × Int):Bs × Bs × Int:=bytesM q.1 q.2 (manyL m)
def take3 (kk:BitVec 8) (t:BitVec 64) (N:List (BitVec 64)) (p:Bs × Int):Ev × Bs × Int :=
 if evData kk=true then (⟨kk,t,N,(data1 (leastM p.1 p.2).1 (failIf (decide (20#64<(leastM p.1 p.2).1)) 4 (leastM p.1 p.2).2)).1⟩,(data1 (leastM p.1 p.2).1 (failIf (decide (20#64<(leastM p.1 p.2).1)) 4 (leastM p.1 p.2).2)).2)
 else (⟨kk,t,N,[]⟩,p)
def take2 (kk:BitVec 8) (t:BitVec 64) (q:Bs × Int):Ev × Bs × Int:=take3 kk t (numsR (evNames kk).length q.1 q.2).1 (numsR (evNames kk).length q.1 q.2).2
def take1 (kk:BitVec 8) (last:BitVec 64) (p:Bs × Int):Ev × Bs × Int :=
 take2 kk (last+(leastM p.1 p.2).1) (failIf (decide (1125899906842624#64<last+(leastM p.1 p.2).1)) 21 (leastM p.1 p.2).2)
def takeE (l:Bs) (e:Int) (last:BitVec 64):Ev × Bs × Int :=
 if (leastM l e).2.2≠0 then (⟨0#8,0#64,[],[]⟩,(leastM l e).2) else take1 (kindL (leastM l e).1) last (failIf (!evOk (kindL (leastM l e).1)) 5 (leastM l e).2)
theorem take1_eq {kk:BitVec 8} {last n:BitVec 64} {l l':Bs} {e e':Int} (h:leastM l e=(n,l',e')):take1 kk last (l,e)=take2 kk (last+n) (failIf (decide (1125899906842624#64<last+n)) 21 (l',e')):=by
 unfold take1; rw [h]
theorem take3_no {kk:BitVec 8} {t:BitVec 64} {N:List (BitVec 64)} {p:Bs × Int} (h:evData kk=false):take3 kk t N p=(⟨kk,t,N,[]⟩,p):=by
 unfold take3; rw [h,if_neg (by decide)]
theorem take3_ok {kk:BitVec 8} {t m:BitVec 64} {N:List (BitVec 64)} {l l':Bs} {e e':Int} (h:evData kk=true) (hm:leastM l e=(m,l',e')) {D l2:Bs} {e2:Int} (hd:data1 m (failIf (decide (20#64<m)) 4 (l',e'))=(D,l2,e2)):take3 kk t N (l,e)=(⟨kk,t,N,D⟩,l2,e2):=by
 unfold take3; rw [h,if_pos rfl]; simp only [hm]; rw [hd]
end Ev
namespace Sx
open Go.RowKit Sha Vi Ev

end Sx
end
section
namespace Ev
open Vi Sha
def evsR : Nat → BitVec 64 → Bs → Int → List Ev × Bs × Int
  | 0, _, l, e => ([], l, e)
  | k + 1, last, l, e => if e ≠ 0 then ([], l, e) else
    ((takeE l e last).1 :: (evsR k (takeE l e last).1.t (failIf (decide ((takeE l e last).1.k = 19#8) && decide (k ≠ 0)) 10 (takeE l e last).2).1 (failIf (decide ((takeE l e last).1.k = 19#8) && decide (k ≠ 0)) 10 (takeE l e last).2).2).1,
     (evsR k (takeE l e last).1.t (failIf (decide ((takeE l e last).1.k = 19#8) && decide (k ≠ 0)) 10 (takeE l e last).2).1 (failIf (decide ((takeE l e last).1.k = 19#8) && decide (k ≠ 0)) 10 (takeE l e last).2).2).2)
def finD (r:List Ev × Bs × Int):List Ev × Int:=if (endM r.2.1 r.2.2).2≠0 then ([],(endM r.2.1 r.2.2).2) else (r.1,0)
def dec3 (m:BitVec 64) (q:Bs × Int):List Ev × Int:=finD (evsR m.toNat 0#64 q.1 q.2)
def dec2 (p:Bs × Int):List Ev × Int:=dec3 (leastM p.1 p.2).1 (failIf (decide (2048#64<(leastM p.1 p.2).1)) 7 (leastM p.1 p.2).2)
def decM (b:Bs):List Ev × Int:=dec2 (failIf (decide ((bytesM b 0 4).2.2=0) && decide (U8 (bytesM b 0 4).1≠[66,73,78,49])) 4 (bytesM b 0 4).2)
theorem evsR_step {k:Nat} {last:BitVec 64} {l l1 l2:Bs} {e1 e2:Int} {ev:Ev} (h:takeE l 0 last=(ev,l1,e1)) (hf:failIf (decide (ev.k=19#8) && decide (k≠0)) 10 (l1,e1)=(l2,e2)) :
  evsR (k+1) last l 0=(ev::(evsR k ev.t l2 e2).1,(evsR k ev.t l2 e2).2):=by
 rw [evsR,if_neg (by decide),h]; dsimp only; rw [hf]
end Ev
namespace Sx
open Go.RowKit Sha Vi Ev

theorem EvsAt.nul {W:World} {ms:List Nat}:EvsAt W ms none 0 0 []:=⟨rfl,Nat.le_refl _,by decide,fun _=>rfl,fun A h=>by cases h⟩
theorem rz_raw {F:Nat→Bool} {α:Nat→Addr} {x:SC} (h:x.raw=x):(x.rz F α).raw=x:=by
 cases x <;> simp only [SC.raw] at h <;> first|rfl|cases h
theorem nthC_get {l:List SC} {j:Nat} (h:j<l.length):l[j]?=some (nthC l j):=by
 obtain ⟨x,hx⟩:∃ x,l[j]?=some x:=⟨_,List.getElem?_eq_getElem h⟩
 rw [hx,nthC_get? hx]
theorem RowAt.frz {W0 W:World} {ms0 ms:List Nat} {A:Addr} {F:Nat→Bool} {α:Nat→Addr} {n c:Nat} {cs:List SC} {es:List Ev} (k:RowAt W0 ms0 cs es) (hL:Later W0 ms0 W ms)
  (h:flat [.row (scale c (3+1)) (nthC cs)]≠[]→ImAt W ms A (((flat [.row (scale c (3+1)) (nthC cs)]).map (SC.rz F α)).map SC.raw)) (hn:es.length=n) (hc:n≤c) (hcap:n≤9223372036854775807):EvsAt W ms (some (A.add (0+0))) n c es:=by
 refine ⟨hn,hc,hcap,(fun e=>by cases e),fun B hB j e he=>?_⟩
 injection hB with hB
 subst hB
 obtain ⟨x,h1,h2⟩:=k.elt j e he
 have hj:j<n:=by rw [← hn]; exact (List.getElem?_eq_some_iff.1 he).1
 have hne:flat [.row (scale c (3+1)) (nthC cs)]≠[]:=by
  intro e
  have:=congrArg List.length e
  simp [flat,sc4] at this
  omega
 refine ⟨x,(((h hne).part (0+0) (m:=((flat [.row (scale c (3+1)) (nthC cs)]).map (SC.rz F α)).map SC.raw) (fun j x hx=>by simpa using hx)).part (j*4) fun i y hy=>?_),h2.later hL⟩
 have hi:i<4:=(List.getElem?_eq_some_iff.1 hy).1
 have hcs:=h1 i y hy
 have hlen:=k.len
 have hjn:j*4+i<scale c (3+1):=by rw [sc4]; omega
 rw [List.getElem?_map,List.getElem?_map]
 simp only [flat,List.append_nil,List.getElem?_map,List.getElem?_range hjn,Option.map_some]
 have hraw:=k.raw y (List.mem_of_getElem? hcs)
 rw [nthC_get? hcs,rz_raw hraw]
end Sx
end
section
namespace Qj
open Sha Vi Js Ev
def preE (d:List Ev):List Ev ⊕ Int→List Ev ⊕ Int
 | .inl es=>.inl (d++es)
 | .inr e=>.inr e
theorem evsF_step {x:JT} {l:List JT} {t:BitVec 64} {e:Ev} (d:List Ev) (h:evOf x=.inl e) (hf:follM e t l.isEmpty=0):preE d (evsF (x::l) t)=preE (d++[e]) (evsF l e.t):=by
 rw [evsF,h]
 dsimp only
 rw [if_pos hf]
 cases evsF l e.t with
 | inl es=>simp [preE]
 | inr c=>rfl
theorem evsF_bad {x:JT} {l:List JT} {t:BitVec 64} {c:Int} (d:List Ev) (h:evOf x=.inr c):preE d (evsF (x::l) t)=.inr c:=by
 rw [evsF,h]
 rfl
theorem evsF_fol {x:JT} {l:List JT} {t:BitVec 64} {e:Ev} (d:List Ev) (h:evOf x=.inl e) (hf:follM e t l.isEmpty≠0):preE d (evsF (x::l) t)=.inr (follM e t l.isEmpty):=by
 rw [evsF,h]
 dsimp only
 rw [if_neg hf]
 rfl
theorem evsF_pre (l:List JT) (t:BitVec 64):preE [] (evsF l t)=evsF l t:=by
 cases evsF l t <;> rfl
theorem parse_no {s:Bs} {v:JT} (hp:parse s=.ok v []) (h:hasJ v 2=false∨idxN verB v.ns=none∨memJ v evsB 5#8=none):parseM s=.inr 4:=by
 unfold parseM
 rw [hp]
 dsimp only
 rcases h with h|h|h
 ·split
  ·rw [if_pos h]
  ·rfl
 ·rw [h]
 ·rw [h]
  split
  ·rename_i h2; cases h2
  ·rfl
end Qj
namespace Sx
open Go.RowKit Sha Vi Js Ev Qj

def PrsA (W:World) (ms:List Nat) (o:List Ev ⊕ Int) (y:SV) (hs:List (List Seg)):Prop:=match o with
 | .inr e=>e≠0∧∃ W' ms',Later W ms W' ms'∧y=.tup [.c (.slc none 0 0),.c (.int .i64 e)]∧hs=[[.past W' ms']]
 | .inl es=>∃ a n c W' ms',Later W ms W' ms'∧EvsAt W' ms' a n c es∧y=.tup [.c (.slc a n c),.c (.int .i64 0)]∧hs=[[.past W' ms']]
set_option maxRecDepth 20000 in
set_option maxHeartbeats 32000000 in
theorem fn_qparse {W:World} {ms:List Nat} (hT:Tabs W ms) (s:Bs) (hs0:s.length≤4611686018427387904) (hSh:∀ v y,parse s=.ok v []→memJ v evsB 5#8=some y→∀ z∈y.l,Shrt 4194304 2 z):FnR Tryd.prog tds 25 1 [[.past W ms]] [.c (.str (U8 s))] (fun _=>True) (PrsA W ms (parseM s)):=by
 refine fn_of_bodyW tds_ok follows_ Tryd.func25 rfl (t:=.a (.c (.str (U8 s)))::anys (Tryd.f25.ntmps-1)) rfl (fun w r0 hr0 _=>?_)
 obtain ⟨x0,rfl⟩:=len1' hr0
 (repeat show _∧_;first|refine yr ?_|refine yt ?_|refine yf ?_|refine yo ?_)
 refine call_past (fn_parse hT s hs0) 0 [] rfl rfl (by (repeat first|exact trivial|refine ent1 ?_)) (by (repeat first|exact trivial|refine ent1 ?_)) (fun _ _=>trivial) (fun x hs hr=>?_) ?_
 ·rcases hr with ⟨_,_,W5,ms5,_,hL5,_,_,rfl⟩|⟨_,_,W5,ms5,_,_,_,hL5,_,rfl⟩
  ·exact ⟨W5,ms5,rfl,hL5⟩
  ·exact ⟨W5,ms5,rfl,hL5⟩
 rintro y hs (⟨v,x,W1,ms1,hp,hL1,hx,rfl,rfl⟩|⟨e,k,W1,ms1,hp,he,hk,hL1,rfl,rfl⟩)
 rotate_left
 ·have hM:parseM s=.inr e:=by unfold parseM; rw [hp]
  have k1:decide (e≠0)=true:=decide_eq_true he
  rw [hM]
  (repeat show _∧_;first|refine yr ?_|refine yt ?_|refine yf ?_|refine yt ?_ (by first|decide|(rw[k1];decide))|refine yf ?_ (by first|decide|(rw[k1];decide))|refine yo ?_)
  (repeat show _∧_;first|refine yr ?_|refine yt ?_|refine yf ?_|refine yo ?_)
  exact FinW.of ⟨.tup [.c (.slc none 0 0),.c (.int .i64 e)],_,⟨[0],⟨rfl,rfl,rfl⟩,by (repeat first|exact trivial|refine ent1 ?_)⟩,he,W1,ms1,hL1,rfl,rfl⟩
 have hxl:=hx.len
 (repeat show _∧_;first|refine yr ?_|refine yt ?_|refine yf ?_|refine yo ?_)
 (repeat show _∧_;first|refine yr ?_|refine yt ?_|refine yf ?_|refine yo ?_)
 refine call_same (fn_index hx.ns verB) [0] rfl (by (repeat first|exact trivial|refine ent1 ?_)) (by (repeat first|exact trivial|refine ent1 ?_)) (fun _ _=>trivial) ?_
 rintro y hs ⟨rfl,rfl⟩
 (repeat show _∧_;first|refine yr ?_|refine yt ?_|refine yf ?_|refine yo ?_)
 refine call_same (fn_qmember hx evsB 5#8) [0] rfl (by (repeat first|exact trivial|refine ent1 ?_)) (by (repeat first|exact trivial|refine ent1 ?_)) (fun _ _=>trivial) ?_
 intro y hs h
 obtain ⟨rfl,v1,x1,b1,rfl,h1,h1'⟩:=h.gen
 clear h
 (repeat show _∧_;first|refine yr ?_|refine yt ?_|refine yf ?_|refine yo ?_)
 refine call_same (fn_qhas hx 2) [0] rfl (by (repeat first|exact trivial|refine ent1 ?_)) (by (repeat first|exact trivial|refine ent1 ?_)) (fun _ _=>trivial) ?_
 rintro y hs ⟨rfl,rfl⟩
 cases hh:hasJ v 2
 ·rw [parse_no hp (.inl hh)]
  (repeat show _∧_;first|refine yr ?_|refine yt ?_|refine yf ?_|refine yo ?_)
  (repeat show _∧_;first|refine yr ?_|refine yt ?_|refine yf ?_|refine yo ?_)
  exact FinW.of ⟨.tup [.c (.slc none 0 0),.c (.int .i64 4)],_,⟨[0],⟨rfl,rfl,rfl⟩,by (repeat first|exact trivial|refine ent1 ?_)⟩,by decide,W1,ms1,hL1,rfl,rfl⟩
 cases hI:idxN verB v.ns with
 | none =>
  rw [parse_no hp (.inr (.inl hI))]
  have e0:decide (idxI none<0)=true:=rfl
  (repeat show _∧_;first|refine yr ?_|refine yt ?_|refine yf ?_|refine yt ?_ (by first|decide|(rw[e0];decide))|refine yf ?_ (by first|decide|(rw[e0];decide))|refine yo ?_)
  (repeat show _∧_;first|refine yr ?_|refine yt ?_|refine yf ?_|refine yo ?_)
  exact FinW.of ⟨.tup [.c (.slc none 0 0),.c (.int .i64 4)],_,⟨[0],⟨rfl,rfl,rfl⟩,by (repeat first|exact trivial|refine ent1 ?_)⟩,by decide,W1,ms1,hL1,rfl,rfl⟩
 | some i =>
 rw [show idxI (some i)=(i:Int) from rfl]
 have e0:decide ((i:Int)<0)=false:=decide_eq_false (by omega)
 cases b1
 ·rw [parse_no hp (.inr (.inr (h1' rfl)))]
  (repeat show _∧_;first|refine yr ?_|refine yt ?_|refine yf ?_|refine yt ?_ (by first|decide|(rw[e0];decide))|refine yf ?_ (by first|decide|(rw[e0];decide))|refine yo ?_)
  (repeat show _∧_;first|refine yr ?_|refine yt ?_|refine yf ?_|refine yo ?_)
  exact FinW.of ⟨.tup [.c (.slc none 0 0),.c (.int .i64 4)],_,⟨[0],⟨rfl,rfl,rfl⟩,by (repeat first|exact trivial|refine ent1 ?_)⟩,by decide,W1,ms1,hL1,rfl,rfl⟩
 obtain ⟨m1,t1⟩:=h1 rfl
 have hin:=idxN_lt hI
 have hvl:v.l.length=2∧v.ns.length=2:=by
  unfold hasJ at hh
  simp only [Bool.and_eq_true,decide_eq_true_eq] at hh
  exact ⟨hh.2.2,hh.2.1⟩
 have hi:i<v.l.length:=by omega
 obtain ⟨A,xv,hA,him,y1,y2⟩:=hx.elt hi
 have hM:parseM s=if v.l[i].k=4#8∧v.l[i].s=v03B then if 2048<v1.l.length then .inr 7 else evsF v1.l 0#64 else .inr 12:=by
  unfold parseM
  rw [hp]
  dsimp only
  rw [hI,m1]
  dsimp only
  rw [hh,if_neg (by decide),List.getElem?_eq_getElem hi]
 have hSh2:=hSh v v1 hp m1
 obtain ⟨xa,xm,xc,xb,xp,xq⟩:=x
 dsimp only at hA him hxl
 subst hA
 generalize v.l[i]=u at y1 y2 hM
 (repeat show _∧_;first|refine yr ?_|refine yt ?_|refine yf ?_|refine yt ?_ (by first|decide|(rw[e0];decide))|refine yf ?_ (by first|decide|(rw[e0];decide))|refine yo ?_)
 (repeat show _∧_;first|refine yr ?_|refine yt ?_|refine yf ?_|refine yt ?_ (by first|decide|(rw[e0];decide))|refine yf ?_ (by first|decide|(rw[e0];decide))|refine yo ?_)
 (repeat show _∧_;first|refine yr ?_|refine yt ?_|refine yf ?_|refine yo ?_)
 refine And.intro (show (0:Int)≤(i:Int)∧(i:Int)<(xm:Int) by omega) ?_
 refine ⟨jvS u xv,⟨.past (i:=0) rfl (by exact y1),rfl⟩,?_⟩
 by_cases k4:u.k=4#8
 rotate_left
 ·have f4:decide (u.k≠4#8)=true:=decide_eq_true k4
  rw [if_neg (fun h=>k4 h.1)] at hM
  rw [hM]
  (repeat show _∧_;first|refine yr ?_|refine yt ?_|refine yf ?_|refine yt ?_ (by first|decide|(rw[f4];decide))|refine yf ?_ (by first|decide|(rw[f4];decide))|refine yo ?_)
  (repeat show _∧_;first|refine yr ?_|refine yt ?_|refine yf ?_|refine yt ?_ (by first|decide|(rw[f4];decide))|refine yf ?_ (by first|decide|(rw[f4];decide))|refine yo ?_)
  exact FinW.of ⟨.tup [.c (.slc none 0 0),.c (.int .i64 12)],_,⟨[0],⟨rfl,rfl,rfl⟩,by (repeat first|exact trivial|refine ent1 ?_)⟩,by decide,W1,ms1,hL1,rfl,rfl⟩
 have f4:decide (u.k≠4#8)=false:=decide_eq_false (not_not_intro k4)
 (repeat show _∧_;first|refine yr ?_|refine yt ?_|refine yf ?_|refine yt ?_ (by first|decide|(rw[f4];decide))|refine yf ?_ (by first|decide|(rw[f4];decide))|refine yo ?_)
 (repeat show _∧_;first|refine yr ?_|refine yt ?_|refine yf ?_|refine yt ?_ (by first|decide|(rw[f4];decide))|refine yf ?_ (by first|decide|(rw[f4];decide))|refine yo ?_)
 by_cases k5:u.s=v03B
 rotate_left
 ·have f5:decide (U8 u.s≠[48,46,51])=true:=decide_eq_true (fun e=>k5 (U8_inj (e.trans (by decide))))
  have f6:decide (U8 u.s=[48,46,51])=false:=decide_eq_false (fun e=>k5 (U8_inj (e.trans (by decide))))
  rw [if_neg (fun h=>k5 h.2)] at hM
  rw [hM]
  (repeat show _∧_;first|refine yr ?_|refine yt ?_|refine yf ?_|refine yt ?_ (by first|decide|(rw[f5];decide)|(rw[f6];decide))|refine yf ?_ (by first|decide|(rw[f5];decide)|(rw[f6];decide))|refine yo ?_)
  (repeat show _∧_;first|refine yr ?_|refine yt ?_|refine yf ?_|refine yt ?_ (by first|decide|(rw[f5];decide)|(rw[f6];decide))|refine yf ?_ (by first|decide|(rw[f5];decide)|(rw[f6];decide))|refine yo ?_)
  exact FinW.of ⟨.tup [.c (.slc none 0 0),.c (.int .i64 12)],_,⟨[0],⟨rfl,rfl,rfl⟩,by (repeat first|exact trivial|refine ent1 ?_)⟩,by decide,W1,ms1,hL1,rfl,rfl⟩
 have f5:decide (U8 u.s≠[48,46,51])=false:=decide_eq_false (not_not_intro (by rw [k5]; decide))
 have f6:decide (U8 u.s=[48,46,51])=true:=decide_eq_true (by rw [k5]; decide)
 rw [if_pos ⟨k4,k5⟩] at hM
 (repeat show _∧_;first|refine yr ?_|refine yt ?_|refine yf ?_|refine yt ?_ (by first|decide|(rw[f5];decide)|(rw[f6];decide))|refine yf ?_ (by first|decide|(rw[f5];decide)|(rw[f6];decide))|refine yo ?_)
 obtain ⟨ya,ym,yc,yb,yp,yq⟩:=x1
 have hyl:=t1.len
 dsimp only at hyl
 have hcap:=t1.1.2.2.1
 dsimp only at hcap
 by_cases hn:2048<ym
 ·have k7:decide ((2048:Int)<(ym:Int))=true:=decide_eq_true (by omega)
  rw [if_pos (by omega)] at hM
  rw [hM]
  (repeat show _∧_;first|refine yr ?_|refine yt ?_|refine yf ?_|refine yt ?_ (by first|decide|(rw[k7];decide))|refine yf ?_ (by first|decide|(rw[k7];decide))|refine yo ?_)
  (repeat show _∧_;first|refine yr ?_|refine yt ?_|refine yf ?_|refine yt ?_ (by first|decide|(rw[k7];decide))|refine yf ?_ (by first|decide|(rw[k7];decide))|refine yo ?_)
  exact FinW.of ⟨.tup [.c (.slc none 0 0),.c (.int .i64 7)],_,⟨[0],⟨rfl,rfl,rfl⟩,by (repeat first|exact trivial|refine ent1 ?_)⟩,by decide,W1,ms1,hL1,rfl,rfl⟩
 have k7:decide ((2048:Int)<(ym:Int))=false:=decide_eq_false (by omega)
 rw [if_neg (by omega)] at hM
 (repeat show _∧_;first|refine yr ?_|refine yt ?_|refine yf ?_|refine yt ?_ (by first|decide|(rw[k7];decide))|refine yf ?_ (by first|decide|(rw[k7];decide))|refine yo ?_)
 (repeat show _∧_;first|refine yr ?_|refine yt ?_|refine yf ?_|refine yt ?_ (by first|decide|(rw[k7];decide))|refine yf ?_ (by first|decide|(rw[k7];decide))|refine yo ?_)
 refine .inl ⟨Nat × BitVec 64 × Option (List Ev × List SC × Nat) × World × List Nat,fun y=>match y with
  | (j,t,none,W',ms')=>⟨[.any,.any,.any,.any,.any,.any,.any,.any,.a (.c (.p 1 0 0)),.any,.any,.a (.c (.slc none 0 0)),.a (.c (.w64 (t))),.any,.any,.any,.any,.any,.any,.any,.any,.any,.any,.any,.any,.any,.any,.any,.any,.any,.any,.any,.any,.any,.any,.any,.any,.any,.any,.any,.any,.any,.any,.any,.any,.any,.any,.any,.any,.any,.any,.any,.any,.any,.any,.any,.any,.any,.any,.any,.any,.any,.any,.a (.c (.slc ya ym yc)),.a (.c (.int .i64 (ym))),.a (.c (.int .i64 (((j:Nat):Int)))),.any,.any,.any,.any,.any,.any,.any,.any,.any,.any,.any,.any,.any,.any,.any,.any,.any,.any,.any,.any,.any,.any,.any,.any,.any,.any,.any,.any,.any,.any,.any],[[.past W' ms'],jvS v1 ⟨ya,ym,yc,yb,yp,yq⟩]⟩
  | (j,t,some (done,cs,cc),W',ms')=>⟨[.any,.any,.any,.any,.any,.any,.any,.any,.a (.c (.p 1 0 0)),.any,.any,.a (.c (.sl 2 0 0 j cc)),.a (.c (.w64 (t))),.any,.any,.any,.any,.any,.any,.any,.any,.any,.any,.any,.any,.any,.any,.any,.any,.any,.any,.any,.any,.any,.any,.any,.any,.any,.any,.any,.any,.any,.any,.any,.any,.any,.any,.any,.any,.any,.any,.any,.any,.any,.any,.any,.any,.any,.any,.any,.any,.any,.any,.a (.c (.slc ya ym yc)),.a (.c (.int .i64 (ym))),.a (.c (.int .i64 (((j:Nat):Int)))),.any,.any,.any,.any,.any,.any,.any,.any,.any,.any,.any,.any,.any,.any,.any,.any,.any,.any,.any,.any,.any,.any,.any,.any,.any,.any,.any,.any,.any,.any,.any],[[.past W' ms'],jvS v1 ⟨ya,ym,yc,yb,yp,yq⟩,[.row (scale cc (3+1)) (nthC cs)]]⟩,
  fun y=>match y with
  | (j,t,none,W',ms')=>j=0∧t=0#64∧Later W1 ms1 W' ms'
  | (j,t,some (done,cs,cc),W',ms')=>0<j∧j≤ym∧j≤cc∧done.length=j∧Later W1 ms1 W' ms'∧parseM s=preE done (evsF (v1.l.drop j) t)∧RowAt W' ms' cs done,fun y=>ym-y.1,⟨(0,0#64,none,W1,ms1),[0,2],⟨⟨rfl,rfl,rfl⟩,by (repeat first|exact trivial|refine ent1 ?_)⟩,rfl,rfl,Later.refl _ _⟩,fun y hy=>?_⟩
 rcases y with ⟨j,t,_|⟨done,cs,cc⟩,W',ms'⟩
 ·obtain ⟨rfl,rfl,hL'⟩:=hy
  dsimp only
  have hPj:parseM s=preE [] (evsF (v1.l.drop 0) 0#64):=by rw [List.drop_zero,evsF_pre]; exact hM
  by_cases hj:0<ym
  rotate_left
  ·have e1:decide (((0:Nat):Int)<(ym:Int))=false:=decide_eq_false (by omega)
   have hP:parseM s=.inl []:=by rw [hPj,List.drop_eq_nil_of_le (by omega)]; simp [evsF,preE]
   rw [hP]
   (repeat show _∧_;first|refine yr ?_|refine yt ?_|refine yf ?_|refine yt ?_ (by first|decide|(rw[e1];decide))|refine yf ?_ (by first|decide|(rw[e1];decide))|refine yo ?_)
   exact FinW.of ⟨.tup [.c (.slc none 0 0),.c (.int .i64 0)],_,⟨[0],⟨rfl,rfl,rfl⟩,by (repeat first|exact trivial|refine ent1 ?_)⟩,none,0,0,W',ms',hL1.trans hL',EvsAt.nul,rfl,rfl⟩
  have e1:decide (((0:Nat):Int)<(ym:Int))=true:=decide_eq_true (by omega)
  have hjl:0<v1.l.length:=by omega
  obtain ⟨B,xz,hB,him2,z1,z2⟩:=(t1.later hL').elt hjl
  dsimp only at hB him2
  subst hB
  have hzS:=hSh2 _ (List.getElem_mem hjl)
  have hlast:decide (((0:Nat):Int)+1=(ym:Int))=(v1.l.drop (0+1)).isEmpty:=by
   by_cases hz:0+1=ym
   ·rw [List.drop_eq_nil_of_le (by omega)]; exact decide_eq_true (by omega)
   ·rw [List.drop_eq_getElem_cons (show 0+1<v1.l.length by omega)]; exact decide_eq_false (by omega)
  rw [List.drop_eq_getElem_cons hjl] at hPj
  generalize (v1.l[0]'hjl)=z at z1 z2 hzS hPj
  (repeat show _∧_;first|refine yr ?_|refine yt ?_|refine yf ?_|refine yt ?_ (by first|decide|(rw[e1];decide))|refine yf ?_ (by first|decide|(rw[e1];decide))|refine yo ?_)
  refine ⟨jvS z xz,⟨.past (i:=0) rfl (by exact z1),rfl⟩,?_⟩
  (repeat show _∧_;first|refine yr ?_|refine yt ?_|refine yf ?_|refine yo ?_)
  refine call_past (fn_qevent (d:=4) z2 hzS) 0 [] rfl rfl (by (repeat first|exact trivial|refine ent1 ?_)) (by (repeat first|exact trivial|refine ent1 ?_)) (fun _ _=>trivial) (fun x hs hr=>?_) ?_
  ·unfold EvA at hr
   split at hr
   ·obtain ⟨_,W5,ms5,hL5,_,rfl⟩:=hr
    exact ⟨W5,ms5,rfl,hL5⟩
   ·obtain ⟨_,W5,ms5,hL5,_,_,rfl⟩:=hr
    exact ⟨W5,ms5,rfl,hL5⟩
  intro y hs hr
  cases hE:evOf z with
  | inr c =>
   rw [hE] at hr
   obtain ⟨hc0,W5,ms5,hL5,rfl,rfl⟩:=hr
   have f0:decide (c=0)=false:=decide_eq_false hc0
   have f1:decide (c≠0)=true:=decide_eq_true hc0
   rw [evsF_bad _ hE] at hPj
   rw [hPj]
   (repeat show _∧_;first|refine yr ?_|refine yt ?_|refine yf ?_|refine yt ?_ (by first|decide|(rw[f0];decide)|(rw[f1];decide))|refine yf ?_ (by first|decide|(rw[f0];decide)|(rw[f1];decide))|refine yo ?_)
   (repeat show _∧_;first|refine yr ?_|refine yt ?_|refine yf ?_|refine yt ?_ (by first|decide|(rw[f0];decide)|(rw[f1];decide))|refine yf ?_ (by first|decide|(rw[f0];decide)|(rw[f1];decide))|refine yo ?_)
   exact FinW.of ⟨.tup [.c (.slc none 0 0),.c (.int .i64 c)],_,⟨[0],⟨rfl,rfl,rfl⟩,by (repeat first|exact trivial|refine ent1 ?_)⟩,hc0,W5,ms5,(hL1.trans hL').trans hL5,rfl,rfl⟩
  | inl e =>
  rw [hE] at hr
  obtain ⟨x,W5,ms5,hL5,hxe,rfl,rfl⟩:=hr
  (repeat show _∧_;first|refine yr ?_|refine yt ?_|refine yf ?_|refine yo ?_)
  refine call_same (fn_qfoll (W:=W5) (ms:=ms5) (x:=x) (e:=e) 0#64 (decide (((0:Nat):Int)+1=(ym:Int)))) [0] rfl (by (repeat first|exact trivial|refine ent1 ?_)) (by (repeat first|exact trivial|refine ent1 ?_)) (fun _ _=>trivial) ?_
  rintro y hs ⟨rfl,rfl⟩
  by_cases hf:follM e 0#64 (decide (((0:Nat):Int)+1=(ym:Int)))=0
  rotate_left
  ·have f1:decide (follM e 0#64 (decide (((0:Nat):Int)+1=(ym:Int)))≠0)=true:=decide_eq_true hf
   rw [evsF_fol _ hE (by rw [← hlast]; exact hf),← hlast] at hPj
   rw [hPj]
   (repeat show _∧_;first|refine yr ?_|refine yt ?_|refine yf ?_|refine yt ?_ (by first|decide|(rw[f1];decide))|refine yf ?_ (by first|decide|(rw[f1];decide))|refine yo ?_)
   (repeat show _∧_;first|refine yr ?_|refine yt ?_|refine yf ?_|refine yt ?_ (by first|decide|(rw[f1];decide))|refine yf ?_ (by first|decide|(rw[f1];decide))|refine yo ?_)
   exact FinW.of ⟨.tup [.c (.slc none 0 0),.c (.int .i64 (follM e 0#64 (decide (((0:Nat):Int)+1=(ym:Int)))))],_,⟨[0],⟨rfl,rfl,rfl⟩,by (repeat first|exact trivial|refine ent1 ?_)⟩,hf,W5,ms5,(hL1.trans hL').trans hL5,rfl,rfl⟩
  have f1:decide (follM e 0#64 (decide (((0:Nat):Int)+1=(ym:Int)))≠0)=false:=decide_eq_false (not_not_intro hf)
  rw [evsF_step _ hE (by rw [← hlast]; exact hf)] at hPj
  (repeat show _∧_;first|refine yr ?_|refine yt ?_|refine yf ?_|refine yt ?_ (by first|decide|(rw[f1];decide))|refine yf ?_ (by first|decide|(rw[f1];decide))|refine yo ?_)
  refine And.intro (show 0+4≤4 by decide) ?_
  (repeat show _∧_;first|refine yr ?_|refine yt ?_|refine yf ?_|refine yo ?_)
  intro c2 hc2
  (repeat show _∧_;first|refine yr ?_|refine yt ?_|refine yf ?_|refine yo ?_)
  refine ⟨(1,e.t,some ([e],flat (evS e x),c2),W5,ms5),[0,1,5],⟨⟨rfl,rfl,rfl⟩,?_⟩,⟨Nat.zero_lt_one,hj,hc2,rfl,hL'.trans hL5,hPj,RowAt.nil.snoc hxe⟩,by dsimp only; omega⟩
  dsimp only
  (repeat first|exact trivial|refine ent1 ?_)
  exact ⟨fun j hj=>eqC_cs ((RowAt.nil (W:=W5) (ms:=ms5)).snoc hxe).raw (new_cs rfl fun j hj=>updN_new hj) j,by (repeat first|exact trivial|refine ent1 ?_)⟩
 ·obtain ⟨hj0,hjn,hjc,hdl,hL',hPj,hrow⟩:=hy
  dsimp only
  by_cases hj:j<ym
  rotate_left
  ·have e1:decide (((j:Nat):Int)<(ym:Int))=false:=decide_eq_false (by omega)
   have hP:parseM s=.inl done:=by rw [hPj,List.drop_eq_nil_of_le (by omega)]; simp [evsF,preE]
   rw [hP]
   (repeat show _∧_;first|refine yr ?_|refine yt ?_|refine yf ?_|refine yt ?_ (by first|decide|(rw[e1];decide))|refine yf ?_ (by first|decide|(rw[e1];decide))|refine yo ?_)
   refine finW_frz [0] rfl (Nat.zero_lt_one) cx0_m rfl (fun W9 ms9 α hL9 hI=>?_)
   refine ⟨.tup [.c (.slc (some ((α 2).add (0+0))) j cc),.c (.int .i64 0)],[],⟨⟨rfl,rfl,rfl⟩,?_⟩,some ((α 2).add (0+0)),j,cc,W9,ms9,(hL1.trans hL').trans hL9,hrow.frz (F:=fun j=>!memB j [0]) hL9 (hI 2 rfl) hdl hjc (by omega),rfl,rfl⟩
   (repeat first|exact trivial|refine ent1 ?_)
  have e1:decide (((j:Nat):Int)<(ym:Int))=true:=decide_eq_true (by omega)
  have hjl:j<v1.l.length:=by omega
  obtain ⟨B,xz,hB,him2,z1,z2⟩:=(t1.later hL').elt hjl
  dsimp only at hB him2
  subst hB
  have hzS:=hSh2 _ (List.getElem_mem hjl)
  have hlast:decide (((j:Nat):Int)+1=(ym:Int))=(v1.l.drop (j+1)).isEmpty:=by
   by_cases hz:j+1=ym
   ·rw [List.drop_eq_nil_of_le (by omega)]; exact decide_eq_true (by omega)
   ·rw [List.drop_eq_getElem_cons (show j+1<v1.l.length by omega)]; exact decide_eq_false (by omega)
  rw [List.drop_eq_getElem_cons hjl] at hPj
  generalize (v1.l[j]'hjl)=z at z1 z2 hzS hPj
  (repeat show _∧_;first|refine yr ?_|refine yt ?_|refine yf ?_|refine yt ?_ (by first|decide|(rw[e1];decide))|refine yf ?_ (by first|decide|(rw[e1];decide))|refine yo ?_)
  refine ⟨jvS z xz,⟨.past (i:=0) rfl (by exact z1),rfl⟩,?_⟩
  (repeat show _∧_;first|refine yr ?_|refine yt ?_|refine yf ?_|refine yo ?_)
  refine call_past (fn_qevent (d:=4) z2 hzS) 0 [] rfl rfl (by (repeat first|exact trivial|refine ent1 ?_)) (by (repeat first|exact trivial|refine ent1 ?_)) (fun _ _=>trivial) (fun x hs hr=>?_) ?_
  ·unfold EvA at hr
   split at hr
   ·obtain ⟨_,W5,ms5,hL5,_,rfl⟩:=hr
    exact ⟨W5,ms5,rfl,hL5⟩
   ·obtain ⟨_,W5,ms5,hL5,_,_,rfl⟩:=hr
    exact ⟨W5,ms5,rfl,hL5⟩
  intro y hs hr
  cases hE:evOf z with
  | inr c =>
   rw [hE] at hr
   obtain ⟨hc0,W5,ms5,hL5,rfl,rfl⟩:=hr
   have f0:decide (c=0)=false:=decide_eq_false hc0
   have f1:decide (c≠0)=true:=decide_eq_true hc0
   rw [evsF_bad _ hE] at hPj
   rw [hPj]
   (repeat show _∧_;first|refine yr ?_|refine yt ?_|refine yf ?_|refine yt ?_ (by first|decide|(rw[f0];decide)|(rw[f1];decide))|refine yf ?_ (by first|decide|(rw[f0];decide)|(rw[f1];decide))|refine yo ?_)
   (repeat show _∧_;first|refine yr ?_|refine yt ?_|refine yf ?_|refine yt ?_ (by first|decide|(rw[f0];decide)|(rw[f1];decide))|refine yf ?_ (by first|decide|(rw[f0];decide)|(rw[f1];decide))|refine yo ?_)
   exact FinW.of ⟨.tup [.c (.slc none 0 0),.c (.int .i64 c)],_,⟨[0],⟨rfl,rfl,rfl⟩,by (repeat first|exact trivial|refine ent1 ?_)⟩,hc0,W5,ms5,(hL1.trans hL').trans hL5,rfl,rfl⟩
  | inl e =>
  rw [hE] at hr
  obtain ⟨x,W5,ms5,hL5,hxe,rfl,rfl⟩:=hr
  (repeat show _∧_;first|refine yr ?_|refine yt ?_|refine yf ?_|refine yo ?_)
  refine call_same (fn_qfoll (W:=W5) (ms:=ms5) (x:=x) (e:=e) t (decide (((j:Nat):Int)+1=(ym:Int)))) [0] rfl (by (repeat first|exact trivial|refine ent1 ?_)) (by (repeat first|exact trivial|refine ent1 ?_)) (fun _ _=>trivial) ?_
  rintro y hs ⟨rfl,rfl⟩
  by_cases hf:follM e t (decide (((j:Nat):Int)+1=(ym:Int)))=0
  rotate_left
  ·have f1:decide (follM e t (decide (((j:Nat):Int)+1=(ym:Int)))≠0)=true:=decide_eq_true hf
   rw [evsF_fol _ hE (by rw [← hlast]; exact hf),← hlast] at hPj
   rw [hPj]
   (repeat show _∧_;first|refine yr ?_|refine yt ?_|refine yf ?_|refine yt ?_ (by first|decide|(rw[f1];decide))|refine yf ?_ (by first|decide|(rw[f1];decide))|refine yo ?_)
   (repeat show _∧_;first|refine yr ?_|refine yt ?_|refine yf ?_|refine yt ?_ (by first|decide|(rw[f1];decide))|refine yf ?_ (by first|decide|(rw[f1];decide))|refine yo ?_)
   exact FinW.of ⟨.tup [.c (.slc none 0 0),.c (.int .i64 (follM e t (decide (((j:Nat):Int)+1=(ym:Int)))))],_,⟨[0],⟨rfl,rfl,rfl⟩,by (repeat first|exact trivial|refine ent1 ?_)⟩,hf,W5,ms5,(hL1.trans hL').trans hL5,rfl,rfl⟩
  have f1:decide (follM e t (decide (((j:Nat):Int)+1=(ym:Int)))≠0)=false:=decide_eq_false (not_not_intro hf)
  rw [evsF_step _ hE (by rw [← hlast]; exact hf)] at hPj
  (repeat show _∧_;first|refine yr ?_|refine yt ?_|refine yf ?_|refine yt ?_ (by first|decide|(rw[f1];decide))|refine yf ?_ (by first|decide|(rw[f1];decide))|refine yo ?_)
  refine And.intro (show 0+4≤4 by decide) ?_
  refine And.intro (show 0+scale 1 (3+1)≤4 by decide) ?_
  refine And.intro ⟨hjc,by first|omega|(rw [sc4]; omega),show (j+1)*64≤140737488355328 by omega⟩ ?_
  intro c2 hc2
  (repeat show _∧_;first|refine yr ?_|refine yt ?_|refine yf ?_|refine yo ?_)
  have hrw:RowAt W5 ms5 (cs++flat (evS e x)) (done++[e]):=(hrow.later hL5).snoc hxe
  refine ⟨(j+1,e.t,some (done++[e],cs++flat (evS e x),c2),W5,ms5),[0,1,6],⟨⟨rfl,rfl,rfl⟩,?_⟩,⟨by omega,hj,hc2,by rw [List.length_append,hdl]; rfl,hL'.trans hL5,hPj,hrw⟩,by dsimp only; omega⟩
  dsimp only
  (repeat first|exact trivial|refine ent1 ?_)
  exact ⟨fun j hj=>eqC_cs hrw.raw (app_cs (by rw [hrow.len,hdl]) (fun _ _=>rfl) rfl fun j hj=>updN_new hj) j,by (repeat first|exact trivial|refine ent1 ?_)⟩
end Sx
end
section
namespace Qj
open Sha Vi Js Ev
theorem enc_qr (r:Nat):(enc r).length≤(qr r).length:=by
 by_cases h:r<128
 ·have h1:(enc r).length=1:=by unfold enc; rw [if_pos h]; rfl
  have:=qr_pos r
  omega
 ·unfold qr
  rw [if_neg (by omega),if_neg (by omega),if_neg (by omega),if_neg (by omega),if_neg (by omega)]
  exact Nat.le_refl _
theorem flat_qr:∀ l:List Nat,(l.flatMap enc).length≤(l.flatMap qr).length
 | []=>Nat.le_refl _
 | r::l=>by
  have h1:=enc_qr r
  have h2:=flat_qr l
  rw [List.flatMap_cons,List.flatMap_cons,List.length_append,List.length_append]
  omega
theorem quote_len {s:Bs} (h:Utf s):s.length≤(quote s).length:=by
 obtain ⟨rs,h1,rfl⟩:=h
 rw [quote_of h1,List.length_cons,List.length_append]
 have:=flat_qr rs
 omega
theorem putL_mem {pv:JT→Bs}:∀ {l:List JT} {x:JT},x∈l→(pv x).length≤(putL pv l).length
 | [],x,h=>by cases h
 | [y],x,h=>by
  rw [List.mem_singleton] at h
  subst h
  exact Nat.le_refl _
 | y::z::l,x,h=>by
  rw [putL_cons _ _ _ (by simp),List.length_append,List.length_cons]
  rcases List.mem_cons.1 h with rfl|h
  ·omega
  ·have:=putL_mem (pv:=pv) h
   omega
theorem putO_mem {pv:JT→Bs}:∀ {ns:List Bs} {l:List JT} {x:JT},ns.length=l.length→x∈l→(pv x).length≤(putO pv ns l).length
 | _,[],x,_,h=>by cases h
 | [],_::_,x,hl,_=>by simp at hl
 | s::ns,[y],x,_,h=>by
  rw [List.mem_singleton] at h
  subst h
  show (pv x).length≤(quote s++58#8::pv x).length
  rw [List.length_append,List.length_cons]
  omega
 | s::ns,y::z::l,x,hl,h=>by
  rw [putO_cons _ _ _ _ _ (by simp),List.length_append,List.length_cons,List.length_append,List.length_cons]
  rcases List.mem_cons.1 h with rfl|h
  ·omega
  ·have:=putO_mem (pv:=pv) (ns:=ns) (by simpa using hl) h
   omega
theorem leaf_s {d:Nat} {v:JT} (h:leaf v):v.s.length≤(put d v).length:=by
 rw [put_leaf h]
 obtain ⟨_,_,_,hs,_,hu⟩:=h
 rcases hs with h4|h0
 ·unfold put1
  rw [h4,if_neg (by decide),if_neg (by decide),if_neg (by decide),if_neg (by decide),if_pos rfl]
  exact quote_len hu
 ·rw [h0]; exact Nat.zero_le _
theorem norm_s:∀ {d:Nat} {v:JT},norm d v→v.s.length≤(put d v).length
 | 0,_,h=>leaf_s h
 | d+1,v,h=>by
  rcases h with h|⟨_,hs,_⟩
  ·exact leaf_s h
  ·rw [hs]; exact Nat.zero_le _
theorem norm_kid:∀ {d:Nat} {v x:JT},norm d v→x∈v.l→∃ e,norm e x∧(put e x).length≤(put d v).length
 | 0,v,x,h,hx=>by rw [h.1] at hx; cases hx
 | d+1,v,x,h,hx=>by
  rcases h with h|⟨_,_,hl,hk⟩
  ·rw [h.1] at hx; cases hx
  ·refine ⟨d,hl x hx,?_⟩
   show _≤(put1 (putL (put d)) (putO (put d)) v).length
   unfold put1
   rcases hk with ⟨hk,_⟩|⟨hk,hn,_⟩
   ·rw [hk,if_neg (by decide),if_neg (by decide),if_neg (by decide),if_neg (by decide),if_neg (by decide),if_pos rfl,List.length_cons,List.length_append]
    have:=putL_mem (pv:=put d) hx
    omega
   ·rw [hk,if_neg (by decide),if_neg (by decide),if_neg (by decide),if_neg (by decide),if_neg (by decide),if_neg (by decide),List.length_cons,List.length_append]
    have:=putO_mem (pv:=put d) hn hx
    omega
end Qj
namespace Sx
open Go.RowKit Sha Vi Js Ev Qj
theorem shrt_of {N:Nat}:∀ (k:Nat) {d:Nat} {v:JT},norm d v→(put d v).length≤N→Shrt N k v
 | 0,d,v,h,hl=>Nat.le_trans (norm_s h) hl
 | k+1,d,v,h,hl=>⟨Nat.le_trans (norm_s h) hl,fun x hx=>let ⟨e,h1,h2⟩:=norm_kid h hx; shrt_of k h1 (Nat.le_trans h2 hl)⟩
theorem memJ_mem {v y:JT} {s:Bs} {k:BitVec 8} (h:memJ v s k=some y):y∈v.l:=by
 unfold memJ at h
 split at h
 ·cases h
 ·rename_i i _
  split at h
  ·cases h
  ·rename_i x hx
   split at h
   ·injection h with h
    subst h
    exact List.mem_of_getElem? hx
   ·cases h
theorem parse_shrt {s:Bs} {v y:JT} (hp:parse s=.ok v []) (hm:memJ v evsB 5#8=some y) (z:JT) (hz:z∈y.l):Shrt 4194304 2 z:=by
 have hs:s.length≤1048576:=by
  by_cases h:1048576<s.length
  ·unfold parse at hp
   rw [if_pos h] at hp
   cases hp
  ·omega
 obtain ⟨h1,h2⟩:=parse_ok hp
 obtain ⟨e,h3,h4⟩:=norm_kid h1 (memJ_mem hm)
 obtain ⟨f,h5,h6⟩:=norm_kid h3 hz
 exact shrt_of 2 h5 (by omega)
theorem fn_qparse' {W:World} {ms:List Nat} (hT:Tabs W ms) (s:Bs) (hs0:s.length≤4611686018427387904):FnR Tryd.prog tds 25 1 [[.past W ms]] [.c (.str (U8 s))] (fun _=>True) (PrsA W ms (parseM s)) :=
 fn_qparse hT s hs0 fun _ _ hp hm z hz=>parse_shrt hp hm z hz
end Sx
end
section
namespace Qj
open Sha Js Ev
theorem print_parse {es:List Ev} (h:prtM es=0) (hl:es.length≤240):parseM (put 4 (rootJ es))=.inl es:=by
 obtain ⟨h8,e8⟩:=put_root h
 have hlen:=root_len h
 have hp:=parse_put h8 (by rw [e8]; omega)
 rw [e8] at hp
 exact parseM_back hp h
end Qj
namespace Sx
open Go.RowKit Sha Vi Js Ev Qj
theorem fn_qprint' {W:World} {ms:List Nat} {a:Option Addr} {n c:Nat} {es:List Ev} (hT:Tabs W ms) (h:EvsAt W ms a n c es):FnR Tryd.prog tds 24 1 [[.past W ms]] [.c (.slc a n c)] (fun _=>True) (PrtA W ms es) :=
 fn_qprint hT h fun hp=>⟨norm_root hp,by have h1:=root_len hp; have h2:=(prtM_ok hp).1; omega⟩
end Sx
end
section
namespace Sx
open Go.RowKit Sha Vi Js Ev Qj
theorem prt_nil:prtM []=0:=rfl
set_option maxRecDepth 20000 in
set_option maxHeartbeats 8000000 in
theorem fn_qawake {W:World} {ms:List Nat} (hT:Tabs W ms):FnR Tryd.prog tds 9 1 [[.past W ms]] [] (fun _=>True) (fun y hs=>∃ W' ms',Later W ms W' ms'∧y=.a (.c (.bool true))∧hs=[[.past W' ms']]):=by
 refine fn_of_bodyW tds_ok follows_ Tryd.func9 rfl (t:=anys (Tryd.f9.ntmps)) rfl (fun w r0 hr0 _=>?_)
 obtain ⟨x0,rfl⟩:=len1' hr0
 (repeat show _∧_;first|refine yr ?_|refine yt ?_|refine yf ?_|refine yo ?_)
 refine call_past (fn_qprint' (W:=W) (ms:=ms) (es:=[]) hT EvsAt.nul) 0 [] rfl rfl (by (repeat first|exact trivial|refine ent1 ?_)) (by (repeat first|exact trivial|refine ent1 ?_)) (fun _ _=>trivial) (fun x hs hr=>?_) ?_
 ·obtain ⟨W5,ms5,hL5,rfl,_⟩:=hr
  exact ⟨W5,ms5,rfl,hL5⟩
 rintro y hs ⟨W5,ms5,hL5,rfl,rfl⟩
 rw [if_pos prt_nil]
 have hb:U8 (put 4 (rootJ []))=[123,34,113,108,111,103,95,118,101,114,115,105,111,110,34,58,34,48,46,51,34,44,34,101,118,101,110,116,115,34,58,91,93,125]:=by decide +kernel
 rw [hb]
 (repeat show _∧_;first|refine yr ?_|refine yt ?_|refine yf ?_|refine yo ?_)
 (repeat show _∧_;first|refine yr ?_|refine yt ?_|refine yf ?_|refine yo ?_)
 exact FinW.of ⟨.a (.c (.bool true)),_,⟨[0],⟨rfl,rfl,rfl⟩,by (repeat first|exact trivial|refine ent1 ?_)⟩,W5,ms5,hL5,rfl,rfl⟩
end Sx
end
section
namespace Vi
open Sha
def longL (l:Bs):Bs:=putL (BitVec.ofNat 64 l.length)++l
theorem lenN_of {n:Nat} (h:n≤1000000):lenN (BitVec.ofNat 64 n)≠0:=by
 have:=lenN_spec (BitVec.ofNat 64 n)
 rw [BitVec.toNat_ofNat,Nat.mod_eq_of_lt (by omega)] at this
 omega
end Vi
namespace Sx
open Sha Vi

end Sx
end
section
namespace Ev
open Vi Sha
def evB (last:BitVec 64) (e:Ev):Bs:=putAll [BitVec.setWidth 64 e.k,e.t-last]++putAll e.N++(if evData e.k=true then longL e.D else [])
def encL:List Ev→BitVec 64→Bs→Bs × Int
 | [],_,b=>(b,0)
 | e::r,last,b=>if checkM e≠0 then ([],checkM e) else if e.t<last then ([],21) else if e.k=19#8∧r≠[] then ([],10) else encL r e.t (b++evB last e)
def encM (es:List Ev):Bs × Int:=if 2048<es.length then ([],7) else encL es 0#64 ([66#8,73#8,78#8,49#8]++putAll [BitVec.ofNat 64 es.length])
theorem lenN_lt {n:BitVec 64} (h:n.toNat<4611686018427387904):lenN n≠0:=by
 have:=lenN_spec n
 omega
structure EvOk (e:Ev):Prop where
 k:evOk e.k=true
 t:e.t.toNat≤1125899906842624
 N:e.N.length≤8
 D:e.D.length≤20
 n:∀ n∈e.N,lenN n≠0
theorem check_ok {e:Ev} (h:checkM e=0):EvOk e:=by
 unfold checkM at h
 cases h1:evOk e.k
 ·rw [h1,if_pos rfl] at h; cases h
 rw [h1,if_neg (by decide)] at h
 by_cases h2:1125899906842624#64<e.t
 ·rw [if_pos h2] at h; cases h
 rw [if_neg h2] at h
 by_cases h3:e.N.length≠(evNames e.k).length
 ·rw [if_pos h3] at h; cases h
 rw [if_neg h3] at h
 by_cases h4:20<e.D.length
 ·rw [if_pos h4] at h; cases h
 rw [if_neg h4] at h
 by_cases h5:0<e.D.length∧evData e.k=false
 ·rw [if_pos h5] at h; cases h
 rw [if_neg h5] at h
 by_cases h6:∃ n∈e.N,4611686018427387903#64<n
 ·rw [if_pos h6] at h; cases h
 have hm:=many_le e.k
 refine ⟨h1,?_,by omega,by omega,fun n hn=>lenN_lt ?_⟩
 ·rw [BitVec.lt_def] at h2
  have:(1125899906842624#64).toNat=1125899906842624:=rfl
  omega
 ·have h7:¬ 4611686018427387903#64<n:=fun hc=>h6 ⟨n,hn,hc⟩
  rw [BitVec.lt_def] at h7
  have:(4611686018427387903#64).toNat=4611686018427387903:=rfl
  omega
end Ev
namespace Sx
open Go.RowKit Sha Vi Ev

end Sx
end
section
namespace Ev
theorem sameE_iff {e f:Ev}:sameE e f ↔ e=f:=by
 cases e; cases f
 unfold sameE
 simp only [Ev.mk.injEq]
theorem same_all {l m:List Ev} (hn:l.length=m.length) (h:∀ (i:Nat) (e f:Ev),l[i]?=some e→m[i]?=some f→e=f):l=m:=by
 refine List.ext_getElem? fun i=>?_
 by_cases hi:i<l.length
 ·rw [List.getElem?_eq_getElem hi,List.getElem?_eq_getElem (by omega)]
  exact congrArg some (h i _ _ (List.getElem?_eq_getElem hi) (List.getElem?_eq_getElem (by omega)))
 ·rw [List.getElem?_eq_none (by omega),List.getElem?_eq_none (by omega)]
end Ev
namespace Sx
open Go.RowKit Sha Vi Ev

set_option maxRecDepth 20000 in
set_option maxHeartbeats 8000000 in
theorem fn_bsame {W:World} {ms:List Nat} {a b:Option Addr} {n m c d:Nat} {l k:List Ev} (h1:EvsAt W ms a n c l) (h2:EvsAt W ms b m d k):FnR Tryd.prog tds 27 1 [[.past W ms]] [.c (.slc a n c),.c (.slc b m d)] (fun _=>True)
  (fun y hs=>(∃ r:Bool,(r=true ↔ l=k)∧y=.a (.c (.bool r)))∧hs=[[.past W ms]]):=by
 have hn:=h1.len
 have hm:=h2.len
 have hcap:=h1.cap
 refine fn_of_body tds_ok follows_ Tryd.func27 rfl (t:=.a (.c (.slc a n c))::.a (.c (.slc b m d))::anys (Tryd.f27.ntmps-2)) rfl (fun w r0 hr _=>?_)
 obtain ⟨x0,rfl⟩:=List.length_eq_one_iff.1 hr
 (repeat show _∧_;first|refine yr ?_|refine yt ?_|refine yf ?_|refine yo ?_)
 by_cases g1:n≠m
 ·have k1:decide ((n:Int)≠(m:Int))=true:=decide_eq_true (by omega)
  (repeat show _∧_;first|refine yr ?_|refine yt ?_|refine yf ?_|refine ya k1 ?_|refine yb k1 ?_|refine yo ?_)
  exact ⟨.a (.c (.bool false)),[[.past W ms]],⟨[0],⟨rfl,rfl,rfl⟩,by (repeat first|exact trivial|refine ent1 ?_)⟩,⟨false,⟨fun h=>Bool.noConfusion h,fun h=>absurd (congrArg List.length h) (by omega)⟩,rfl⟩,rfl⟩
 have k1:decide ((n:Int)≠(m:Int))=false:=decide_eq_false (by omega)
 obtain rfl:n=m:=by omega
 (repeat show _∧_;first|refine yr ?_|refine yt ?_|refine yf ?_|refine ya k1 ?_|refine yb k1 ?_|refine yo ?_)
 refine .inl ⟨Nat,fun i=>⟨[.a (.c (.slc a n c)),.a (.c (.slc b n d)),.any,.any,.any,.any,.any,.any,.any,.any,.any,.any,.a (.c (.int .i64 (↑n))),.a (.c (.int .i64 (↑i))),.any,.any,.any,.any,.any,.any,.any,.any,.any,.any,.any,.any,.any],[[.past W ms]]⟩,fun i=>i≤n∧∀ j e f,j<i→l[j]?=some e→k[j]?=some f→sameE e f,fun i=>n-i,⟨0,[0],⟨⟨rfl,rfl,rfl⟩,by (repeat first|exact trivial|refine ent1 ?_)⟩,Nat.zero_le _,fun j e f hj=>absurd hj (Nat.not_lt_zero _)⟩,fun i ⟨hi,hall⟩=>?_⟩
 refine And.intro (fun hlt=>?_) (fun hge=>?_)
 ·have hlt:i<n:=by have:(i:Int)<(n:Int):=of_decide_eq_true hlt; omega
  obtain ⟨e,he⟩:∃ e,l[i]?=some e:=⟨_,List.getElem?_eq_getElem (by omega)⟩
  obtain ⟨f,hf⟩:∃ f,k[i]?=some f:=⟨_,List.getElem?_eq_getElem (by omega)⟩
  cases ha:a with
  | none=>have:=h1.nil ha; have:=h1.le; omega
  | some A =>
  cases hb:b with
  | none=>have:=h2.nil hb; have:=h2.le; omega
  | some B =>
  obtain ⟨x,him,hx⟩:=h1.elt A ha i e he
  obtain ⟨y,hjm,hy⟩:=h2.elt B hb i f hf
  subst ha; subst hb
  (repeat show _∧_;first|refine yr ?_|refine yt ?_|refine yf ?_|refine yo ?_)
  refine ⟨none,[],[(0,true),(1,true),(2,true),(3,true),(4,true),(5,true),(6,true),(7,true),(8,false),(9,true)],[],by kernel_rfl,?_⟩
  refine And.intro (show (0:Int)≤(i:Int)∧(i:Int)<(n:Int) by omega) ?_
  refine ⟨evS e x,⟨RawAt.past (i:=0) rfl him,rfl⟩,?_⟩
  refine And.intro (show (0:Int)≤(i:Int)∧(i:Int)<(n:Int) by omega) ?_
  refine ⟨evS f y,⟨RawAt.past (i:=0) rfl hjm,rfl⟩,?_⟩
  (repeat show _∧_;first|refine yr ?_|refine yt ?_|refine yf ?_|refine yo ?_)
  refine call_same (fn_esame hx hy) [0] rfl (by (repeat first|exact trivial|refine ent1 ?_)) (by (repeat first|exact trivial|refine ent1 ?_)) (fun _ _=>trivial) ?_
  rintro z hs' ⟨rfl,rfl⟩
  (repeat show _∧_;first|refine yr ?_|refine yt ?_|refine yf ?_|refine yo ?_)
  by_cases hs:sameE e f
  ·have ks:decide (sameE e f)=true:=decide_eq_true hs
   have ks':(!decide (sameE e f))=false:=by rw [ks]; rfl
   (repeat show _∧_;first|refine yr ?_|refine yt ?_|refine yf ?_|refine ya ks' ?_|refine yb ks' ?_|refine yo ?_)
   refine ⟨i+1,[0],⟨⟨rfl,rfl,rfl⟩,by (repeat first|exact trivial|refine ent1 ?_)⟩,⟨by omega,fun j e' f' hj he' hf'=>?_⟩,by dsimp only; omega⟩
   by_cases hji:j=i
   ·subst hji
    rw [he] at he'; rw [hf] at hf'
    injection he' with he'; injection hf' with hf'
    rw [← he',← hf']; exact hs
   ·exact hall j e' f' (by omega) he' hf'
  ·have ks:decide (sameE e f)=false:=decide_eq_false hs
   have ks':(!decide (sameE e f))=true:=by rw [ks]; rfl
   (repeat show _∧_;first|refine yr ?_|refine yt ?_|refine yf ?_|refine ya ks' ?_|refine yb ks' ?_|refine yo ?_)
   exact ⟨.a (.c (.bool false)),[[.past W ms]],⟨[0],⟨rfl,rfl,rfl⟩,by (repeat first|exact trivial|refine ent1 ?_)⟩,⟨false,⟨fun h=>Bool.noConfusion h,fun h=>absurd (sameE_iff.2 (Option.some.inj (he.symm.trans ((by rw [h]):l[i]?=k[i]?) |>.trans hf))) hs⟩,rfl⟩,rfl⟩
 ·obtain rfl:i=n:=by have:¬ (i:Int)<(n:Int):=of_decide_eq_false hge; omega
  (repeat show _∧_;first|refine yr ?_|refine yt ?_|refine yf ?_|refine yo ?_)
  exact ⟨.a (.c (.bool true)),[[.past W ms]],⟨[0],⟨rfl,rfl,rfl⟩,by (repeat first|exact trivial|refine ent1 ?_)⟩,⟨true,⟨fun _=>same_all (by omega) (fun j e f he hf=>sameE_iff.1 (hall j e f (by rw [← hn]; exact (List.getElem?_eq_some_iff.1 he).1) he hf)),fun _=>rfl⟩,rfl⟩,rfl⟩
end Sx
end
section
namespace Vi
open Sha
theorem nx_putE {n:BitVec 64} (h0:lenN n≠0) (r:Bs):nextM (putL n++r) 0=((n,lenN n,true),r,0):=by
 have hk:=lenN_ok h0
 obtain ⟨h1,h2⟩:=take_wide hk h0 (Nat.le_refl _) r
 have hl:(putL n).length=lenN n:=wideL_len _ _
 have hpos:0<lenN n:=by omega
 have ht:takeM (putL n++r)=(n,lenN n,0):=by
  unfold takeM
  rw [if_neg (by rw [show sizeT (L (putL n++r) 0)=lenN n from h1,List.length_append]; omega)]
  rw [show sizeT (L (putL n++r) 0)=lenN n from h1,show numT (putL n++r) (lenN n-1)=n from h2]
 unfold nextM
 rw [if_neg (by decide),ht]
 show (if (0:Int)≠0 then _ else ((n,lenN n,true),(putL n++r).drop (lenN n),0))=_
 rw [if_neg (by decide),← hl,List.drop_left]
theorem least_put {n:BitVec 64} (h0:lenN n≠0) (r:Bs):leastM (putL n++r) 0=(n,r,0):=by
 unfold leastM; rw [nx_putE h0]
 show (if true=false then _ else if lenN n≠lenN n then _ else _)=_
 rw [if_neg (by decide),if_neg (fun h=>h rfl)]
end Vi
end
section
namespace Ev
open Vi Sha
theorem numsR_put:∀ (N:List (BitVec 64)) (r:Bs),(∀ n∈N,lenN n≠0)→numsR N.length (putAll N++r) 0=(N,r,0)
 | [],r,_=>rfl
 | n::N,r,h=>by
  show numsR (N.length+1) ((putL n++putAll N)++r) 0=_
  rw [List.append_assoc,numsR,least_put (h n (List.mem_cons_self ..))]
  dsimp only
  rw [numsR_put N r fun m hm=>h m (List.mem_cons_of_mem _ hm)]
theorem min20 {m:BitVec 64} (h:¬ 20#64<m):manyL m=(m.toNat:Int)∧m.toNat≤20:=by
 unfold manyL
 rw [if_neg h]
 rw [BitVec.lt_def] at h
 have:(20#64).toNat=20:=rfl
 exact ⟨rfl,by omega⟩
theorem take3_put {e:Ev} (r:Bs) (h1:e.D.length≤20) (h2:evData e.k=false→e.D=[]):take3 e.k e.t e.N ((if evData e.k=true then longL e.D else [])++r,0)=(e,r,0):=by
 cases hd:evData e.k
 ·rw [take3_no hd]
  have:=h2 hd
  cases e
  dsimp only at this ⊢
  subst this
  rfl
 ·rw [if_pos rfl]
  have hl:lenN (BitVec.ofNat 64 e.D.length)≠0:=lenN_of (by omega)
  have hx:leastM (longL e.D++r) 0=(BitVec.ofNat 64 e.D.length,e.D++r,0):=by
   show leastM ((putL _++e.D)++r) 0=_
   rw [List.append_assoc,least_put hl]
  have hm:(BitVec.ofNat 64 e.D.length).toNat=e.D.length:=by rw [BitVec.toNat_ofNat]; omega
  have hlt:¬ 20#64<BitVec.ofNat 64 e.D.length:=by
   rw [BitVec.lt_def,hm]
   have:(20#64).toNat=20:=rfl
   omega
  refine take3_ok hd hx (D:=e.D) (l2:=r) (e2:=0) ?_
  rw [decide_eq_false hlt]
  show bytesM (e.D++r) 0 (manyL _)=_
  rw [(min20 hlt).1,hm]
  unfold bytesM
  rw [if_neg (by decide),if_neg (by rw [List.length_append]; omega)]
  rw [Int.toNat_natCast,List.take_left,List.drop_left]
theorem kind_put {k:BitVec 8}:kindL (BitVec.setWidth 64 k)=k:=by
 unfold kindL
 have:=k.isLt
 rw [if_neg (by rw [BitVec.lt_def,BitVec.toNat_setWidth]; have:(255#64).toNat=255:=rfl; omega)]
 apply BitVec.eq_of_toNat_eq
 rw [BitVec.toNat_setWidth,BitVec.toNat_setWidth]
 omega
structure GoodE (last:BitVec 64) (e:Ev):Prop where
 k:evOk e.k=true
 lo:last.toNat≤e.t.toNat
 hi:e.t.toNat≤1125899906842624
 N:e.N.length=(evNames e.k).length
 n:∀ n∈e.N,lenN n≠0
 D:e.D.length≤20
 nD:evData e.k=false→e.D=[]
theorem take_put_ev {last:BitVec 64} {ev:Ev} (h:GoodE last ev) (r:Bs):takeE (evB last ev++r) 0 last=(ev,r,0):=by
 have h1:=h.lo
 have h2:=h.hi
 have hsub:(ev.t-last).toNat=ev.t.toNat-last.toNat:=by rw [BitVec.toNat_sub]; omega
 have hadd:last+(ev.t-last)=ev.t:=by
  apply BitVec.eq_of_toNat_eq
  rw [BitVec.toNat_add,hsub]; omega
 have hl1:lenN (BitVec.setWidth 64 ev.k)≠0:=lenN_lt (by rw [BitVec.toNat_setWidth]; have:=ev.k.isLt; omega)
 have hl2:lenN (ev.t-last)≠0:=lenN_lt (by omega)
 have hb:evB last ev++r=putL (BitVec.setWidth 64 ev.k)++(putL (ev.t-last)++(putAll ev.N++((if evData ev.k=true then longL ev.D else [])++r))):=by
  unfold evB
  show ((putL _++(putL _++[]))++putAll ev.N++_)++r=_
  simp only [List.append_assoc,List.append_nil]
 have hM:(1125899906842624#64).toNat=1125899906842624:=rfl
 rw [hb]
 unfold takeE
 rw [least_put hl1]
 dsimp only
 rw [if_neg (by decide),kind_put,h.k]
 show take1 ev.k last (_,0)=_
 rw [take1_eq (least_put hl2 _),hadd,decide_eq_false (by rw [BitVec.lt_def]; omega)]
 show take2 ev.k ev.t (_,0)=_
 unfold take2
 dsimp only
 rw [← h.N,numsR_put _ _ h.n]
 exact take3_put r h.D h.nD
end Ev
end
section
namespace Ev
open Vi Sha
def catE:BitVec 64→List Ev→Bs
 | _,[]=>[]
 | last,e::r=>evB last e++catE e.t r
def GoodL:BitVec 64→List Ev→Prop
 | _,[]=>True
 | last,e::r=>GoodE last e∧(e.k=19#8→r=[])∧GoodL e.t r
theorem GoodE.check {last:BitVec 64} {e:Ev} (h:GoodE last e):checkM e=0∧¬ e.t<last:=by
 have hM:(1125899906842624#64).toNat=1125899906842624:=rfl
 have hT:(4611686018427387903#64).toNat=4611686018427387903:=rfl
 have h1:=h.hi
 have h2:=h.lo
 have h3:=h.D
 refine ⟨?_,by rw [BitVec.lt_def]; omega⟩
 unfold checkM
 rw [if_neg (by rw [h.k]; decide),if_neg (by rw [BitVec.lt_def]; omega),if_neg (fun hc=>hc h.N),if_neg (by omega),if_neg,if_neg]
 ·rintro ⟨n,hn,hb⟩
  have h4:=h.n n hn
  have:=lenN_spec n
  rw [BitVec.lt_def] at hb
  omega
 ·rintro ⟨hc,hd⟩
  rw [h.nD hd] at hc
  exact absurd hc (by decide)
theorem good_of {last:BitVec 64} {e:Ev} (h:checkM e=0) (ht:¬ e.t<last):GoodE last e:=by
 have hok:=check_ok h
 rw [BitVec.lt_def] at ht
 refine ⟨hok.k,by omega,hok.t,?_,hok.n,hok.D,fun hd=>?_⟩
 ·unfold checkM at h
  rw [if_neg (by rw [hok.k]; decide)] at h
  by_cases h2:1125899906842624#64<e.t
  ·rw [if_pos h2] at h; cases h
  rw [if_neg h2] at h
  by_cases h3:e.N.length≠(evNames e.k).length
  ·rw [if_pos h3] at h; cases h
  omega
 ·unfold checkM at h
  rw [if_neg (by rw [hok.k]; decide)] at h
  by_cases h2:1125899906842624#64<e.t
  ·rw [if_pos h2] at h; cases h
  rw [if_neg h2] at h
  by_cases h3:e.N.length≠(evNames e.k).length
  ·rw [if_pos h3] at h; cases h
  rw [if_neg h3] at h
  by_cases h4:20<e.D.length
  ·rw [if_pos h4] at h; cases h
  rw [if_neg h4] at h
  by_cases h5:0<e.D.length∧evData e.k=false
  ·rw [if_pos h5] at h; cases h
  exact List.eq_nil_of_length_eq_zero (by
   rcases Nat.eq_zero_or_pos e.D.length with h6|h6
   ·exact h6
   ·exact absurd ⟨h6,hd⟩ h5)
theorem encL_back:∀ (es:List Ev) (last:BitVec 64) (b:Bs) {c:Bs},encL es last b=(c,0)→GoodL last es∧c=b++catE last es
 | [],_,b,c,h=>by
  rw [encL] at h
  simp only [Prod.mk.injEq] at h
  exact ⟨trivial,by rw [catE,List.append_nil]; exact h.1.symm⟩
 | e::r,last,b,c,h=>by
  rw [encL] at h
  by_cases h1:checkM e≠0
  ·rw [if_pos h1] at h
   simp only [Prod.mk.injEq] at h
   exact absurd h.2 h1
  rw [if_neg h1] at h
  by_cases h2:e.t<last
  ·rw [if_pos h2] at h
   simp only [Prod.mk.injEq] at h
   exact absurd h.2 (by decide)
  rw [if_neg h2] at h
  by_cases h3:e.k=19#8∧r≠[]
  ·rw [if_pos h3] at h
   simp only [Prod.mk.injEq] at h
   exact absurd h.2 (by decide)
  rw [if_neg h3] at h
  obtain ⟨g1,g2⟩:=encL_back r e.t _ h
  refine ⟨⟨good_of (by omega) h2,fun hk=>?_,g1⟩,by rw [g2,catE,List.append_assoc]⟩
  exact Decidable.byContradiction fun hr=>h3 ⟨hk,hr⟩
theorem evsR_put:∀ (es:List Ev) (last:BitVec 64) (r:Bs),GoodL last es→evsR es.length last (catE last es++r) 0=(es,r,0)
 | [],_,r,_=>rfl
 | e::es,last,r,⟨h1,h2,h3⟩=>by
  rw [List.length_cons,catE,List.append_assoc]
  have hf:failIf (decide (e.k=19#8) && decide (es.length≠0)) 10 (catE e.t es++r,0)=(catE e.t es++r,0):=by
   have:(decide (e.k=19#8) && decide (es.length≠0))=false:=by
    by_cases hk:e.k=19#8
    ·rw [h2 hk]; simp
    ·rw [decide_eq_false hk]; rfl
   rw [this]; rfl
  rw [evsR_step (take_put_ev h1 _) hf,evsR_put es e.t r h3]
abbrev magicE:Bs:=[66#8,73#8,78#8,49#8]
theorem enc_back {es:List Ev} {b:Bs} (h:encM es=(b,0)):es.length≤2048∧GoodL 0#64 es∧b=magicE++(putL (BitVec.ofNat 64 es.length)++catE 0#64 es):=by
 unfold encM at h
 by_cases h1:2048<es.length
 ·rw [if_pos h1] at h
  simp only [Prod.mk.injEq] at h
  exact absurd h.2 (by decide)
 rw [if_neg h1] at h
 obtain ⟨g1,g2⟩:=encL_back es _ _ h
 refine ⟨by omega,g1,?_⟩
 rw [g2]
 show (magicE++(putL _++[]))++_=_
 rw [List.append_nil,List.append_assoc]
theorem dec_app {es:List Ev} {b:Bs} (h:encM es=(b,0)) (r:Bs):decM (b++r)=finD (es,r,0):=by
 obtain ⟨h1,h2,rfl⟩:=enc_back h
 have hn:(BitVec.ofNat 64 es.length).toNat=es.length:=by rw [BitVec.toNat_ofNat]; omega
 have hb:bytesM (magicE++(putL (BitVec.ofNat 64 es.length)++(catE 0#64 es++r))) 0 4=(magicE,putL (BitVec.ofNat 64 es.length)++(catE 0#64 es++r),0):=by
  unfold bytesM
  rw [if_neg (by decide),if_neg (by rw [List.length_append]; simp only [List.length_cons,List.length_nil]; omega)]
  rfl
 rw [List.append_assoc,List.append_assoc]
 unfold decM
 rw [hb]
 show dec2 (failIf (decide ((0:Int)=0) && decide (U8 magicE≠[66,73,78,49])) 4 (_,0))=_
 rw [show (decide ((0:Int)=0) && decide (U8 magicE≠[66,73,78,49]))=false by decide]
 show dec2 (_,0)=_
 unfold dec2
 dsimp only
 rw [least_put (lenN_of (by omega))]
 dsimp only
 rw [decide_eq_false (by rw [BitVec.lt_def,hn]; have:(2048#64).toNat=2048:=rfl; omega)]
 show dec3 _ (_,0)=_
 unfold dec3
 dsimp only
 rw [hn,evsR_put es _ r h2]
theorem dec_enc {es:List Ev} {b:Bs} (h:encM es=(b,0)):decM b=(es,0):=by
 have:=dec_app h []
 rw [List.append_nil] at this
 rw [this]; rfl
end Ev
end
section
namespace Ev
open Vi Sha
theorem mk62_len (x:BitVec 64):lenN (mk62 x)≠0:=by
 refine lenN_lt ?_
 show (x &&& 4611686018427387903#64).toNat<_
 rw [BitVec.toNat_and]
 have h1:(4611686018427387903#64).toNat=4611686018427387903:=rfl
 have h2:x.toNat &&& (4611686018427387903#64).toNat≤(4611686018427387903#64).toNat:=Nat.and_le_right
 omega
theorem fit_shape (e:Ev) (k:BitVec 8):evOk (fitE e k).k=true∧(fitE e k).N.length=(evNames (fitE e k).k).length∧(∀ n∈(fitE e k).N,lenN n≠0)∧(fitE e k).D.length≤20∧(evData (fitE e k).k=false→(fitE e k).D=[]):=by
 refine ⟨kindE_ok k,?_,?_,?_,?_⟩
 ·show (((padE e.N ((evNames (kindE k)).length-e.N.length)).take (evNames (kindE k)).length).map mk62).length=(evNames (kindE k)).length
  rw [List.length_map,List.length_take,padE_len]
  omega
 ·intro n hn
  obtain ⟨x,_,rfl⟩:=List.mem_map.1 (show n∈((padE e.N ((evNames (kindE k)).length-e.N.length)).take (evNames (kindE k)).length).map mk62 from hn)
  exact mk62_len x
 ·show (if evData (kindE k)=true then e.D.take 20 else []).length≤20
  split
  ·rw [List.length_take]; omega
  ·exact Nat.zero_le _
 ·intro h
  show (if evData (kindE k)=true then e.D.take 20 else [])=[]
  rw [if_neg (by rw [show evData (kindE k)=false from h]; decide)]
theorem fit2_shape (e:Ev) (k:BitVec 8):(fit2E e k).k≠19#8∧evOk (fit2E e k).k=true∧(fit2E e k).N.length=(evNames (fit2E e k).k).length∧(∀ n∈(fit2E e k).N,lenN n≠0)∧(fit2E e k).D.length≤20∧(evData (fit2E e k).k=false→(fit2E e k).D=[]):=by
 unfold fit2E
 split
 ·exact ⟨show kindE 0#8≠19#8 by decide,fit_shape _ _⟩
 ·rename_i h
  exact ⟨h,fit_shape _ _⟩
theorem at_ok {t:BitVec 64} (e:Ev) (h:t.toNat≤1125899906842624):t.toNat≤(atE t e).toNat∧(atE t e).toNat≤1125899906842624:=by
 have hM:(1125899906842624#64).toNat=1125899906842624:=rfl
 have h1:(e.t % 100000#64).toNat<100000:=by
  rw [BitVec.toNat_umod]
  exact Nat.mod_lt _ (by decide)
 have h2:(t+e.t % 100000#64).toNat=t.toNat+(e.t % 100000#64).toNat:=by rw [BitVec.toNat_add]; omega
 unfold atE
 split
 ·rw [hM]; omega
 ·rename_i hc
  rw [BitVec.lt_def,h2] at hc
  rw [h2]
  omega
theorem row_good (ks:Bs):∀ (es:List Ev) (i:Nat) (t:BitVec 64),t.toNat≤1125899906842624→GoodL t (rowE ks es i t)∧∀ e∈rowE ks es i t,e.k≠19#8
 | [],_,_,_=>⟨trivial,fun e he=>by cases he⟩
 | e::r,i,t,ht=>by
  obtain ⟨a1,a2⟩:=at_ok (fit2E e (keyE ks i)) ht
  obtain ⟨s0,s1,s2,s3,s4,s5⟩:=fit2_shape e (keyE ks i)
  obtain ⟨g1,g2⟩:=row_good ks r (i+1) (atE t (fit2E e (keyE ks i))) a2
  rw [rowE]
  refine ⟨⟨⟨s1,a1,a2,s2,s3,s4,s5⟩,fun h=>absurd h s0,g1⟩,fun x hx=>?_⟩
  rcases List.mem_cons.1 hx with rfl|hx
  ·exact s0
  ·exact g2 x hx
theorem GoodL.snoc:∀ {es:List Ev} {last:BitVec 64} {x:Ev},GoodL last es→(∀ e∈es,e.k≠19#8)→GoodE (match es.getLast? with|some e=>e.t|none=>last) x→GoodL last (es++[x])
 | [],last,x,_,_,h=>⟨h,fun _=>rfl,trivial⟩
 | e::r,last,x,⟨h1,h2,h3⟩,hk,hx=>by
  refine ⟨h1,fun h=>absurd h (hk e (List.mem_cons_self ..)),GoodL.snoc h3 (fun y hy=>hk y (List.mem_cons_of_mem _ hy)) ?_⟩
  cases r with
  | nil=>exact hx
  | cons y r =>
   rw [List.getLast?_cons_cons] at hx
   cases hl:(y::r).getLast? with
   | none=>simp at hl
   | some z=>rw [hl] at hx; exact hx
theorem good_last:∀ {es:List Ev} {last:BitVec 64} {x:Ev},GoodL last es→es.getLast?=some x→x.t.toNat≤1125899906842624
 | [],_,x,_,h=>by simp at h
 | [e],_,x,⟨h1,_,_⟩,h=>by simp at h; subst h; exact h1.hi
 | e::y::r,_,x,⟨_,_,h3⟩,h=>by
  rw [List.getLast?_cons_cons] at h
  exact good_last h3 h
end Ev
end
section
namespace Ev
open Vi Sha

end Ev
end
section
namespace Qj
open Sha Js Ev Vi
theorem foll_good {last:BitVec 64} {e:Ev} {b:Bool} (h:GoodE last e) (hk:e.k=19#8→b=true):follM e last b=0:=by
 unfold follM
 rw [if_neg h.check.2,if_neg (fun hc=>absurd hc.2 (by rw [hk hc.1]; decide))]
theorem prtF_good:∀ {es:List Ev} {last:BitVec 64},GoodL last es→prtF es last=0
 | [],_,_=>rfl
 | e::r,last,⟨h1,h2,h3⟩=>by
  unfold prtF
  rw [if_neg (not_not_intro h1.check.1),if_neg (not_not_intro (foll_good h1 fun h=>by rw [h2 h]; rfl))]
  exact prtF_good h3
theorem prt_good {es:List Ev} (h:GoodL 0#64 es) (hl:es.length≤2048):prtM es=0:=by
 unfold prtM
 rw [if_neg (by omega)]
 exact prtF_good h
end Qj
end
section
namespace Vi
open Sha
end Vi
namespace Sx
open Sha Vi

end Sx
end
section
namespace Ev
open Vi Sha
end Ev
namespace Sx
open Go.RowKit Sha Vi Ev

end Sx
end
section
namespace Sx
open Go.RowKit Sha Vi Ev

set_option maxRecDepth 20000 in
theorem fn_erow0 {W:World} {ms:List Nat} {a:Option Addr} {n c:Nat} (hn:n=0) {aK:Option Addr} {nK cK:Nat} :
  FnR Tryd.prog tds 21 1 [[.past W ms]] [.c (.slc a n c),.c (.slc aK nK cK)] (fun _=>True)
  (fun y hs=>y=.a (.c (.slc none 0 0))∧hs=[[.past W ms]]):=by
 subst hn
 refine fn_of_body tds_ok follows_ Tryd.func21 rfl (t:=.a (.c (.slc a 0 c))::.a (.c (.slc aK nK cK))::anys (Tryd.f21.ntmps-2)) rfl (fun w r0 hr _=>?_)
 obtain ⟨x0,rfl⟩:=List.length_eq_one_iff.1 hr
 (repeat show _∧_;first|refine yr ?_|refine yt ?_|refine yf ?_|refine yo ?_)
 refine .inr ⟨1,?_⟩
 (repeat show _∧_;first|refine yr ?_|refine yt ?_|refine yf ?_|refine yo ?_)
 refine ⟨.a (.c (.slc none 0 0)),[[.past W ms]],⟨[0],⟨rfl,rfl,rfl⟩,?_⟩,rfl,rfl⟩
 (repeat first|exact trivial|refine ent1 ?_)
end Sx
end
section
namespace Sx
open Go.RowKit Sha Vi Ev

end Sx
end
section
namespace Sx
open Go.RowKit Sha Vi Ev

theorem mp_row {g:Nat→Nat} {N:Nat} {cs:List SC} (h:∀ x∈cs,x.raw=x):mpL g [.row N (nthC cs)]=[.row N (nthC cs)]:=by
 show [Seg.row N (fun j=>SC.mp g (nthC cs j))]=_
 congr 2
 funext j
 rcases Nat.lt_or_ge j cs.length with hj|hj
 ·exact mp_raw (h _ (nthC_mem hj))
 ·rw [nthC_out hj]; rfl
end Sx
end
section
namespace Sx
open Go.RowKit Sha Vi Ev

theorem RowAt.frzF {W0 W:World} {ms0 ms:List Nat} {A:Addr} {F:Nat→Bool} {α:Nat→Addr} {n c:Nat} {cs:List SC} {es:List Ev} (k:RowAt W0 ms0 cs es) (hL:Later W0 ms0 W ms) {f:Nat→SC} (hf:∀ j,j<cs.length→f j=nthC cs j)
  (h:flat [.row (scale c (3+1)) f]≠[]→ImAt W ms A (((flat [.row (scale c (3+1)) f]).map (SC.rz F α)).map SC.raw)) (hn:es.length=n) (hc:n≤c) (hcap:n≤9223372036854775807):EvsAt W ms (some (A.add (0+0))) n c es:=by
 refine ⟨hn,hc,hcap,(fun e=>by cases e),fun B hB j e he=>?_⟩
 injection hB with hB
 subst hB
 obtain ⟨x,h1,h2⟩:=k.elt j e he
 have hj:j<n:=by rw [← hn]; exact (List.getElem?_eq_some_iff.1 he).1
 have hne:flat [.row (scale c (3+1)) f]≠[]:=by
  intro e
  have:=congrArg List.length e
  simp [flat,sc4] at this
  omega
 refine ⟨x,(((h hne).part (0+0) (m:=((flat [.row (scale c (3+1)) f]).map (SC.rz F α)).map SC.raw) (fun j x hx=>by simpa using hx)).part (j*4) fun i y hy=>?_),h2.later hL⟩
 have hi:i<4:=(List.getElem?_eq_some_iff.1 hy).1
 have hcs:=h1 i y hy
 have hlen:=k.len
 have hjn:j*4+i<scale c (3+1):=by rw [sc4]; omega
 rw [List.getElem?_map,List.getElem?_map]
 simp only [flat,List.append_nil,List.getElem?_map,List.getElem?_range hjn,Option.map_some]
 have hraw:=k.raw y (List.mem_of_getElem? hcs)
 rw [hf _ (List.getElem?_eq_some_iff.1 hcs).1,nthC_get? hcs,rz_raw hraw]
end Sx
end
section
namespace Sx
open Go.RowKit Sha Vi Ev

end Sx
end
section
namespace Sx
open Go.RowKit Go.ChangeShapes Go.WideShapes

section
variable {H : Type} {enc : TypeId × Value → H} {P : Program} {w : World} {base : Nat} {sp : Nat → Bool} {held : Bool}
theorem wf_w8 {a:Int} (h:(Lit.int .u8 a).wf=true):a=((BitVec.ofInt 8 a).toNat:Int):=by
 have:=bounds_u8 h
 rw [BitVec.toNat_ofInt]
 omega
end
theorem isAs_nil (r:Rho):IsAs r [] []:=⟨rfl,fun j x e=>by simp at e⟩
theorem isAs_cons {r:Rho} {x:SA} {v:Value} {l:List SA} {vs:List Value} (h:SA.Is r x v) (hs:IsAs r l vs):IsAs r (x::l) (v::vs) :=
 ⟨by simpa using hs.1,fun j y e=>by
  cases j with
  | zero=>simp at e; subst e; exact ⟨v,rfl,h⟩
  | succ j=>exact hs.2 j y e⟩
end Sx
end
section
namespace Sx
open Go.ChangeShapes

theorem wf_w64 {a:Int} (h:(Lit.int .u64 a).wf=true):a=((BitVec.ofInt 64 a).toNat:Int):=by
 have:=bounds_u64 h
 rw [BitVec.toNat_ofInt]
 omega
end Sx
end
end Go.Proofs.YtnehmcpkeamghaaDoor
