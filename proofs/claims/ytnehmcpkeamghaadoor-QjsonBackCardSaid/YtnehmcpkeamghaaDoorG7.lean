/-
  Texts of this claim, part 7: JsS, JsG, JsH, JsJ, JsO, JsK, JsW, JsY, JsZ, QjB. No condition of its own.
-/
import Derived.Test.YtnehmcpkeamghaaDoorG6
namespace Go.Proofs.YtnehmcpkeamghaaDoor
set_option linter.unusedVariables false
section
namespace Js
open Sha
theorem putL_snoc (pv:JT→Bs) (x:JT):∀ (l:List JT),l≠[]→putL pv (l++[x])=putL pv l++44#8::pv x
 | [],h=>absurd rfl h
 | [y],_=>rfl
 | y::z::l,_=>by
  show pv y++44#8::putL pv ((z::l)++[x])=(pv y++44#8::putL pv (z::l))++44#8::pv x
  rw [putL_snoc pv x (z::l) (by simp)]
  simp
theorem putL_one (pv:JT→Bs) (x:JT):putL pv ([]++[x])=pv x:=rfl
theorem putL_le (pv:JT→Bs):∀ (l:List JT) (j:Nat),(putL pv (l.take j)).length≤(putL pv l).length
 | _,0=>by rw [List.take_zero]; exact Nat.zero_le _
 | [],j+1=>by simp
 | [y],j+1=>by simp
 | y::z::l,1=>by simp [putL]
 | y::z::l,j+2=>by
  have:=putL_le pv (z::l) (j+1)
  show (pv y++44#8::putL pv ((z::l).take (j+1))).length≤(pv y++44#8::putL pv (z::l)).length
  rw [List.length_append,List.length_append,List.length_cons,List.length_cons]
  omega
theorem putO_snoc (pv:JT→Bs) (s:Bs) (x:JT):∀ (ns:List Bs) (l:List JT),l≠[]→ns.length=l.length→putO pv (ns++[s]) (l++[x])=putO pv ns l++44#8::(quote s++58#8::pv x)
 | _,[],h,_=>absurd rfl h
 | [],y::l,_,h=>by cases h
 | [t],[y],_,_=>by
  show quote t++58#8::(pv y++44#8::(quote s++58#8::pv x))=(quote t++58#8::pv y)++44#8::(quote s++58#8::pv x)
  simp
 | t::u::ns,y::z::l,_,h=>by
  show quote t++58#8::(pv y++44#8::putO pv ((u::ns)++[s]) ((z::l)++[x]))=(quote t++58#8::(pv y++44#8::putO pv (u::ns) (z::l)))++44#8::(quote s++58#8::pv x)
  rw [putO_snoc pv s x (u::ns) (z::l) (by simp) (by simpa using h)]
  simp
theorem putO_one (pv:JT→Bs) (s:Bs) (x:JT):putO pv ([]++[s]) ([]++[x])=quote s++58#8::pv x:=rfl
theorem putO_le (pv:JT→Bs):∀ (ns:List Bs) (l:List JT) (j:Nat),ns.length=l.length→(putO pv (ns.take j) (l.take j)).length≤(putO pv ns l).length
 | ns,l,0,_=>by rw [List.take_zero,List.take_zero]; exact Nat.zero_le _
 | ns,[],j+1,h=>by
  obtain rfl:ns=[]:=List.eq_nil_of_length_eq_zero h
  simp
 | [],y::l,j+1,h=>by cases h
 | [s],[y],j+1,_=>by simp
 | s::t::ns,y::z::l,1,_=>by simp [putO]
 | s::t::ns,y::z::l,j+2,h=>by
  have:=putO_le pv (t::ns) (z::l) (j+1) (by simpa using h)
  show (quote s++58#8::(pv y++44#8::putO pv ((t::ns).take (j+1)) ((z::l).take (j+1)))).length≤(quote s++58#8::(pv y++44#8::putO pv (t::ns) (z::l))).length
  simp only [List.length_append,List.length_cons] at this ⊢
  omega
 | [_],_::_::_,j+1,h=>by simp at h
 | _::_::_,[_],j+1,h=>by simp at h
theorem putL_step (pv:JT→Bs) (l:List JT) (j:Nat) (h:j<l.length) (b:Bs):b++putL pv (l.take (j+1))=(if j=0 then b else b++putL pv (l.take j)++[44#8])++pv (l[j]):=by
 rw [List.take_add_one,List.getElem?_eq_getElem h,Option.toList_some]
 by_cases h0:j=0
 ·subst h0
  rw [if_pos rfl,List.take_zero,putL_one]
 ·rw [if_neg h0,putL_snoc _ _ _ (by intro e; rw [← List.length_eq_zero_iff,List.length_take] at e; omega)]
  simp
theorem putO_step (pv:JT→Bs) (ns:List Bs) (l:List JT) (j:Nat) (h:j<l.length) (h2:ns.length=l.length) (b:Bs):b++putO pv (ns.take (j+1)) (l.take (j+1))=((if j=0 then b else b++putO pv (ns.take j) (l.take j)++[44#8])++quote (ns[j]'(by omega))++[58#8])++pv (l[j]):=by
 rw [List.take_add_one,List.take_add_one,List.getElem?_eq_getElem h,List.getElem?_eq_getElem (by omega:j<ns.length),Option.toList_some,Option.toList_some]
 by_cases h0:j=0
 ·subst h0
  rw [if_pos rfl,List.take_zero,List.take_zero,putO_one]
  simp
 ·rw [if_neg h0,putO_snoc _ _ _ _ _ (by intro e; rw [← List.length_eq_zero_iff,List.length_take] at e; omega) (by rw [List.length_take,List.length_take,h2])]
  simp
end Js
namespace Sx
open Go.RowKit Sha Vi Js

theorem bytesM_lt {g:Nat→Nat} {n:Nat} {b:Nat→BitVec 8} {i:Nat} (h:i<n):SC.mp g (bytesF n b i)=.w8 (b i):=by rw [bytesF_lt h]; rfl
theorem rowu {l:List UInt8} {m:Bs} (e:l=U8 m) (i:Nat) (hi:i<m.length):SC.w8 (l.getD i 0).toBitVec=.w8 (L m i):=by
 subst e; exact row_U8 i hi
def PutC (d:Nat):Prop:=∀ (W:World) (ms:List Nat) (v:JT) (x:JC) (b:Bs) (c:Nat),Tabs W ms→TAt W ms d v x→norm d v→b.length≤c→b.length+(put d v).length≤70368744177664 →
 FnR Tryd.prog tds 45 1 [[.past W ms],lsC b c] [.agg (jvS v x),.c (.sl 1 0 0 b.length c)] (fun _=>True)
  (fun y hs=>∃ c',(b++put d v).length≤c'∧y=.a (.c (.sl 2 0 0 (b++put d v).length c'))∧hs=[[.past W ms],[],lsC (b++put d v) c'])
set_option maxRecDepth 20000 in
set_option maxHeartbeats 32000000 in
theorem fn_put0 (d:Nat) (hrec:∀ d',d=d'+1→PutC d') {W:World} {ms:List Nat} {v:JT} {x:JC} (hT:Tabs W ms) (hx:TAt W ms d v x) (hn:norm d v) (hl:(put d v).length≤70368744177664) :
  FnR Tryd.prog tds 45 1 [[.past W ms]] [.agg (jvS v x),.c (.slc none 0 0)] (fun _=>True)
  (fun y hs=>∃ c',(put d v).length≤c'∧y=.a (.c (.sl 1 0 0 (put d v).length c'))∧hs=[[.past W ms],lsC (put d v) c']):=by
 refine fn_of_body tds_ok follows_ Tryd.func45 rfl (t:=.a (.agg (jvS v x))::.a (.c (.slc none 0 0))::anys (Tryd.f45.ntmps-2)) rfl (fun w r0 hr0 _=>?_)
 obtain ⟨x0,rfl⟩:=len1' hr0
 obtain ⟨pl,po,hpv,hcs⟩:∃ pl po,put d v=put1 pl po v∧(leaf v∨∃ d',d=d'+1∧pl=putL (put d')∧po=putO (put d')∧v.n=0#64∧v.s=[]∧(∀ x∈v.l,norm d' x)∧((v.k=5#8∧v.ns=[])∨(v.k=6#8∧v.ns.length=v.l.length∧v.ns.Nodup∧∀ s∈v.ns,Utf s))):=by
  cases d with
  | zero=>exact ⟨_,_,rfl,.inl hn⟩
  | succ d=>exact ⟨_,_,rfl,hn.imp_right fun h=>⟨d,rfl,rfl,rfl,h⟩⟩
 by_cases k0:v.k=0#8
 ·have f0:decide (v.k=0#8)=true:=decide_eq_true k0
  have hp:put d v=[110#8,117#8,108#8,108#8]:=by rw [hpv]; unfold put1; rw [if_pos k0]
  rw [hp] at hl ⊢
  (repeat show _∧_;first|refine yr ?_|refine yt ?_|refine yf ?_|refine ya f0 ?_|refine yb f0 ?_|refine yo ?_)
  intro c' hc'
  (repeat show _∧_;first|refine yr ?_|refine yt ?_|refine yf ?_|refine yo ?_)
  refine ⟨.a (.c (.sl 1 0 0 4 c')),_,⟨[0,2],⟨rfl,rfl,rfl⟩,?_⟩,c',hc',rfl,rfl⟩
  (repeat first|exact trivial|refine ent1 ?_)
  refine ⟨fun j' hj'=>eqC_bytes (fun i hi=>?_) j',by (repeat first|exact trivial|refine ent1 ?_)⟩
  exact new_row (m:=[110#8,117#8,108#8,108#8]) (fun i hi=>rowu rfl i (by exact hi)) i hi
 have f0:decide (v.k=0#8)=false:=decide_eq_false k0
 by_cases k1:v.k=1#8
 ·have f1:decide (v.k=1#8)=true:=decide_eq_true k1
  have hp:put d v=[102#8,97#8,108#8,115#8,101#8]:=by rw [hpv]; unfold put1; rw [if_neg k0]; rw [if_pos k1]
  rw [hp] at hl ⊢
  (repeat show _∧_;first|refine yr ?_|refine yt ?_|refine yf ?_|refine ya f0 ?_|refine yb f0 ?_|refine ya f1 ?_|refine yb f1 ?_|refine yo ?_)
  intro c' hc'
  (repeat show _∧_;first|refine yr ?_|refine yt ?_|refine yf ?_|refine yo ?_)
  refine ⟨.a (.c (.sl 1 0 0 5 c')),_,⟨[0,2],⟨rfl,rfl,rfl⟩,?_⟩,c',hc',rfl,rfl⟩
  (repeat first|exact trivial|refine ent1 ?_)
  refine ⟨fun j' hj'=>eqC_bytes (fun i hi=>?_) j',by (repeat first|exact trivial|refine ent1 ?_)⟩
  exact new_row (m:=[102#8,97#8,108#8,115#8,101#8]) (fun i hi=>rowu rfl i (by exact hi)) i hi
 have f1:decide (v.k=1#8)=false:=decide_eq_false k1
 by_cases k2:v.k=2#8
 ·have f2:decide (v.k=2#8)=true:=decide_eq_true k2
  have hp:put d v=[116#8,114#8,117#8,101#8]:=by rw [hpv]; unfold put1; rw [if_neg k0]; rw [if_neg k1]; rw [if_pos k2]
  rw [hp] at hl ⊢
  (repeat show _∧_;first|refine yr ?_|refine yt ?_|refine yf ?_|refine ya f0 ?_|refine yb f0 ?_|refine ya f1 ?_|refine yb f1 ?_|refine ya f2 ?_|refine yb f2 ?_|refine yo ?_)
  intro c' hc'
  (repeat show _∧_;first|refine yr ?_|refine yt ?_|refine yf ?_|refine yo ?_)
  refine ⟨.a (.c (.sl 1 0 0 4 c')),_,⟨[0,2],⟨rfl,rfl,rfl⟩,?_⟩,c',hc',rfl,rfl⟩
  (repeat first|exact trivial|refine ent1 ?_)
  refine ⟨fun j' hj'=>eqC_bytes (fun i hi=>?_) j',by (repeat first|exact trivial|refine ent1 ?_)⟩
  exact new_row (m:=[116#8,114#8,117#8,101#8]) (fun i hi=>rowu rfl i (by exact hi)) i hi
 have f2:decide (v.k=2#8)=false:=decide_eq_false k2
 by_cases k3:v.k=3#8
 ·have f3:decide (v.k=3#8)=true:=decide_eq_true k3
  have hp:put d v=dig v.n.toNat:=by rw [hpv]; unfold put1; rw [if_neg k0,if_neg k1,if_neg k2,if_pos k3]
  rw [hp] at hl ⊢
  (repeat show _∧_;first|refine yr ?_|refine yt ?_|refine yf ?_|refine ya f0 ?_|refine yb f0 ?_|refine ya f1 ?_|refine yb f1 ?_|refine ya f2 ?_|refine yb f2 ?_|refine ya f3 ?_|refine yb f3 ?_|refine yo ?_)
  refine call_same (fn_uint0 hT v.n) [0] rfl (by exact And.intro rfl (And.intro rfl (And.intro rfl trivial))) (by (repeat first|exact trivial|refine ent1 ?_)) (fun _ _=>trivial) ?_
  rintro y hs ⟨c',hc',rfl,rfl⟩
  (repeat show _∧_;first|refine yr ?_|refine yt ?_|refine yf ?_|refine yo ?_)
  exact ⟨.a (.c (.sl 1 0 0 (dig v.n.toNat).length c')),_,⟨[0,2],⟨rfl,rfl,rfl⟩,by (repeat first|exact trivial|refine ent1 ?_)⟩,c',hc',rfl,rfl⟩
 have f3:decide (v.k=3#8)=false:=decide_eq_false k3
 by_cases k4:v.k=4#8
 ·have f4:decide (v.k=4#8)=true:=decide_eq_true k4
  have hp:put d v=quote v.s:=by rw [hpv]; unfold put1; rw [if_neg k0,if_neg k1,if_neg k2,if_neg k3,if_pos k4]
  have hU:Utf v.s:=by
   rcases hcs with hlf|⟨_,_,_,_,_,_,_,h5|h6⟩
   ·exact hlf.2.2.2.2.2
   ·exact absurd (k4.symm.trans h5.1) (by decide)
   ·exact absurd (k4.symm.trans h6.1) (by decide)
  rw [hp] at hl ⊢
  (repeat show _∧_;first|refine yr ?_|refine yt ?_|refine yf ?_|refine ya f0 ?_|refine yb f0 ?_|refine ya f1 ?_|refine yb f1 ?_|refine ya f2 ?_|refine yb f2 ?_|refine ya f3 ?_|refine yb f3 ?_|refine ya f4 ?_|refine yb f4 ?_|refine yo ?_)
  refine call_same (fn_quote0 hU hl) [] rfl (by exact And.intro rfl (And.intro rfl trivial)) trivial (fun _ _=>trivial) ?_
  rintro y hs ⟨c',hc',rfl,rfl⟩
  (repeat show _∧_;first|refine yr ?_|refine yt ?_|refine yf ?_|refine yo ?_)
  exact ⟨.a (.c (.sl 1 0 0 (quote v.s).length c')),_,⟨[0,2],⟨rfl,rfl,rfl⟩,by (repeat first|exact trivial|refine ent1 ?_)⟩,c',hc',rfl,rfl⟩
 have f4:decide (v.k=4#8)=false:=decide_eq_false k4
 rcases hcs with hlf|⟨d',rfl,rfl,rfl,hv1,hv2,hv3,hk⟩
 ·exfalso
  have h1:=hlf.2.2.2.2.1
  have kk:∀ n,n<5→v.k≠BitVec.ofNat 8 n:=by
   intro n hn
   match n,hn with
   | 0,_=>exact k0
   | 1,_=>exact k1
   | 2,_=>exact k2
   | 3,_=>exact k3
   | 4,_=>exact k4
  exact kk v.k.toNat (by omega) (by apply BitVec.eq_of_toNat_eq; simp)
 obtain ⟨⟨g1,g2,g3,g4,g5⟩,hns⟩:=hx
 obtain ⟨xa,xm,xc,xb,xp,xq⟩:=x
 dsimp only at g1 g2 g3 g4 g5 hns
 rcases hk with ⟨k5,hns0⟩|⟨k6,hnl,hnd,hnu⟩
 ·have f5:decide (v.k=5#8)=true:=decide_eq_true k5
  have hp:put (d'+1) v=91#8::(putL (put d') v.l++[93#8]):=by rw [hpv]; unfold put1; rw [if_neg k0,if_neg k1,if_neg k2,if_neg k3,if_neg k4,if_pos k5]
  rw [hp] at hl ⊢
  have hl2:(putL (put d') v.l).length+2≤70368744177664:=by simp only [List.length_cons,List.length_append,List.length_nil] at hl; omega
  (repeat show _∧_;first|refine yr ?_|refine yt ?_|refine yf ?_|refine ya f0 ?_|refine yb f0 ?_|refine ya f1 ?_|refine yb f1 ?_|refine ya f2 ?_|refine yb f2 ?_|refine ya f3 ?_|refine yb f3 ?_|refine ya f4 ?_|refine yb f4 ?_|refine ya f5 ?_|refine yb f5 ?_|refine yo ?_)
  intro c1 hc1
  (repeat show _∧_;first|refine yr ?_|refine yt ?_|refine yf ?_|refine yo ?_)
  refine .inl ⟨Nat × Bs × Nat,fun x=>match x with|(j,B,c)=>⟨[.any,.a (.c (.sl 2 0 0 B.length c)),.a (.c (.p 1 0 0)),.any,.a (.c (.slc none 0 0)),.any,.any,.any,.any,.any,.a (.c (.w8 v.k)),.any,.any,.any,.any,.any,.any,.any,.any,.any,.any,.any,.any,.any,.any,.any,.any,.any,.any,.any,.any,.any,.any,.any,.any,.any,.any,.any,.any,.any,.any,.a (.c (.slc xa xm xc)),.a (.c (.int .i64 (xm))),.a (.c (.int .i64 (((j:Nat):Int)))),.any,.any,.any,.any,.any,.any,.any,.any,.any,.any,.any,.any,.any,.any,.any,.any,.any,.any,.any,.any,.any,.any,.any,.any,.any,.any,.any,.any,.any,.any,.any,.any,.any,.any,.any,.any,.any,.any,.any,.any,.any,.any,.any,.any,.any,.any,.any,.any],[[.past W ms],jvS v ⟨xa,xm,xc,xb,xp,xq⟩,lsC B c]⟩,
   fun x=>match x with|(j,B,c)=>j≤v.l.length∧B=([91#8])++putL (put d') (v.l.take j)∧B.length≤c,fun x=>v.l.length-x.1,⟨(0,([91#8]),c1),[0,1,3],⟨⟨rfl,rfl,rfl⟩,?_⟩,Nat.zero_le _,by rw [List.take_zero]; exact (List.append_nil _).symm,hc1⟩,fun x hx=>?_⟩
  ·(repeat first|exact trivial|refine ent1 ?_)
   refine ⟨fun j hj=>eqC_bytes (fun i hi=>?_) j,by (repeat first|exact trivial|refine ent1 ?_)⟩
   exact new_row (m:=[91#8]) (fun i hi=>one_row rfl i hi) i hi
  obtain ⟨j,B,c2⟩:=x
  obtain ⟨i1,i2,i3⟩:=hx
  dsimp only
  have hBl:B.length=1+(putL (put d') (v.l.take j)).length:=by rw [i2]; simp only [List.length_append,List.length_cons,List.length_nil]; try omega
  have hjl:(putL (put d') (v.l.take j)).length≤(putL (put d') v.l).length:=putL_le _ _ _
  have hBm:B.length+1≤70368744177664:=by omega
  by_cases hj:j<v.l.length
  rotate_left
  ·have e1:decide ((j:Int)<(xm:Int))=false:=decide_eq_false (by omega)
   obtain rfl:j=v.l.length:=by omega
   have hfull:91#8::(putL (put d') v.l++[93#8])=B++[93#8]:=by rw [i2,List.take_length]; simp
   rw [hfull]
   (repeat show _∧_;first|refine yr ?_|refine yt ?_|refine yf ?_|refine ya e1 ?_|refine yb e1 ?_|refine yo ?_)
   refine And.intro ⟨i3,by simp only [scale]; omega,by show (B.length+1)*1≤140737488355328; omega⟩ ?_
   intro c3 hc3
   (repeat show _∧_;first|refine yr ?_|refine yt ?_|refine yf ?_|refine yo ?_)
   refine ⟨.a (.c (.sl 1 0 0 (B++[93#8]).length c3)),_,⟨[0,4],⟨rfl,rfl,rfl⟩,?_⟩,c3,by rw [List.length_append]; exact hc3,rfl,rfl⟩
   (repeat first|exact trivial|refine ent1 ?_)
   refine And.intro (show B.length+1=(B++[93#8]).length by rw [List.length_append]; rfl) ?_
   (repeat first|exact trivial|refine ent1 ?_)
   refine ⟨fun j hj=>eqC_bytes (fun i hi=>?_) j,by (repeat first|exact trivial|refine ent1 ?_)⟩
   have hi':i<B.length+1:=by rw [List.length_append] at hi; exact hi
   refine app_row (l:=B) (n:=B.length) (k:=1) rfl ?_ (fun i hi=>bytesF_lt hi) (fun i hi=>?_) i hi'
   ·rfl
   ·exact rowl i (by exact hi) rfl
  have e1:decide ((j:Int)<(xm:Int))=true:=decide_eq_true (by omega)
  obtain ⟨A,rfl⟩:∃ A,xa=some A:=by
   cases xa with
   | none=>exact absurd (g4 rfl) (by omega)
   | some A=>exact ⟨A,rfl⟩
  obtain ⟨y,y1,y2⟩:=(g5 A rfl (by omega)).2 j v.l[j] (List.getElem?_eq_getElem hj)
  (repeat show _∧_;first|refine yr ?_|refine yt ?_|refine yf ?_|refine ya e1 ?_|refine yb e1 ?_|refine yo ?_)
  refine ⟨jvS v.l[j] y,⟨.past (i:=0) rfl (by exact y1),rfl⟩,?_⟩
  have hle1:(putL (put d') (v.l.take (j+1))).length≤(putL (put d') v.l).length:=putL_le _ _ _
  have hbs:(([91#8]):Bs).length=1:=by simp only [List.length_append,List.length_cons,List.length_nil]
  by_cases h0:j=0
  ·have e2:decide ((0:Int)<(j:Int))=false:=decide_eq_false (by omega)
   (repeat show _∧_;first|refine yr ?_|refine yt ?_|refine yf ?_|refine ya e2 ?_|refine yb e2 ?_|refine yo ?_)
   have hst:([91#8])++putL (put d') (v.l.take (j+1))=B++put d' v.l[j]:=by rw [putL_step (put d') v.l j hj,if_pos h0,show B=([91#8]) from by rw [i2,h0,List.take_zero]; exact List.append_nil _]
   have hln:=congrArg List.length hst
   simp only [List.length_append,List.length_cons,List.length_nil] at hln hbs
   refine call_same (hrec d' rfl W ms v.l[j] y B c2 hT y2 (hv3 _ (List.getElem_mem hj)) i3 (by (try simp only [List.length_append,List.length_cons,List.length_nil]); omega)) [0,2] rfl ?_ ?_ (fun _ _=>trivial) ?_
   ·(repeat first|exact trivial|refine ent1 ?_)
   ·(repeat first|exact trivial|refine ent1 ?_)
   rintro y' hs ⟨c6,hc6,rfl,rfl⟩
   (repeat show _∧_;first|refine yr ?_|refine yt ?_|refine yf ?_|refine yo ?_)
   refine ⟨(j+1,B++put d' v.l[j],c6),[0,1,4],⟨⟨rfl,rfl,rfl⟩,?_⟩,⟨hj,hst.symm,hc6⟩,by dsimp only; omega⟩
   dsimp only
   (repeat first|exact trivial|refine ent1 ?_)
  have e2:decide ((0:Int)<(j:Int))=true:=decide_eq_true (by omega)
  (repeat show _∧_;first|refine yr ?_|refine yt ?_|refine yf ?_|refine ya e2 ?_|refine yb e2 ?_|refine yo ?_)
  refine And.intro ⟨i3,by simp only [scale]; omega,by show (B.length+1)*1≤140737488355328; omega⟩ ?_
  intro c3 hc3
  (repeat show _∧_;first|refine yr ?_|refine yt ?_|refine yf ?_|refine yo ?_)
  have hc3':(B++[44#8]).length≤c3:=by rw [List.length_append]; exact hc3
  have hst:([91#8])++putL (put d') (v.l.take (j+1))=(B++[44#8])++put d' v.l[j]:=by rw [putL_step (put d') v.l j hj,if_neg h0,← i2]
  have hln:=congrArg List.length hst
  simp only [List.length_append,List.length_cons,List.length_nil] at hln hbs
  refine call_same (hrec d' rfl W ms v.l[j] y (B++[44#8]) c3 hT y2 (hv3 _ (List.getElem_mem hj)) hc3' (by (try simp only [List.length_append,List.length_cons,List.length_nil]); omega)) [0,5] rfl ?_ ?_ (fun _ _=>trivial) ?_
  ·(repeat first|exact trivial|refine ent1 ?_)
   exact And.intro (show B.length+1=_ by rw [List.length_append]; rfl) (by (repeat first|exact trivial|refine ent1 ?_))
  ·(repeat first|exact trivial|refine ent1 ?_)
   refine ⟨fun j' hj'=>eqC_bytes (fun i hi=>?_) j',by (repeat first|exact trivial|refine ent1 ?_)⟩
   have hi':i<(B).length+1:=by rw [List.length_append] at hi; exact hi
   refine app_row (l:=B) (n:=(B).length) (k:=1) rfl ?_ (fun i hi=>bytesF_lt hi) (fun i hi=>?_) i hi'
   ·rfl
   ·exact rowl i (by exact hi) rfl
  rintro y' hs ⟨c6,hc6,rfl,rfl⟩
  (repeat show _∧_;first|refine yr ?_|refine yt ?_|refine yf ?_|refine yo ?_)
  refine ⟨(j+1,(B++[44#8])++put d' v.l[j],c6),[0,1,6],⟨⟨rfl,rfl,rfl⟩,?_⟩,⟨hj,hst.symm,hc6⟩,by dsimp only; omega⟩
  dsimp only
  (repeat first|exact trivial|refine ent1 ?_)
 ·have f5:decide (v.k=5#8)=false:=decide_eq_false (by rw [k6]; decide)
  have hp:put (d'+1) v=123#8::(putO (put d') v.ns v.l++[125#8]):=by rw [hpv]; unfold put1; rw [if_neg k0,if_neg k1,if_neg k2,if_neg k3,if_neg k4,if_neg (by rw [k6]; decide)]
  rw [hp] at hl ⊢
  have hl2:(putO (put d') v.ns v.l).length+2≤70368744177664:=by simp only [List.length_cons,List.length_append,List.length_nil] at hl; omega
  (repeat show _∧_;first|refine yr ?_|refine yt ?_|refine yf ?_|refine ya f0 ?_|refine yb f0 ?_|refine ya f1 ?_|refine yb f1 ?_|refine ya f2 ?_|refine yb f2 ?_|refine ya f3 ?_|refine yb f3 ?_|refine ya f4 ?_|refine yb f4 ?_|refine ya f5 ?_|refine yb f5 ?_|refine yo ?_)
  intro c1 hc1
  (repeat show _∧_;first|refine yr ?_|refine yt ?_|refine yf ?_|refine yo ?_)
  refine .inl ⟨Nat × Bs × Nat,fun x=>match x with|(j,B,c)=>⟨[.any,.a (.c (.sl 2 0 0 B.length c)),.a (.c (.p 1 0 0)),.any,.a (.c (.slc none 0 0)),.any,.any,.any,.any,.any,.a (.c (.w8 v.k)),.any,.any,.any,.any,.any,.any,.any,.any,.any,.any,.any,.any,.any,.any,.any,.any,.any,.any,.any,.any,.any,.any,.any,.any,.any,.any,.any,.any,.any,.any,.any,.any,.any,.any,.any,.any,.any,.any,.any,.any,.any,.any,.any,.any,.any,.any,.any,.any,.any,.any,.any,.any,.any,.a (.c (.slc xa xm xc)),.a (.c (.int .i64 (xm))),.a (.c (.int .i64 (((j:Nat):Int)))),.any,.any,.any,.any,.any,.any,.any,.any,.any,.any,.any,.any,.any,.any,.any,.any,.any,.any,.any,.any,.any,.any,.any,.any,.any],[[.past W ms],jvS v ⟨xa,xm,xc,xb,xp,xq⟩,lsC B c]⟩,
   fun x=>match x with|(j,B,c)=>j≤v.l.length∧B=([123#8])++putO (put d') (v.ns.take j) (v.l.take j)∧B.length≤c,fun x=>v.l.length-x.1,⟨(0,([123#8]),c1),[0,1,3],⟨⟨rfl,rfl,rfl⟩,?_⟩,Nat.zero_le _,by rw [List.take_zero,List.take_zero]; exact (List.append_nil _).symm,hc1⟩,fun x hx=>?_⟩
  ·(repeat first|exact trivial|refine ent1 ?_)
   refine ⟨fun j hj=>eqC_bytes (fun i hi=>?_) j,by (repeat first|exact trivial|refine ent1 ?_)⟩
   exact new_row (m:=[123#8]) (fun i hi=>one_row rfl i hi) i hi
  obtain ⟨j,B,c2⟩:=x
  obtain ⟨i1,i2,i3⟩:=hx
  dsimp only
  have hBl:B.length=1+(putO (put d') (v.ns.take j) (v.l.take j)).length:=by rw [i2]; simp only [List.length_append,List.length_cons,List.length_nil]; try omega
  have hjl:(putO (put d') (v.ns.take j) (v.l.take j)).length≤(putO (put d') v.ns v.l).length:=putO_le _ _ _ _ hnl
  have hBm:B.length+1≤70368744177664:=by omega
  by_cases hj:j<v.l.length
  rotate_left
  ·have e1:decide ((j:Int)<(xm:Int))=false:=decide_eq_false (by omega)
   obtain rfl:j=v.l.length:=by omega
   have hfull:123#8::(putO (put d') v.ns v.l++[125#8])=B++[125#8]:=by rw [i2,show v.ns.take v.l.length=v.ns by rw [← hnl,List.take_length],List.take_length]; simp
   rw [hfull]
   (repeat show _∧_;first|refine yr ?_|refine yt ?_|refine yf ?_|refine ya e1 ?_|refine yb e1 ?_|refine yo ?_)
   refine And.intro ⟨i3,by simp only [scale]; omega,by show (B.length+1)*1≤140737488355328; omega⟩ ?_
   intro c3 hc3
   (repeat show _∧_;first|refine yr ?_|refine yt ?_|refine yf ?_|refine yo ?_)
   refine ⟨.a (.c (.sl 1 0 0 (B++[125#8]).length c3)),_,⟨[0,4],⟨rfl,rfl,rfl⟩,?_⟩,c3,by rw [List.length_append]; exact hc3,rfl,rfl⟩
   (repeat first|exact trivial|refine ent1 ?_)
   refine And.intro (show B.length+1=(B++[125#8]).length by rw [List.length_append]; rfl) ?_
   (repeat first|exact trivial|refine ent1 ?_)
   refine ⟨fun j hj=>eqC_bytes (fun i hi=>?_) j,by (repeat first|exact trivial|refine ent1 ?_)⟩
   have hi':i<B.length+1:=by rw [List.length_append] at hi; exact hi
   refine app_row (l:=B) (n:=B.length) (k:=1) rfl ?_ (fun i hi=>bytesF_lt hi) (fun i hi=>?_) i hi'
   ·rfl
   ·exact rowl i (by exact hi) rfl
  have e1:decide ((j:Int)<(xm:Int))=true:=decide_eq_true (by omega)
  obtain ⟨A,rfl⟩:∃ A,xa=some A:=by
   cases xa with
   | none=>exact absurd (g4 rfl) (by omega)
   | some A=>exact ⟨A,rfl⟩
  obtain ⟨y,y1,y2⟩:=(g5 A rfl (by omega)).2 j v.l[j] (List.getElem?_eq_getElem hj)
  obtain ⟨Bn,rfl⟩:∃ Bn,xb=some Bn:=by
   cases xb with
   | none=>exact absurd (show v.ns.length=0 by have h1:=hns.len; simp only [List.length_map] at h1; have h2:=hns.le; have h3:=hns.nil rfl; omega) (by omega)
   | some Bn=>exact ⟨Bn,rfl⟩
  have hjn:j<v.ns.length:=by omega
  have hjp:j<xp:=by have h1:=hns.len; simp only [List.length_map] at h1; omega
  (repeat show _∧_;first|refine yr ?_|refine yt ?_|refine yf ?_|refine ya e1 ?_|refine yb e1 ?_|refine yo ?_)
  refine ⟨jvS v.l[j] y,⟨.past (i:=0) rfl (by exact y1),rfl⟩,?_⟩
  have hle1:(putO (put d') (v.ns.take (j+1)) (v.l.take (j+1))).length≤(putO (put d') v.ns v.l).length:=putO_le _ _ _ _ hnl
  have hbs:(([123#8]):Bs).length=1:=by simp only [List.length_append,List.length_cons,List.length_nil]
  by_cases h0:j=0
  ·have e2:decide ((0:Int)<(j:Int))=false:=decide_eq_false (by omega)
   (repeat show _∧_;first|refine yr ?_|refine yt ?_|refine yf ?_|refine ya e2 ?_|refine yb e2 ?_|refine yo ?_)
   have hst:([123#8])++putO (put d') (v.ns.take (j+1)) (v.l.take (j+1))=(B++quote v.ns[j]++[58#8])++put d' v.l[j]:=by rw [putO_step (put d') v.ns v.l j hj hnl,if_pos h0,show B=([123#8]) from by rw [i2,h0,List.take_zero,List.take_zero]; exact List.append_nil _]
   have hln:=congrArg List.length hst
   simp only [List.length_append,List.length_cons,List.length_nil] at hln hbs
   refine And.intro (show (0:Int)≤(j:Int)∧(j:Int)<(xp:Int) by omega) ?_
   have him:=(hns.im Bn rfl (by have:=hns.le; omega)).one (show ((v.ns.map U8).map SC.str)[j]?=some (.str (U8 v.ns[j])) by simp [hjn])
   refine ⟨[.one (.str (U8 v.ns[j]))],⟨.past (i:=0) rfl (by show ImAt W ms (Bn.add (j*1)) _; rw [Nat.mul_one]; exact him),rfl⟩,?_⟩
   (repeat show _∧_;first|refine yr ?_|refine yt ?_|refine yf ?_|refine yo ?_)
   refine call_same (fn_quote B c2 i3 (hnu _ (List.getElem_mem hjn)) (by (try simp only [List.length_append,List.length_cons,List.length_nil]); omega)) [2] rfl (by exact And.intro rfl (And.intro rfl (And.intro rfl (And.intro rfl trivial)))) ?_ (fun _ _=>trivial) ?_
   ·(repeat first|exact trivial|refine ent1 ?_)
   rintro y' hs ⟨c4,hc4,rfl,rfl⟩
   (repeat show _∧_;first|refine yr ?_|refine yt ?_|refine yf ?_|refine yo ?_)
   refine And.intro ⟨hc4,by simp only [scale]; omega,by show ((B++quote v.ns[j]).length+1)*1≤140737488355328; simp only [List.length_append,List.length_cons,List.length_nil]; omega⟩ ?_
   intro c5 hc5
   (repeat show _∧_;first|refine yr ?_|refine yt ?_|refine yf ?_|refine yo ?_)
   have hc5':((B++quote v.ns[j])++[58#8]).length≤c5:=by rw [List.length_append]; exact hc5
   refine call_same (hrec d' rfl W ms v.l[j] y ((B++quote v.ns[j])++[58#8]) c5 hT y2 (hv3 _ (List.getElem_mem hj)) hc5' (by (try simp only [List.length_append,List.length_cons,List.length_nil]); omega)) [0,6] rfl ?_ ?_ (fun _ _=>trivial) ?_
   ·(repeat first|exact trivial|refine ent1 ?_)
    exact And.intro (show (B++quote v.ns[j]).length+1=_ by simp only [List.length_append,List.length_cons,List.length_nil]) (by (repeat first|exact trivial|refine ent1 ?_))
   ·(repeat first|exact trivial|refine ent1 ?_)
    refine ⟨fun j' hj'=>eqC_bytes (fun i hi=>?_) j',by (repeat first|exact trivial|refine ent1 ?_)⟩
    have hi':i<((B++quote v.ns[j])).length+1:=by rw [List.length_append] at hi; exact hi
    refine app_row (l:=(B++quote v.ns[j])) (n:=((B++quote v.ns[j])).length) (k:=1) rfl ?_ (fun i hi=>bytesM_lt hi) (fun i hi=>?_) i hi'
    ·rfl
    ·exact rowl i (by exact hi) rfl
   rintro y' hs ⟨c6,hc6,rfl,rfl⟩
   (repeat show _∧_;first|refine yr ?_|refine yt ?_|refine yf ?_|refine yo ?_)
   refine ⟨(j+1,((B++quote v.ns[j])++[58#8])++put d' v.l[j],c6),[0,1,7],⟨⟨rfl,rfl,rfl⟩,?_⟩,⟨hj,hst.symm,hc6⟩,by dsimp only; omega⟩
   dsimp only
   (repeat first|exact trivial|refine ent1 ?_)
  have e2:decide ((0:Int)<(j:Int))=true:=decide_eq_true (by omega)
  (repeat show _∧_;first|refine yr ?_|refine yt ?_|refine yf ?_|refine ya e2 ?_|refine yb e2 ?_|refine yo ?_)
  refine And.intro ⟨i3,by simp only [scale]; omega,by show (B.length+1)*1≤140737488355328; omega⟩ ?_
  intro c3 hc3
  (repeat show _∧_;first|refine yr ?_|refine yt ?_|refine yf ?_|refine yo ?_)
  have hc3':(B++[44#8]).length≤c3:=by rw [List.length_append]; exact hc3
  have hst:([123#8])++putO (put d') (v.ns.take (j+1)) (v.l.take (j+1))=((B++[44#8])++quote v.ns[j]++[58#8])++put d' v.l[j]:=by rw [putO_step (put d') v.ns v.l j hj hnl,if_neg h0,← i2]
  have hln:=congrArg List.length hst
  simp only [List.length_append,List.length_cons,List.length_nil] at hln hbs
  refine And.intro (show (0:Int)≤(j:Int)∧(j:Int)<(xp:Int) by omega) ?_
  have him:=(hns.im Bn rfl (by have:=hns.le; omega)).one (show ((v.ns.map U8).map SC.str)[j]?=some (.str (U8 v.ns[j])) by simp [hjn])
  refine ⟨[.one (.str (U8 v.ns[j]))],⟨.past (i:=0) rfl (by show ImAt W ms (Bn.add (j*1)) _; rw [Nat.mul_one]; exact him),rfl⟩,?_⟩
  (repeat show _∧_;first|refine yr ?_|refine yt ?_|refine yf ?_|refine yo ?_)
  refine call_same (fn_quote (B++[44#8]) c3 hc3' (hnu _ (List.getElem_mem hjn)) (by (try simp only [List.length_append,List.length_cons,List.length_nil]); omega)) [5] rfl (by exact And.intro rfl (And.intro (show B.length+1=_ by rw [List.length_append]; rfl) (And.intro rfl (And.intro rfl trivial)))) ?_ (fun _ _=>trivial) ?_
  ·(repeat first|exact trivial|refine ent1 ?_)
   refine ⟨fun j' hj'=>eqC_bytes (fun i hi=>?_) j',by (repeat first|exact trivial|refine ent1 ?_)⟩
   have hi':i<(B).length+1:=by rw [List.length_append] at hi; exact hi
   refine app_row (l:=B) (n:=(B).length) (k:=1) rfl ?_ (fun i hi=>bytesF_lt hi) (fun i hi=>?_) i hi'
   ·rfl
   ·exact rowl i (by exact hi) rfl
  rintro y' hs ⟨c4,hc4,rfl,rfl⟩
  (repeat show _∧_;first|refine yr ?_|refine yt ?_|refine yf ?_|refine yo ?_)
  refine And.intro ⟨hc4,by simp only [scale]; omega,by show (((B++[44#8])++quote v.ns[j]).length+1)*1≤140737488355328; simp only [List.length_append,List.length_cons,List.length_nil]; omega⟩ ?_
  intro c5 hc5
  (repeat show _∧_;first|refine yr ?_|refine yt ?_|refine yf ?_|refine yo ?_)
  have hc5':(((B++[44#8])++quote v.ns[j])++[58#8]).length≤c5:=by rw [List.length_append]; exact hc5
  refine call_same (hrec d' rfl W ms v.l[j] y (((B++[44#8])++quote v.ns[j])++[58#8]) c5 hT y2 (hv3 _ (List.getElem_mem hj)) hc5' (by (try simp only [List.length_append,List.length_cons,List.length_nil]); omega)) [0,8] rfl ?_ ?_ (fun _ _=>trivial) ?_
  ·(repeat first|exact trivial|refine ent1 ?_)
   exact And.intro (show ((B++[44#8])++quote v.ns[j]).length+1=_ by simp only [List.length_append,List.length_cons,List.length_nil]) (by (repeat first|exact trivial|refine ent1 ?_))
  ·(repeat first|exact trivial|refine ent1 ?_)
   refine ⟨fun j' hj'=>eqC_bytes (fun i hi=>?_) j',by (repeat first|exact trivial|refine ent1 ?_)⟩
   have hi':i<(((B++[44#8])++quote v.ns[j])).length+1:=by rw [List.length_append] at hi; exact hi
   refine app_row (l:=((B++[44#8])++quote v.ns[j])) (n:=(((B++[44#8])++quote v.ns[j])).length) (k:=1) rfl ?_ (fun i hi=>bytesM_lt hi) (fun i hi=>?_) i hi'
   ·rfl
   ·exact rowl i (by exact hi) rfl
  rintro y' hs ⟨c6,hc6,rfl,rfl⟩
  (repeat show _∧_;first|refine yr ?_|refine yt ?_|refine yf ?_|refine yo ?_)
  refine ⟨(j+1,(((B++[44#8])++quote v.ns[j])++[58#8])++put d' v.l[j],c6),[0,1,9],⟨⟨rfl,rfl,rfl⟩,?_⟩,⟨hj,hst.symm,hc6⟩,by dsimp only; omega⟩
  dsimp only
  (repeat first|exact trivial|refine ent1 ?_)
set_option maxRecDepth 20000 in
set_option maxHeartbeats 32000000 in
theorem fn_put1 (d:Nat) (hrec:∀ d',d=d'+1→PutC d') {W:World} {ms:List Nat} {v:JT} {x:JC} (b:Bs) (c:Nat) (hT:Tabs W ms) (hx:TAt W ms d v x) (hn:norm d v) (hc:b.length≤c) (hl:b.length+(put d v).length≤70368744177664) :
  FnR Tryd.prog tds 45 1 [[.past W ms],lsC b c] [.agg (jvS v x),.c (.sl 1 0 0 b.length c)] (fun _=>True)
  (fun y hs=>∃ c',(b++put d v).length≤c'∧y=.a (.c (.sl 2 0 0 (b++put d v).length c'))∧hs=[[.past W ms],[],lsC (b++put d v) c']):=by
 refine fn_of_body tds_ok follows_ Tryd.func45 rfl (t:=.a (.agg (jvS v x))::.a (.c (.sl 1 0 0 b.length c))::anys (Tryd.f45.ntmps-2)) rfl (fun w r0 hr0 _=>?_)
 obtain ⟨x0,x1,rfl⟩:=len2' hr0
 obtain ⟨pl,po,hpv,hcs⟩:∃ pl po,put d v=put1 pl po v∧(leaf v∨∃ d',d=d'+1∧pl=putL (put d')∧po=putO (put d')∧v.n=0#64∧v.s=[]∧(∀ x∈v.l,norm d' x)∧((v.k=5#8∧v.ns=[])∨(v.k=6#8∧v.ns.length=v.l.length∧v.ns.Nodup∧∀ s∈v.ns,Utf s))):=by
  cases d with
  | zero=>exact ⟨_,_,rfl,.inl hn⟩
  | succ d=>exact ⟨_,_,rfl,hn.imp_right fun h=>⟨d,rfl,rfl,rfl,h⟩⟩
 by_cases k0:v.k=0#8
 ·have f0:decide (v.k=0#8)=true:=decide_eq_true k0
  have hp:put d v=[110#8,117#8,108#8,108#8]:=by rw [hpv]; unfold put1; rw [if_pos k0]
  rw [hp] at hl ⊢
  have hl2:b.length+4≤70368744177664:=hl
  (repeat show _∧_;first|refine yr ?_|refine yt ?_|refine yf ?_|refine ya f0 ?_|refine yb f0 ?_|refine yo ?_)
  refine And.intro ⟨hc,by simp only [scale]; omega,by show (b.length+4)*1≤140737488355328; omega⟩ ?_
  intro c' hc'
  (repeat show _∧_;first|refine yr ?_|refine yt ?_|refine yf ?_|refine yo ?_)
  refine ⟨.a (.c (.sl 2 0 0 (b++[110#8,117#8,108#8,108#8]).length c')),_,⟨[0,1,3],⟨rfl,rfl,rfl⟩,?_⟩,c',by rw [List.length_append]; exact hc',rfl,rfl⟩
  (repeat first|exact trivial|refine ent1 ?_)
  refine And.intro (show b.length+4=_ by rw [List.length_append]; rfl) ?_
  (repeat first|exact trivial|refine ent1 ?_)
  refine ⟨fun j' hj'=>eqC_bytes (fun i hi=>?_) j',by (repeat first|exact trivial|refine ent1 ?_)⟩
  have hi':i<b.length+4:=by rw [List.length_append] at hi; exact hi
  refine app_row (l:=b) (n:=b.length) (k:=4) rfl ?_ (fun i hi=>bytesF_lt hi) (fun i hi=>?_) i hi'
  ·rfl
  ·exact rowu (m:=[110#8,117#8,108#8,108#8]) rfl i (by exact hi)
 have f0:decide (v.k=0#8)=false:=decide_eq_false k0
 by_cases k1:v.k=1#8
 ·have f1:decide (v.k=1#8)=true:=decide_eq_true k1
  have hp:put d v=[102#8,97#8,108#8,115#8,101#8]:=by rw [hpv]; unfold put1; rw [if_neg k0]; rw [if_pos k1]
  rw [hp] at hl ⊢
  have hl2:b.length+5≤70368744177664:=hl
  (repeat show _∧_;first|refine yr ?_|refine yt ?_|refine yf ?_|refine ya f0 ?_|refine yb f0 ?_|refine ya f1 ?_|refine yb f1 ?_|refine yo ?_)
  refine And.intro ⟨hc,by simp only [scale]; omega,by show (b.length+5)*1≤140737488355328; omega⟩ ?_
  intro c' hc'
  (repeat show _∧_;first|refine yr ?_|refine yt ?_|refine yf ?_|refine yo ?_)
  refine ⟨.a (.c (.sl 2 0 0 (b++[102#8,97#8,108#8,115#8,101#8]).length c')),_,⟨[0,1,3],⟨rfl,rfl,rfl⟩,?_⟩,c',by rw [List.length_append]; exact hc',rfl,rfl⟩
  (repeat first|exact trivial|refine ent1 ?_)
  refine And.intro (show b.length+5=_ by rw [List.length_append]; rfl) ?_
  (repeat first|exact trivial|refine ent1 ?_)
  refine ⟨fun j' hj'=>eqC_bytes (fun i hi=>?_) j',by (repeat first|exact trivial|refine ent1 ?_)⟩
  have hi':i<b.length+5:=by rw [List.length_append] at hi; exact hi
  refine app_row (l:=b) (n:=b.length) (k:=5) rfl ?_ (fun i hi=>bytesF_lt hi) (fun i hi=>?_) i hi'
  ·rfl
  ·exact rowu (m:=[102#8,97#8,108#8,115#8,101#8]) rfl i (by exact hi)
 have f1:decide (v.k=1#8)=false:=decide_eq_false k1
 by_cases k2:v.k=2#8
 ·have f2:decide (v.k=2#8)=true:=decide_eq_true k2
  have hp:put d v=[116#8,114#8,117#8,101#8]:=by rw [hpv]; unfold put1; rw [if_neg k0]; rw [if_neg k1]; rw [if_pos k2]
  rw [hp] at hl ⊢
  have hl2:b.length+4≤70368744177664:=hl
  (repeat show _∧_;first|refine yr ?_|refine yt ?_|refine yf ?_|refine ya f0 ?_|refine yb f0 ?_|refine ya f1 ?_|refine yb f1 ?_|refine ya f2 ?_|refine yb f2 ?_|refine yo ?_)
  refine And.intro ⟨hc,by simp only [scale]; omega,by show (b.length+4)*1≤140737488355328; omega⟩ ?_
  intro c' hc'
  (repeat show _∧_;first|refine yr ?_|refine yt ?_|refine yf ?_|refine yo ?_)
  refine ⟨.a (.c (.sl 2 0 0 (b++[116#8,114#8,117#8,101#8]).length c')),_,⟨[0,1,3],⟨rfl,rfl,rfl⟩,?_⟩,c',by rw [List.length_append]; exact hc',rfl,rfl⟩
  (repeat first|exact trivial|refine ent1 ?_)
  refine And.intro (show b.length+4=_ by rw [List.length_append]; rfl) ?_
  (repeat first|exact trivial|refine ent1 ?_)
  refine ⟨fun j' hj'=>eqC_bytes (fun i hi=>?_) j',by (repeat first|exact trivial|refine ent1 ?_)⟩
  have hi':i<b.length+4:=by rw [List.length_append] at hi; exact hi
  refine app_row (l:=b) (n:=b.length) (k:=4) rfl ?_ (fun i hi=>bytesF_lt hi) (fun i hi=>?_) i hi'
  ·rfl
  ·exact rowu (m:=[116#8,114#8,117#8,101#8]) rfl i (by exact hi)
 have f2:decide (v.k=2#8)=false:=decide_eq_false k2
 by_cases k3:v.k=3#8
 ·have f3:decide (v.k=3#8)=true:=decide_eq_true k3
  have hp:put d v=dig v.n.toNat:=by rw [hpv]; unfold put1; rw [if_neg k0,if_neg k1,if_neg k2,if_pos k3]
  rw [hp] at hl ⊢
  (repeat show _∧_;first|refine yr ?_|refine yt ?_|refine yf ?_|refine ya f0 ?_|refine yb f0 ?_|refine ya f1 ?_|refine yb f1 ?_|refine ya f2 ?_|refine yb f2 ?_|refine ya f3 ?_|refine yb f3 ?_|refine yo ?_)
  refine call_same (fn_uint hT b c (by omega) hc v.n) [0,1] rfl (by exact And.intro rfl (And.intro rfl (And.intro rfl (And.intro rfl (And.intro rfl trivial))))) (by (repeat first|exact trivial|refine ent1 ?_)) (fun _ _=>trivial) ?_
  rintro y hs ⟨c',hc',rfl,rfl⟩
  (repeat show _∧_;first|refine yr ?_|refine yt ?_|refine yf ?_|refine yo ?_)
  exact ⟨.a (.c (.sl 2 0 0 (b++dig v.n.toNat).length c')),_,⟨[0,1,3],⟨rfl,rfl,rfl⟩,by (repeat first|exact trivial|refine ent1 ?_)⟩,c',hc',rfl,rfl⟩
 have f3:decide (v.k=3#8)=false:=decide_eq_false k3
 by_cases k4:v.k=4#8
 ·have f4:decide (v.k=4#8)=true:=decide_eq_true k4
  have hp:put d v=quote v.s:=by rw [hpv]; unfold put1; rw [if_neg k0,if_neg k1,if_neg k2,if_neg k3,if_pos k4]
  have hU:Utf v.s:=by
   rcases hcs with hlf|⟨_,_,_,_,_,_,_,h5|h6⟩
   ·exact hlf.2.2.2.2.2
   ·exact absurd (k4.symm.trans h5.1) (by decide)
   ·exact absurd (k4.symm.trans h6.1) (by decide)
  rw [hp] at hl ⊢
  (repeat show _∧_;first|refine yr ?_|refine yt ?_|refine yf ?_|refine ya f0 ?_|refine yb f0 ?_|refine ya f1 ?_|refine yb f1 ?_|refine ya f2 ?_|refine yb f2 ?_|refine ya f3 ?_|refine yb f3 ?_|refine ya f4 ?_|refine yb f4 ?_|refine yo ?_)
  refine call_same (fn_quote b c hc hU hl) [1] rfl (by exact And.intro rfl (And.intro rfl (And.intro rfl (And.intro rfl trivial)))) (by (repeat first|exact trivial|refine ent1 ?_)) (fun _ _=>trivial) ?_
  rintro y hs ⟨c',hc',rfl,rfl⟩
  (repeat show _∧_;first|refine yr ?_|refine yt ?_|refine yf ?_|refine yo ?_)
  exact ⟨.a (.c (.sl 2 0 0 (b++quote v.s).length c')),_,⟨[0,1,3],⟨rfl,rfl,rfl⟩,by (repeat first|exact trivial|refine ent1 ?_)⟩,c',hc',rfl,rfl⟩
 have f4:decide (v.k=4#8)=false:=decide_eq_false k4
 rcases hcs with hlf|⟨d',rfl,rfl,rfl,hv1,hv2,hv3,hk⟩
 ·exfalso
  have h1:=hlf.2.2.2.2.1
  have kk:∀ n,n<5→v.k≠BitVec.ofNat 8 n:=by
   intro n hn
   match n,hn with
   | 0,_=>exact k0
   | 1,_=>exact k1
   | 2,_=>exact k2
   | 3,_=>exact k3
   | 4,_=>exact k4
  exact kk v.k.toNat (by omega) (by apply BitVec.eq_of_toNat_eq; simp)
 obtain ⟨⟨g1,g2,g3,g4,g5⟩,hns⟩:=hx
 obtain ⟨xa,xm,xc,xb,xp,xq⟩:=x
 dsimp only at g1 g2 g3 g4 g5 hns
 rcases hk with ⟨k5,hns0⟩|⟨k6,hnl,hnd,hnu⟩
 ·have f5:decide (v.k=5#8)=true:=decide_eq_true k5
  have hp:put (d'+1) v=91#8::(putL (put d') v.l++[93#8]):=by rw [hpv]; unfold put1; rw [if_neg k0,if_neg k1,if_neg k2,if_neg k3,if_neg k4,if_pos k5]
  rw [hp] at hl ⊢
  have hl2:b.length+(putL (put d') v.l).length+2≤70368744177664:=by simp only [List.length_cons,List.length_append,List.length_nil] at hl; omega
  (repeat show _∧_;first|refine yr ?_|refine yt ?_|refine yf ?_|refine ya f0 ?_|refine yb f0 ?_|refine ya f1 ?_|refine yb f1 ?_|refine ya f2 ?_|refine yb f2 ?_|refine ya f3 ?_|refine yb f3 ?_|refine ya f4 ?_|refine yb f4 ?_|refine ya f5 ?_|refine yb f5 ?_|refine yo ?_)
  refine And.intro ⟨hc,by simp only [scale]; omega,by show (b.length+1)*1≤140737488355328; omega⟩ ?_
  intro c1 hc1
  (repeat show _∧_;first|refine yr ?_|refine yt ?_|refine yf ?_|refine yo ?_)
  refine .inl ⟨Nat × Bs × Nat,fun x=>match x with|(j,B,c)=>⟨[.any,.a (.c (.sl 3 0 0 B.length c)),.a (.c (.p 2 0 0)),.any,.a (.c (.slc none 0 0)),.any,.any,.any,.any,.any,.a (.c (.w8 v.k)),.any,.any,.any,.any,.any,.any,.any,.any,.any,.any,.any,.any,.any,.any,.any,.any,.any,.any,.any,.any,.any,.any,.any,.any,.any,.any,.any,.any,.any,.any,.a (.c (.slc xa xm xc)),.a (.c (.int .i64 (xm))),.a (.c (.int .i64 (((j:Nat):Int)))),.any,.any,.any,.any,.any,.any,.any,.any,.any,.any,.any,.any,.any,.any,.any,.any,.any,.any,.any,.any,.any,.any,.any,.any,.any,.any,.any,.any,.any,.any,.any,.any,.any,.any,.any,.any,.any,.any,.any,.any,.any,.any,.any,.any,.any,.any,.any,.any],[[.past W ms],[],jvS v ⟨xa,xm,xc,xb,xp,xq⟩,lsC B c]⟩,
   fun x=>match x with|(j,B,c)=>j≤v.l.length∧B=(b++[91#8])++putL (put d') (v.l.take j)∧B.length≤c,fun x=>v.l.length-x.1,⟨(0,(b++[91#8]),c1),[0,1,2,4],⟨⟨rfl,rfl,rfl⟩,?_⟩,Nat.zero_le _,by rw [List.take_zero]; exact (List.append_nil _).symm,by rw [List.length_append]; exact hc1⟩,fun x hx=>?_⟩
  ·(repeat first|exact trivial|refine ent1 ?_)
   refine And.intro (show b.length+1=(b++[91#8]).length by rw [List.length_append]; rfl) ?_
   (repeat first|exact trivial|refine ent1 ?_)
   refine ⟨fun j hj=>eqC_bytes (fun i hi=>?_) j,by (repeat first|exact trivial|refine ent1 ?_)⟩
   have hi':i<b.length+1:=by rw [List.length_append] at hi; exact hi
   refine app_row (l:=b) (n:=b.length) (k:=1) rfl ?_ (fun i hi=>bytesF_lt hi) (fun i hi=>?_) i hi'
   ·rfl
   ·exact rowl i (by exact hi) rfl
  obtain ⟨j,B,c2⟩:=x
  obtain ⟨i1,i2,i3⟩:=hx
  dsimp only
  have hBl:B.length=b.length+1+(putL (put d') (v.l.take j)).length:=by rw [i2]; simp only [List.length_append,List.length_cons,List.length_nil]; try omega
  have hjl:(putL (put d') (v.l.take j)).length≤(putL (put d') v.l).length:=putL_le _ _ _
  have hBm:B.length+1≤70368744177664:=by omega
  by_cases hj:j<v.l.length
  rotate_left
  ·have e1:decide ((j:Int)<(xm:Int))=false:=decide_eq_false (by omega)
   obtain rfl:j=v.l.length:=by omega
   have hfull:b++91#8::(putL (put d') v.l++[93#8])=B++[93#8]:=by rw [i2,List.take_length]; simp
   rw [hfull]
   (repeat show _∧_;first|refine yr ?_|refine yt ?_|refine yf ?_|refine ya e1 ?_|refine yb e1 ?_|refine yo ?_)
   refine And.intro ⟨i3,by simp only [scale]; omega,by show (B.length+1)*1≤140737488355328; omega⟩ ?_
   intro c3 hc3
   (repeat show _∧_;first|refine yr ?_|refine yt ?_|refine yf ?_|refine yo ?_)
   refine ⟨.a (.c (.sl 2 0 0 (B++[93#8]).length c3)),_,⟨[0,1,5],⟨rfl,rfl,rfl⟩,?_⟩,c3,by rw [List.length_append]; exact hc3,rfl,rfl⟩
   (repeat first|exact trivial|refine ent1 ?_)
   refine And.intro (show B.length+1=(B++[93#8]).length by rw [List.length_append]; rfl) ?_
   (repeat first|exact trivial|refine ent1 ?_)
   refine ⟨fun j hj=>eqC_bytes (fun i hi=>?_) j,by (repeat first|exact trivial|refine ent1 ?_)⟩
   have hi':i<B.length+1:=by rw [List.length_append] at hi; exact hi
   refine app_row (l:=B) (n:=B.length) (k:=1) rfl ?_ (fun i hi=>bytesF_lt hi) (fun i hi=>?_) i hi'
   ·rfl
   ·exact rowl i (by exact hi) rfl
  have e1:decide ((j:Int)<(xm:Int))=true:=decide_eq_true (by omega)
  obtain ⟨A,rfl⟩:∃ A,xa=some A:=by
   cases xa with
   | none=>exact absurd (g4 rfl) (by omega)
   | some A=>exact ⟨A,rfl⟩
  obtain ⟨y,y1,y2⟩:=(g5 A rfl (by omega)).2 j v.l[j] (List.getElem?_eq_getElem hj)
  (repeat show _∧_;first|refine yr ?_|refine yt ?_|refine yf ?_|refine ya e1 ?_|refine yb e1 ?_|refine yo ?_)
  refine ⟨jvS v.l[j] y,⟨.past (i:=0) rfl (by exact y1),rfl⟩,?_⟩
  have hle1:(putL (put d') (v.l.take (j+1))).length≤(putL (put d') v.l).length:=putL_le _ _ _
  have hbs:((b++[91#8]):Bs).length=b.length+1:=by simp only [List.length_append,List.length_cons,List.length_nil]
  by_cases h0:j=0
  ·have e2:decide ((0:Int)<(j:Int))=false:=decide_eq_false (by omega)
   (repeat show _∧_;first|refine yr ?_|refine yt ?_|refine yf ?_|refine ya e2 ?_|refine yb e2 ?_|refine yo ?_)
   have hst:(b++[91#8])++putL (put d') (v.l.take (j+1))=B++put d' v.l[j]:=by rw [putL_step (put d') v.l j hj,if_pos h0,show B=(b++[91#8]) from by rw [i2,h0,List.take_zero]; exact List.append_nil _]
   have hln:=congrArg List.length hst
   simp only [List.length_append,List.length_cons,List.length_nil] at hln hbs
   refine call_same (hrec d' rfl W ms v.l[j] y B c2 hT y2 (hv3 _ (List.getElem_mem hj)) i3 (by (try simp only [List.length_append,List.length_cons,List.length_nil]); omega)) [0,3] rfl ?_ ?_ (fun _ _=>trivial) ?_
   ·(repeat first|exact trivial|refine ent1 ?_)
   ·(repeat first|exact trivial|refine ent1 ?_)
   rintro y' hs ⟨c6,hc6,rfl,rfl⟩
   (repeat show _∧_;first|refine yr ?_|refine yt ?_|refine yf ?_|refine yo ?_)
   refine ⟨(j+1,B++put d' v.l[j],c6),[0,1,2,5],⟨⟨rfl,rfl,rfl⟩,?_⟩,⟨hj,hst.symm,hc6⟩,by dsimp only; omega⟩
   dsimp only
   (repeat first|exact trivial|refine ent1 ?_)
  have e2:decide ((0:Int)<(j:Int))=true:=decide_eq_true (by omega)
  (repeat show _∧_;first|refine yr ?_|refine yt ?_|refine yf ?_|refine ya e2 ?_|refine yb e2 ?_|refine yo ?_)
  refine And.intro ⟨i3,by simp only [scale]; omega,by show (B.length+1)*1≤140737488355328; omega⟩ ?_
  intro c3 hc3
  (repeat show _∧_;first|refine yr ?_|refine yt ?_|refine yf ?_|refine yo ?_)
  have hc3':(B++[44#8]).length≤c3:=by rw [List.length_append]; exact hc3
  have hst:(b++[91#8])++putL (put d') (v.l.take (j+1))=(B++[44#8])++put d' v.l[j]:=by rw [putL_step (put d') v.l j hj,if_neg h0,← i2]
  have hln:=congrArg List.length hst
  simp only [List.length_append,List.length_cons,List.length_nil] at hln hbs
  refine call_same (hrec d' rfl W ms v.l[j] y (B++[44#8]) c3 hT y2 (hv3 _ (List.getElem_mem hj)) hc3' (by (try simp only [List.length_append,List.length_cons,List.length_nil]); omega)) [0,6] rfl ?_ ?_ (fun _ _=>trivial) ?_
  ·(repeat first|exact trivial|refine ent1 ?_)
   exact And.intro (show B.length+1=_ by rw [List.length_append]; rfl) (by (repeat first|exact trivial|refine ent1 ?_))
  ·(repeat first|exact trivial|refine ent1 ?_)
   refine ⟨fun j' hj'=>eqC_bytes (fun i hi=>?_) j',by (repeat first|exact trivial|refine ent1 ?_)⟩
   have hi':i<(B).length+1:=by rw [List.length_append] at hi; exact hi
   refine app_row (l:=B) (n:=(B).length) (k:=1) rfl ?_ (fun i hi=>bytesF_lt hi) (fun i hi=>?_) i hi'
   ·rfl
   ·exact rowl i (by exact hi) rfl
  rintro y' hs ⟨c6,hc6,rfl,rfl⟩
  (repeat show _∧_;first|refine yr ?_|refine yt ?_|refine yf ?_|refine yo ?_)
  refine ⟨(j+1,(B++[44#8])++put d' v.l[j],c6),[0,1,2,7],⟨⟨rfl,rfl,rfl⟩,?_⟩,⟨hj,hst.symm,hc6⟩,by dsimp only; omega⟩
  dsimp only
  (repeat first|exact trivial|refine ent1 ?_)
 ·have f5:decide (v.k=5#8)=false:=decide_eq_false (by rw [k6]; decide)
  have hp:put (d'+1) v=123#8::(putO (put d') v.ns v.l++[125#8]):=by rw [hpv]; unfold put1; rw [if_neg k0,if_neg k1,if_neg k2,if_neg k3,if_neg k4,if_neg (by rw [k6]; decide)]
  rw [hp] at hl ⊢
  have hl2:b.length+(putO (put d') v.ns v.l).length+2≤70368744177664:=by simp only [List.length_cons,List.length_append,List.length_nil] at hl; omega
  (repeat show _∧_;first|refine yr ?_|refine yt ?_|refine yf ?_|refine ya f0 ?_|refine yb f0 ?_|refine ya f1 ?_|refine yb f1 ?_|refine ya f2 ?_|refine yb f2 ?_|refine ya f3 ?_|refine yb f3 ?_|refine ya f4 ?_|refine yb f4 ?_|refine ya f5 ?_|refine yb f5 ?_|refine yo ?_)
  refine And.intro ⟨hc,by simp only [scale]; omega,by show (b.length+1)*1≤140737488355328; omega⟩ ?_
  intro c1 hc1
  (repeat show _∧_;first|refine yr ?_|refine yt ?_|refine yf ?_|refine yo ?_)
  refine .inl ⟨Nat × Bs × Nat,fun x=>match x with|(j,B,c)=>⟨[.any,.a (.c (.sl 3 0 0 B.length c)),.a (.c (.p 2 0 0)),.any,.a (.c (.slc none 0 0)),.any,.any,.any,.any,.any,.a (.c (.w8 v.k)),.any,.any,.any,.any,.any,.any,.any,.any,.any,.any,.any,.any,.any,.any,.any,.any,.any,.any,.any,.any,.any,.any,.any,.any,.any,.any,.any,.any,.any,.any,.any,.any,.any,.any,.any,.any,.any,.any,.any,.any,.any,.any,.any,.any,.any,.any,.any,.any,.any,.any,.any,.any,.any,.a (.c (.slc xa xm xc)),.a (.c (.int .i64 (xm))),.a (.c (.int .i64 (((j:Nat):Int)))),.any,.any,.any,.any,.any,.any,.any,.any,.any,.any,.any,.any,.any,.any,.any,.any,.any,.any,.any,.any,.any,.any,.any,.any,.any],[[.past W ms],[],jvS v ⟨xa,xm,xc,xb,xp,xq⟩,lsC B c]⟩,
   fun x=>match x with|(j,B,c)=>j≤v.l.length∧B=(b++[123#8])++putO (put d') (v.ns.take j) (v.l.take j)∧B.length≤c,fun x=>v.l.length-x.1,⟨(0,(b++[123#8]),c1),[0,1,2,4],⟨⟨rfl,rfl,rfl⟩,?_⟩,Nat.zero_le _,by rw [List.take_zero,List.take_zero]; exact (List.append_nil _).symm,by rw [List.length_append]; exact hc1⟩,fun x hx=>?_⟩
  ·(repeat first|exact trivial|refine ent1 ?_)
   refine And.intro (show b.length+1=(b++[123#8]).length by rw [List.length_append]; rfl) ?_
   (repeat first|exact trivial|refine ent1 ?_)
   refine ⟨fun j hj=>eqC_bytes (fun i hi=>?_) j,by (repeat first|exact trivial|refine ent1 ?_)⟩
   have hi':i<b.length+1:=by rw [List.length_append] at hi; exact hi
   refine app_row (l:=b) (n:=b.length) (k:=1) rfl ?_ (fun i hi=>bytesF_lt hi) (fun i hi=>?_) i hi'
   ·rfl
   ·exact rowl i (by exact hi) rfl
  obtain ⟨j,B,c2⟩:=x
  obtain ⟨i1,i2,i3⟩:=hx
  dsimp only
  have hBl:B.length=b.length+1+(putO (put d') (v.ns.take j) (v.l.take j)).length:=by rw [i2]; simp only [List.length_append,List.length_cons,List.length_nil]; try omega
  have hjl:(putO (put d') (v.ns.take j) (v.l.take j)).length≤(putO (put d') v.ns v.l).length:=putO_le _ _ _ _ hnl
  have hBm:B.length+1≤70368744177664:=by omega
  by_cases hj:j<v.l.length
  rotate_left
  ·have e1:decide ((j:Int)<(xm:Int))=false:=decide_eq_false (by omega)
   obtain rfl:j=v.l.length:=by omega
   have hfull:b++123#8::(putO (put d') v.ns v.l++[125#8])=B++[125#8]:=by rw [i2,show v.ns.take v.l.length=v.ns by rw [← hnl,List.take_length],List.take_length]; simp
   rw [hfull]
   (repeat show _∧_;first|refine yr ?_|refine yt ?_|refine yf ?_|refine ya e1 ?_|refine yb e1 ?_|refine yo ?_)
   refine And.intro ⟨i3,by simp only [scale]; omega,by show (B.length+1)*1≤140737488355328; omega⟩ ?_
   intro c3 hc3
   (repeat show _∧_;first|refine yr ?_|refine yt ?_|refine yf ?_|refine yo ?_)
   refine ⟨.a (.c (.sl 2 0 0 (B++[125#8]).length c3)),_,⟨[0,1,5],⟨rfl,rfl,rfl⟩,?_⟩,c3,by rw [List.length_append]; exact hc3,rfl,rfl⟩
   (repeat first|exact trivial|refine ent1 ?_)
   refine And.intro (show B.length+1=(B++[125#8]).length by rw [List.length_append]; rfl) ?_
   (repeat first|exact trivial|refine ent1 ?_)
   refine ⟨fun j hj=>eqC_bytes (fun i hi=>?_) j,by (repeat first|exact trivial|refine ent1 ?_)⟩
   have hi':i<B.length+1:=by rw [List.length_append] at hi; exact hi
   refine app_row (l:=B) (n:=B.length) (k:=1) rfl ?_ (fun i hi=>bytesF_lt hi) (fun i hi=>?_) i hi'
   ·rfl
   ·exact rowl i (by exact hi) rfl
  have e1:decide ((j:Int)<(xm:Int))=true:=decide_eq_true (by omega)
  obtain ⟨A,rfl⟩:∃ A,xa=some A:=by
   cases xa with
   | none=>exact absurd (g4 rfl) (by omega)
   | some A=>exact ⟨A,rfl⟩
  obtain ⟨y,y1,y2⟩:=(g5 A rfl (by omega)).2 j v.l[j] (List.getElem?_eq_getElem hj)
  obtain ⟨Bn,rfl⟩:∃ Bn,xb=some Bn:=by
   cases xb with
   | none=>exact absurd (show v.ns.length=0 by have h1:=hns.len; simp only [List.length_map] at h1; have h2:=hns.le; have h3:=hns.nil rfl; omega) (by omega)
   | some Bn=>exact ⟨Bn,rfl⟩
  have hjn:j<v.ns.length:=by omega
  have hjp:j<xp:=by have h1:=hns.len; simp only [List.length_map] at h1; omega
  (repeat show _∧_;first|refine yr ?_|refine yt ?_|refine yf ?_|refine ya e1 ?_|refine yb e1 ?_|refine yo ?_)
  refine ⟨jvS v.l[j] y,⟨.past (i:=0) rfl (by exact y1),rfl⟩,?_⟩
  have hle1:(putO (put d') (v.ns.take (j+1)) (v.l.take (j+1))).length≤(putO (put d') v.ns v.l).length:=putO_le _ _ _ _ hnl
  have hbs:((b++[123#8]):Bs).length=b.length+1:=by simp only [List.length_append,List.length_cons,List.length_nil]
  by_cases h0:j=0
  ·have e2:decide ((0:Int)<(j:Int))=false:=decide_eq_false (by omega)
   (repeat show _∧_;first|refine yr ?_|refine yt ?_|refine yf ?_|refine ya e2 ?_|refine yb e2 ?_|refine yo ?_)
   have hst:(b++[123#8])++putO (put d') (v.ns.take (j+1)) (v.l.take (j+1))=(B++quote v.ns[j]++[58#8])++put d' v.l[j]:=by rw [putO_step (put d') v.ns v.l j hj hnl,if_pos h0,show B=(b++[123#8]) from by rw [i2,h0,List.take_zero,List.take_zero]; exact List.append_nil _]
   have hln:=congrArg List.length hst
   simp only [List.length_append,List.length_cons,List.length_nil] at hln hbs
   refine And.intro (show (0:Int)≤(j:Int)∧(j:Int)<(xp:Int) by omega) ?_
   have him:=(hns.im Bn rfl (by have:=hns.le; omega)).one (show ((v.ns.map U8).map SC.str)[j]?=some (.str (U8 v.ns[j])) by simp [hjn])
   refine ⟨[.one (.str (U8 v.ns[j]))],⟨.past (i:=0) rfl (by show ImAt W ms (Bn.add (j*1)) _; rw [Nat.mul_one]; exact him),rfl⟩,?_⟩
   (repeat show _∧_;first|refine yr ?_|refine yt ?_|refine yf ?_|refine yo ?_)
   refine call_same (fn_quote B c2 i3 (hnu _ (List.getElem_mem hjn)) (by (try simp only [List.length_append,List.length_cons,List.length_nil]); omega)) [3] rfl (by exact And.intro rfl (And.intro rfl (And.intro rfl (And.intro rfl trivial)))) ?_ (fun _ _=>trivial) ?_
   ·(repeat first|exact trivial|refine ent1 ?_)
   rintro y' hs ⟨c4,hc4,rfl,rfl⟩
   (repeat show _∧_;first|refine yr ?_|refine yt ?_|refine yf ?_|refine yo ?_)
   refine And.intro ⟨hc4,by simp only [scale]; omega,by show ((B++quote v.ns[j]).length+1)*1≤140737488355328; simp only [List.length_append,List.length_cons,List.length_nil]; omega⟩ ?_
   intro c5 hc5
   (repeat show _∧_;first|refine yr ?_|refine yt ?_|refine yf ?_|refine yo ?_)
   have hc5':((B++quote v.ns[j])++[58#8]).length≤c5:=by rw [List.length_append]; exact hc5
   refine call_same (hrec d' rfl W ms v.l[j] y ((B++quote v.ns[j])++[58#8]) c5 hT y2 (hv3 _ (List.getElem_mem hj)) hc5' (by (try simp only [List.length_append,List.length_cons,List.length_nil]); omega)) [0,7] rfl ?_ ?_ (fun _ _=>trivial) ?_
   ·(repeat first|exact trivial|refine ent1 ?_)
    exact And.intro (show (B++quote v.ns[j]).length+1=_ by simp only [List.length_append,List.length_cons,List.length_nil]) (by (repeat first|exact trivial|refine ent1 ?_))
   ·(repeat first|exact trivial|refine ent1 ?_)
    refine ⟨fun j' hj'=>eqC_bytes (fun i hi=>?_) j',by (repeat first|exact trivial|refine ent1 ?_)⟩
    have hi':i<((B++quote v.ns[j])).length+1:=by rw [List.length_append] at hi; exact hi
    refine app_row (l:=(B++quote v.ns[j])) (n:=((B++quote v.ns[j])).length) (k:=1) rfl ?_ (fun i hi=>bytesM_lt hi) (fun i hi=>?_) i hi'
    ·rfl
    ·exact rowl i (by exact hi) rfl
   rintro y' hs ⟨c6,hc6,rfl,rfl⟩
   (repeat show _∧_;first|refine yr ?_|refine yt ?_|refine yf ?_|refine yo ?_)
   refine ⟨(j+1,((B++quote v.ns[j])++[58#8])++put d' v.l[j],c6),[0,1,2,8],⟨⟨rfl,rfl,rfl⟩,?_⟩,⟨hj,hst.symm,hc6⟩,by dsimp only; omega⟩
   dsimp only
   (repeat first|exact trivial|refine ent1 ?_)
  have e2:decide ((0:Int)<(j:Int))=true:=decide_eq_true (by omega)
  (repeat show _∧_;first|refine yr ?_|refine yt ?_|refine yf ?_|refine ya e2 ?_|refine yb e2 ?_|refine yo ?_)
  refine And.intro ⟨i3,by simp only [scale]; omega,by show (B.length+1)*1≤140737488355328; omega⟩ ?_
  intro c3 hc3
  (repeat show _∧_;first|refine yr ?_|refine yt ?_|refine yf ?_|refine yo ?_)
  have hc3':(B++[44#8]).length≤c3:=by rw [List.length_append]; exact hc3
  have hst:(b++[123#8])++putO (put d') (v.ns.take (j+1)) (v.l.take (j+1))=((B++[44#8])++quote v.ns[j]++[58#8])++put d' v.l[j]:=by rw [putO_step (put d') v.ns v.l j hj hnl,if_neg h0,← i2]
  have hln:=congrArg List.length hst
  simp only [List.length_append,List.length_cons,List.length_nil] at hln hbs
  refine And.intro (show (0:Int)≤(j:Int)∧(j:Int)<(xp:Int) by omega) ?_
  have him:=(hns.im Bn rfl (by have:=hns.le; omega)).one (show ((v.ns.map U8).map SC.str)[j]?=some (.str (U8 v.ns[j])) by simp [hjn])
  refine ⟨[.one (.str (U8 v.ns[j]))],⟨.past (i:=0) rfl (by show ImAt W ms (Bn.add (j*1)) _; rw [Nat.mul_one]; exact him),rfl⟩,?_⟩
  (repeat show _∧_;first|refine yr ?_|refine yt ?_|refine yf ?_|refine yo ?_)
  refine call_same (fn_quote (B++[44#8]) c3 hc3' (hnu _ (List.getElem_mem hjn)) (by (try simp only [List.length_append,List.length_cons,List.length_nil]); omega)) [6] rfl (by exact And.intro rfl (And.intro (show B.length+1=_ by rw [List.length_append]; rfl) (And.intro rfl (And.intro rfl trivial)))) ?_ (fun _ _=>trivial) ?_
  ·(repeat first|exact trivial|refine ent1 ?_)
   refine ⟨fun j' hj'=>eqC_bytes (fun i hi=>?_) j',by (repeat first|exact trivial|refine ent1 ?_)⟩
   have hi':i<(B).length+1:=by rw [List.length_append] at hi; exact hi
   refine app_row (l:=B) (n:=(B).length) (k:=1) rfl ?_ (fun i hi=>bytesF_lt hi) (fun i hi=>?_) i hi'
   ·rfl
   ·exact rowl i (by exact hi) rfl
  rintro y' hs ⟨c4,hc4,rfl,rfl⟩
  (repeat show _∧_;first|refine yr ?_|refine yt ?_|refine yf ?_|refine yo ?_)
  refine And.intro ⟨hc4,by simp only [scale]; omega,by show (((B++[44#8])++quote v.ns[j]).length+1)*1≤140737488355328; simp only [List.length_append,List.length_cons,List.length_nil]; omega⟩ ?_
  intro c5 hc5
  (repeat show _∧_;first|refine yr ?_|refine yt ?_|refine yf ?_|refine yo ?_)
  have hc5':(((B++[44#8])++quote v.ns[j])++[58#8]).length≤c5:=by rw [List.length_append]; exact hc5
  refine call_same (hrec d' rfl W ms v.l[j] y (((B++[44#8])++quote v.ns[j])++[58#8]) c5 hT y2 (hv3 _ (List.getElem_mem hj)) hc5' (by (try simp only [List.length_append,List.length_cons,List.length_nil]); omega)) [0,9] rfl ?_ ?_ (fun _ _=>trivial) ?_
  ·(repeat first|exact trivial|refine ent1 ?_)
   exact And.intro (show ((B++[44#8])++quote v.ns[j]).length+1=_ by simp only [List.length_append,List.length_cons,List.length_nil]) (by (repeat first|exact trivial|refine ent1 ?_))
  ·(repeat first|exact trivial|refine ent1 ?_)
   refine ⟨fun j' hj'=>eqC_bytes (fun i hi=>?_) j',by (repeat first|exact trivial|refine ent1 ?_)⟩
   have hi':i<(((B++[44#8])++quote v.ns[j])).length+1:=by rw [List.length_append] at hi; exact hi
   refine app_row (l:=((B++[44#8])++quote v.ns[j])) (n:=(((B++[44#8])++quote v.ns[j])).length) (k:=1) rfl ?_ (fun i hi=>bytesM_lt hi) (fun i hi=>?_) i hi'
   ·rfl
   ·exact rowl i (by exact hi) rfl
  rintro y' hs ⟨c6,hc6,rfl,rfl⟩
  (repeat show _∧_;first|refine yr ?_|refine yt ?_|refine yf ?_|refine yo ?_)
  refine ⟨(j+1,(((B++[44#8])++quote v.ns[j])++[58#8])++put d' v.l[j],c6),[0,1,2,10],⟨⟨rfl,rfl,rfl⟩,?_⟩,⟨hj,hst.symm,hc6⟩,by dsimp only; omega⟩
  dsimp only
  (repeat first|exact trivial|refine ent1 ?_)
end Sx
end
section
namespace Js
open Sha
theorem isDig_iff (c:BitVec 8):isDig c=(decide (48#8≤c) && decide (c≤57#8)):=by
 revert c; decide +kernel
theorem dig_toNat:∀ c:BitVec 8,isDig c=true→(c-48#8).toNat=c.toNat-48∧c.toNat-48≤9:=by decide +kernel
theorem pnum_stop {n:Nat} {s:Bs} {j:Nat} (h:isDig (L s j)=false):pnum n (s.drop j)=some (n,s.drop j):=by
 rcases Nat.lt_or_ge j s.length with hj|hj
 ·rw [drop_cons s j hj,pnum,if_neg (by rw [h]; decide)]
 ·rw [List.drop_eq_nil_of_le hj]; rfl
theorem dig_lt {s:Bs} {j:Nat} (h:isDig (L s j)=true):j<s.length:=by
 apply Classical.byContradiction
 intro hc
 rw [L_ge (by omega)] at h
 revert h; decide
theorem pnum_step {n:Nat} {s:Bs} {j:Nat} (h:isDig (L s j)=true):pnum n (s.drop j)=if 18446744073709551616≤n*10+((L s j).toNat-48) then none else pnum (n*10+((L s j).toNat-48)) (s.drop (j+1)):=by
 rw [drop_cons s j (dig_lt h),pnum,if_pos h]
theorem w64_mul10 {n d:Nat} (h:n*10+d<18446744073709551616):BitVec.ofNat 64 n*10#64+BitVec.ofNat 64 d=BitVec.ofNat 64 (n*10+d):=by
 apply BitVec.eq_of_toNat_eq
 simp only [BitVec.toNat_add,BitVec.toNat_mul,BitVec.toNat_ofNat]
 omega
theorem big_dec {n d:Nat} (hn:n<18446744073709551616) (hd:d≤9):decide ((18446744073709551615#64-BitVec.ofNat 64 d) / 10#64<BitVec.ofNat 64 n)=decide (18446744073709551616≤n*10+d):=by
 refine decide_eq_decide.2 ?_
 rw [BitVec.lt_def,BitVec.toNat_udiv,BitVec.toNat_sub_of_le (by rw [BitVec.le_def]; simp only [BitVec.toNat_ofNat]; omega)]
 simp only [BitVec.toNat_ofNat]
 rw [show (18446744073709551615:Nat) % 2 ^ 64=18446744073709551615 by decide,show (10:Nat) % 2 ^ 64=10 by decide,Nat.mod_eq_of_lt (show d<2 ^ 64 by omega),Nat.mod_eq_of_lt (show n<2 ^ 64 by omega)]
 omega
theorem set_dig {c:BitVec 8} (h:isDig c=true):(c-48#8).setWidth 64=BitVec.ofNat 64 (c.toNat-48):=by
 apply BitVec.eq_of_toNat_eq
 have:=dig_toNat c h
 rw [BitVec.toNat_setWidth,this.1,BitVec.toNat_ofNat]
end Js
namespace Sx
open Go.RowKit Sha Vi Js

def NumA (s:Bs) (k:Nat) (r:R Nat) (y:SV) (hs:List (List Seg)):Prop :=
 (∃ n k',r=.ok n (s.drop k')∧k≤k'∧k'≤s.length∧y=.tup [.c (.w64 (BitVec.ofNat 64 n)),.c (.int .i64 0)]∧hs=[psr s k']) ∨
 (∃ e v k',r=.bad e∧e≠0∧k≤k'∧k'≤s.length∧y=.tup [.c (.w64 v),.c (.int .i64 e)]∧hs=[psr s k'])
set_option maxRecDepth 20000 in
set_option maxHeartbeats 8000000 in
theorem fn_number' (s:Bs) (k:Nat) (hk:isDig (L s k)=true) (hs:s.length≤1048576):Fn Tryd.prog tds 55 [psr s k] [.c (.p 0 0 0)] (fun _=>True) (NumA s k (number (s.drop k))):=by
 have hkl:=dig_lt hk
 refine fn_of_body tds_ok follows_ Tryd.func55 rfl (t:=.a (.c (.p 0 0 0))::anys (Tryd.f55.ntmps-1)) rfl (fun w r0 hr0 _=>?_)
 obtain ⟨x0,rfl⟩:=len1' hr0
 (repeat show _∧_;first|refine yr ?_|refine yt ?_|refine yf ?_|refine yo ?_)
 refine call_same (fn_peek s k) [0] rfl (by (repeat first|exact trivial|refine ent1 ?_)) (by (repeat first|exact trivial|refine ent1 ?_)) (fun _ _=>trivial) ?_
 rintro x hs' ⟨rfl,rfl⟩
 refine .inl ⟨Nat × Nat,fun (j,n)=>⟨[.a (.c (.p 0 0 0)),.any,.a (.c (.w64 (0#64))),.a (.c (.int .i64 (0))),.a (.c (.int .i64 ((k:Int)))),.a (.c (.w64 ((BitVec.ofNat 64 n)))),.a (.c (.w8 ((L s j)))),.any,.any,.any,.any,.any,.any,.any,.any,.any,.any,.any,.any,.any,.any,.any,.any,.any,.any,.any,.any,.any,.any,.any,.any,.any,.any,.any,.any,.any,.any,.any,.any,.any,.any,.any,.any,.any,.any,.any,.any,.any,.any,.any,.any,.any,.any,.any,.any,.any,.any,.any],[psr s j]⟩,fun (j,n)=>k≤j∧j≤s.length∧n<18446744073709551616∧pnum 0 (s.drop k)=pnum n (s.drop j),fun (j,_)=>s.length-j,⟨(k,0),[0],⟨⟨rfl,rfl,rfl⟩,by (repeat first|exact trivial|refine ent1 ?_)⟩,Nat.le_refl _,by omega,by decide,rfl⟩,fun (j,n) hj=>?_⟩
 obtain ⟨g1,g2,g3,g4⟩:=hj
 have hD:=isDig_iff (L s j)
 dsimp only
 by_cases hd:isDig (L s j)=true
 ·have hjl:=dig_lt hd
  rw [hd] at hD
  have hD:=hD.symm
  rw [Bool.and_eq_true] at hD
  obtain ⟨e1,e2⟩:=hD
  have hst:=pnum_step (n:=n) hd
  obtain ⟨d1,d2⟩:=dig_toNat _ hd
  obtain ⟨d,hdd⟩:∃ d,(L s j).toNat-48=d:=⟨_,rfl⟩
  have hsw:=set_dig hd
  rw [hdd] at hst d2 hsw
  have hbig:=big_dec (d:=d) g3 d2
  rw [← hsw] at hbig
  by_cases hb:18446744073709551616≤n*10+d
  ·rw [decide_eq_true hb] at hbig
   rw [if_pos hb] at hst
   (repeat show _∧_;first|refine yr ?_|refine yt ?_|refine yf ?_|refine ya e1 ?_|refine yb e1 ?_|refine ya e2 ?_|refine yb e2 ?_|refine ya hbig ?_|refine yb hbig ?_|refine yo ?_)
   refine ⟨.tup [.c (.w64 0#64),.c (.int .i64 2)],_,⟨[0],⟨rfl,rfl,rfl⟩,by (repeat first|exact trivial|refine ent1 ?_)⟩,.inr ⟨2,0#64,j,?_,by decide,g1,g2,rfl,rfl⟩⟩
   unfold number
   rw [g4,hst]
  ·rw [decide_eq_false hb] at hbig
   rw [if_neg hb] at hst
   (repeat show _∧_;first|refine yr ?_|refine yt ?_|refine yf ?_|refine ya e1 ?_|refine yb e1 ?_|refine ya e2 ?_|refine yb e2 ?_|refine ya hbig ?_|refine yb hbig ?_|refine yo ?_)
   refine call_same (fn_peek s (j+1)) [0] rfl (by (repeat first|exact trivial|refine ent1 ?_)) (by (repeat first|exact trivial|refine ent1 ?_)) (fun _ _=>trivial) ?_
   rintro x hs' ⟨rfl,rfl⟩
   refine ⟨(j+1,n*10+d),[0],⟨⟨rfl,rfl,rfl⟩,?_⟩,⟨by omega,by omega,by omega,g4.trans hst⟩,by dsimp only; omega⟩
   (repeat first|exact trivial|refine ent1 ?_)
   refine And.intro (by rw [hsw]; exact w64_mul10 (by omega)) ?_
   (repeat first|exact trivial|refine ent1 ?_)
 ·rw [Bool.not_eq_true] at hd
  rw [hd] at hD
  have hD:=hD.symm
  have hst:=pnum_stop (n:=n) hd
  have hN:number (s.drop k)=if 1<(s.drop k).length-(s.drop j).length∧(s.drop k).head?=some 48#8 then .bad 4 else .ok n (s.drop j):=by
   unfold number
   rw [g4,hst]
  have hlen:(s.drop k).length-(s.drop j).length=j-k:=by rw [List.length_drop,List.length_drop]; omega
  have hhead:(s.drop k).head?=some (L s k):=by rw [drop_cons s k hkl]; rfl
  rw [hlen,hhead] at hN
  rcases e1:decide (48#8≤L s j) with _|_
  ·by_cases c1:(k:Int)+1<(j:Int)
   ·have f1:decide ((k:Int)+1<(j:Int))=true:=decide_eq_true c1
    by_cases c2:L s k=48#8
    ·have f2:decide (L s k=48#8)=true:=decide_eq_true c2
     rw [if_pos ⟨by omega,congrArg some c2⟩] at hN
     (repeat show _∧_;first|refine yr ?_|refine yt ?_|refine yf ?_|refine ya e1 ?_|refine yb e1 ?_|refine ya f1 ?_|refine yb f1 ?_|refine yo ?_)
     refine And.intro ⟨by omega,by rw [U8_len]; omega⟩ ?_
     rw [show ((U8 s).getD ((k:Int)).toNat 0).toBitVec=L s k from U8_get s k hkl]
     (repeat show _∧_;first|refine yr ?_|refine yt ?_|refine yf ?_|refine ya f1 ?_|refine yb f1 ?_|refine ya f2 ?_|refine yb f2 ?_|refine yo ?_)
     exact ⟨.tup [.c (.w64 0#64),.c (.int .i64 4)],_,⟨[0],⟨rfl,rfl,rfl⟩,by (repeat first|exact trivial|refine ent1 ?_)⟩,.inr ⟨4,0#64,j,hN,by decide,g1,g2,rfl,rfl⟩⟩
    ·have f2:decide (L s k=48#8)=false:=decide_eq_false c2
     rw [if_neg (fun h=>c2 (Option.some.inj h.2))] at hN
     (repeat show _∧_;first|refine yr ?_|refine yt ?_|refine yf ?_|refine ya e1 ?_|refine yb e1 ?_|refine ya f1 ?_|refine yb f1 ?_|refine yo ?_)
     refine And.intro ⟨by omega,by rw [U8_len]; omega⟩ ?_
     rw [show ((U8 s).getD ((k:Int)).toNat 0).toBitVec=L s k from U8_get s k hkl]
     (repeat show _∧_;first|refine yr ?_|refine yt ?_|refine yf ?_|refine ya f1 ?_|refine yb f1 ?_|refine ya f2 ?_|refine yb f2 ?_|refine yo ?_)
     exact ⟨.tup [.c (.w64 (BitVec.ofNat 64 n)),.c (.int .i64 0)],_,⟨[0],⟨rfl,rfl,rfl⟩,by (repeat first|exact trivial|refine ent1 ?_)⟩,.inl ⟨n,j,hN,g1,g2,rfl,rfl⟩⟩
   ·have f1:decide ((k:Int)+1<(j:Int))=false:=decide_eq_false c1
    rw [if_neg (fun h=>c1 (by omega))] at hN
    (repeat show _∧_;first|refine yr ?_|refine yt ?_|refine yf ?_|refine ya e1 ?_|refine yb e1 ?_|refine ya f1 ?_|refine yb f1 ?_|refine yo ?_)
    exact ⟨.tup [.c (.w64 (BitVec.ofNat 64 n)),.c (.int .i64 0)],_,⟨[0],⟨rfl,rfl,rfl⟩,by (repeat first|exact trivial|refine ent1 ?_)⟩,.inl ⟨n,j,hN,g1,g2,rfl,rfl⟩⟩
  ·rw [e1] at hD
   have e2:decide (L s j≤57#8)=false:=hD
   by_cases c1:(k:Int)+1<(j:Int)
   ·have f1:decide ((k:Int)+1<(j:Int))=true:=decide_eq_true c1
    by_cases c2:L s k=48#8
    ·have f2:decide (L s k=48#8)=true:=decide_eq_true c2
     rw [if_pos ⟨by omega,congrArg some c2⟩] at hN
     (repeat show _∧_;first|refine yr ?_|refine yt ?_|refine yf ?_|refine ya e1 ?_|refine yb e1 ?_|refine ya e2 ?_|refine yb e2 ?_|refine ya f1 ?_|refine yb f1 ?_|refine yo ?_)
     refine And.intro ⟨by omega,by rw [U8_len]; omega⟩ ?_
     rw [show ((U8 s).getD ((k:Int)).toNat 0).toBitVec=L s k from U8_get s k hkl]
     (repeat show _∧_;first|refine yr ?_|refine yt ?_|refine yf ?_|refine ya f1 ?_|refine yb f1 ?_|refine ya f2 ?_|refine yb f2 ?_|refine yo ?_)
     exact ⟨.tup [.c (.w64 0#64),.c (.int .i64 4)],_,⟨[0],⟨rfl,rfl,rfl⟩,by (repeat first|exact trivial|refine ent1 ?_)⟩,.inr ⟨4,0#64,j,hN,by decide,g1,g2,rfl,rfl⟩⟩
    ·have f2:decide (L s k=48#8)=false:=decide_eq_false c2
     rw [if_neg (fun h=>c2 (Option.some.inj h.2))] at hN
     (repeat show _∧_;first|refine yr ?_|refine yt ?_|refine yf ?_|refine ya e1 ?_|refine yb e1 ?_|refine ya e2 ?_|refine yb e2 ?_|refine ya f1 ?_|refine yb f1 ?_|refine yo ?_)
     refine And.intro ⟨by omega,by rw [U8_len]; omega⟩ ?_
     rw [show ((U8 s).getD ((k:Int)).toNat 0).toBitVec=L s k from U8_get s k hkl]
     (repeat show _∧_;first|refine yr ?_|refine yt ?_|refine yf ?_|refine ya f1 ?_|refine yb f1 ?_|refine ya f2 ?_|refine yb f2 ?_|refine yo ?_)
     exact ⟨.tup [.c (.w64 (BitVec.ofNat 64 n)),.c (.int .i64 0)],_,⟨[0],⟨rfl,rfl,rfl⟩,by (repeat first|exact trivial|refine ent1 ?_)⟩,.inl ⟨n,j,hN,g1,g2,rfl,rfl⟩⟩
   ·have f1:decide ((k:Int)+1<(j:Int))=false:=decide_eq_false c1
    rw [if_neg (fun h=>c1 (by omega))] at hN
    (repeat show _∧_;first|refine yr ?_|refine yt ?_|refine yf ?_|refine ya e1 ?_|refine yb e1 ?_|refine ya e2 ?_|refine yb e2 ?_|refine ya f1 ?_|refine yb f1 ?_|refine yo ?_)
    exact ⟨.tup [.c (.w64 (BitVec.ofNat 64 n)),.c (.int .i64 0)],_,⟨[0],⟨rfl,rfl,rfl⟩,by (repeat first|exact trivial|refine ent1 ?_)⟩,.inl ⟨n,j,hN,g1,g2,rfl,rfl⟩⟩
end Sx
end
section
namespace Sx
open Go.RowKit Sha Vi Js

theorem U8_dj (a b:Bs):decide (U8 a=U8 b)=decide (a=b):=decide_eq_decide.2 ⟨U8_inj,congrArg U8⟩
theorem hasS_U8 (t:Bs):∀ ns:List Bs,hasS (U8 t) (ns.map U8)=decide (t∈ns)
 | []=>rfl
 | n::ns=>by
  rw [List.map_cons,hasS,hasS_U8 t ns,U8_dj]
  by_cases h:t=n
  ·subst h; simp
  ·rw [decide_eq_false h]; simp [h]
def hadC (ns:List Bs):List Seg:=[.obj (.strs (ns.map U8))]
def NameA (W:World) (ms:List Nat) (s:Bs) (k:Nat) (ns:List Bs) (r:R Bs) (y:SV) (hs:List (List Seg)):Prop :=
 (∃ t k',r=.ok t (s.drop k')∧k≤k'∧k'≤s.length∧y=.tup [.c (.str (U8 t)),.c (.int .i64 0)]∧hs=[[.past W ms],psr s k',hadC (ns++[t])]) ∨
 (∃ e k' l,r=.bad e∧e≠0∧k≤k'∧k'≤s.length∧y=.tup [.c (.str []),.c (.int .i64 e)]∧hs=[[.past W ms],psr s k',hadC l])
theorem drop_L {s:Bs} {k:Nat}:(k<s.length∧s.drop k=L s k::s.drop (k+1))∨(s.length≤k∧s.drop k=[]∧L s k=0#8):=by
 rcases Nat.lt_or_ge k s.length with h|h
 ·exact .inl ⟨h,drop_cons s k h⟩
 ·exact .inr ⟨h,List.drop_eq_nil_of_le h,L_ge h⟩
set_option maxRecDepth 20000 in
set_option maxHeartbeats 8000000 in
theorem fn_name {W:World} {ms:List Nat} (hT:Tabs W ms) (s:Bs) (k:Nat) (ns:List Bs) (hk:k≤s.length) (hs:s.length≤1048576):FnR Tryd.prog tds 72 1 [[.past W ms],psr s k,hadC ns] [.c (.p 1 0 0),.c (.mh 2)] (fun _=>True) (NameA W ms s k ns (pname (s.drop k) ns)):=by
 refine fn_of_body tds_ok follows_ Tryd.func72 rfl (t:=.a (.c (.p 1 0 0))::.a (.c (.mh 2))::anys (Tryd.f72.ntmps-2)) rfl (fun w r0 hr0 _=>?_)
 obtain ⟨x0,x1,x2,rfl⟩:=len3' hr0
 (repeat show _∧_;first|refine yr ?_|refine yt ?_|refine yf ?_|refine yo ?_)
 refine call_same (fn_blanks s k hk hs) [1] rfl (by (repeat first|exact trivial|refine ent1 ?_)) (by (repeat first|exact trivial|refine ent1 ?_)) (fun _ _=>trivial) ?_
 rintro x hs' ⟨k1,g1,g2,g3,rfl,rfl⟩
 (repeat show _∧_;first|refine yr ?_|refine yt ?_|refine yf ?_|refine yo ?_)
 refine call_same (fn_peek s k1) [1] rfl (by (repeat first|exact trivial|refine ent1 ?_)) (by (repeat first|exact trivial|refine ent1 ?_)) (fun _ _=>trivial) ?_
 rintro x hs' ⟨rfl,rfl⟩
 by_cases c1:L s k1=34#8
 rotate_left
 ·have e1:decide (L s k1≠34#8)=true:=decide_eq_true c1
  (repeat show _∧_;first|refine yr ?_|refine yt ?_|refine yf ?_|refine ya e1 ?_|refine yb e1 ?_|refine yo ?_)
  refine ⟨.tup [.c (.str []),.c (.int .i64 4)],_,⟨[0,1,2],⟨rfl,rfl,rfl⟩,by (repeat first|exact trivial|refine ent1 ?_)⟩,.inr ⟨4,k1,ns,?_,by decide,g1,g2,rfl,rfl⟩⟩
  unfold pname
  rw [← g3]
  rcases drop_L (s:=s) (k:=k1) with ⟨_,h⟩|⟨_,h,_⟩
  ·rw [h]; dsimp only; rw [if_neg c1]
  ·rw [h]
 have e1:decide (L s k1≠34#8)=false:=decide_eq_false (not_not_intro c1)
 have hk1:k1<s.length:=by
  rcases drop_L (s:=s) (k:=k1) with ⟨h,_⟩|⟨_,_,h⟩
  ·exact h
  ·rw [h] at c1; exact absurd c1 (by decide)
 have hP:pname (s.drop k) ns=match text (s.drop (k1+1)) with
   | .bad e=>.bad e
   | .ok t r=>if t∈ns then .bad 18 else match blanks r with
    | []=>.bad 4
    | c::r=>if c=58#8 then .ok t r else .bad 4:=by
  unfold pname
  rw [← g3,drop_cons s k1 hk1]
  dsimp only
  rw [if_pos c1]
  cases text (s.drop (k1+1)) with
  | bad e=>rfl
  | ok t r =>
   dsimp only
   cases blanks r <;> rfl
 (repeat show _∧_;first|refine yr ?_|refine yt ?_|refine yf ?_|refine ya e1 ?_|refine yb e1 ?_|refine yo ?_)
 refine call_same (fn_text hT s k1 hk1 hs) [0,1] rfl (by (repeat first|exact trivial|refine ent1 ?_)) (by (repeat first|exact trivial|refine ent1 ?_)) (fun _ _=>trivial) ?_
 rintro x hs' (⟨t,k2,q1,q2,q3,rfl,rfl⟩|⟨e,k2,q1,q0,q2,q3,rfl,rfl⟩)
 rotate_left
 ·have f1:decide (e≠0)=true:=decide_eq_true q0
  (repeat show _∧_;first|refine yr ?_|refine yt ?_|refine yf ?_|refine ya f1 ?_|refine yb f1 ?_|refine yo ?_)
  exact ⟨.tup [.c (.str []),.c (.int .i64 e)],_,⟨[0,1,2],⟨rfl,rfl,rfl⟩,by (repeat first|exact trivial|refine ent1 ?_)⟩,.inr ⟨e,k2,ns,by rw [hP,q1],q0,by omega,q3,rfl,rfl⟩⟩
 rw [q1] at hP
 dsimp only at hP
 (repeat show _∧_;first|refine yr ?_|refine yt ?_|refine yf ?_|refine yo ?_)
 have hh:=hasS_U8 t ns
 by_cases c2:t∈ns
 ·rw [decide_eq_true c2] at hh
  rw [if_pos c2] at hP
  (repeat show _∧_;first|refine yr ?_|refine yt ?_|refine yf ?_|refine ya hh ?_|refine yb hh ?_|refine yo ?_)
  exact ⟨.tup [.c (.str []),.c (.int .i64 18)],_,⟨[0,1,2],⟨rfl,rfl,rfl⟩,by (repeat first|exact trivial|refine ent1 ?_)⟩,.inr ⟨18,k2,ns,hP,by decide,by omega,q3,rfl,rfl⟩⟩
 rw [decide_eq_false c2] at hh
 rw [if_neg c2] at hP
 have hput:putL' (U8 t) (ns.map U8)=(ns++[t]).map U8:=by
  unfold putL'; rw [hh]; simp
 (repeat show _∧_;first|refine yr ?_|refine yt ?_|refine yf ?_|refine ya hh ?_|refine yb hh ?_|refine yo ?_)
 rw [hput]
 (repeat show _∧_;first|refine yr ?_|refine yt ?_|refine yf ?_|refine yo ?_)
 refine call_same (fn_blanks s k2 q3 hs) [1] rfl (by (repeat first|exact trivial|refine ent1 ?_)) (by (repeat first|exact trivial|refine ent1 ?_)) (fun _ _=>trivial) ?_
 rintro x hs' ⟨k3,r1,r2,r3,rfl,rfl⟩
 (repeat show _∧_;first|refine yr ?_|refine yt ?_|refine yf ?_|refine yo ?_)
 refine call_same (fn_peek s k3) [1] rfl (by (repeat first|exact trivial|refine ent1 ?_)) (by (repeat first|exact trivial|refine ent1 ?_)) (fun _ _=>trivial) ?_
 rintro x hs' ⟨rfl,rfl⟩
 rw [← r3] at hP
 by_cases c3:L s k3=58#8
 ·have f3:decide (L s k3≠58#8)=false:=decide_eq_false (not_not_intro c3)
  have hk3:k3<s.length:=by
   rcases drop_L (s:=s) (k:=k3) with ⟨h,_⟩|⟨_,_,h⟩
   ·exact h
   ·rw [h] at c3; exact absurd c3 (by decide)
  rw [drop_cons s k3 hk3] at hP
  dsimp only at hP
  rw [if_pos c3] at hP
  (repeat show _∧_;first|refine yr ?_|refine yt ?_|refine yf ?_|refine ya f3 ?_|refine yb f3 ?_|refine yo ?_)
  exact ⟨.tup [.c (.str (U8 t)),.c (.int .i64 0)],_,⟨[0,1,2],⟨rfl,rfl,rfl⟩,by (repeat first|exact trivial|refine ent1 ?_)⟩,.inl ⟨t,k3+1,hP,by omega,by omega,rfl,rfl⟩⟩
 ·have f3:decide (L s k3≠58#8)=true:=decide_eq_true c3
  (repeat show _∧_;first|refine yr ?_|refine yt ?_|refine yf ?_|refine ya f3 ?_|refine yb f3 ?_|refine yo ?_)
  refine ⟨.tup [.c (.str []),.c (.int .i64 4)],_,⟨[0,1,2],⟨rfl,rfl,rfl⟩,by (repeat first|exact trivial|refine ent1 ?_)⟩,.inr ⟨4,k3,ns++[t],?_,by decide,by omega,r2,rfl,rfl⟩⟩
  rcases drop_L (s:=s) (k:=k3) with ⟨_,h⟩|⟨_,h,_⟩
  ·rw [h] at hP; dsimp only at hP; rw [if_neg c3] at hP; exact hP
  ·rw [h] at hP; exact hP
end Sx
end
section
namespace Sx
open Go.RowKit Sha Vi Js

def ValA (W:World) (ms:List Nat) (d:Nat) (s:Bs) (k:Nat) (r:R JT) (y:SV) (hs:List (List Seg)):Prop :=
 (∃ v x k' W' ms',r=.ok v (s.drop k')∧k≤k'∧k'≤s.length∧Later W ms W' ms'∧TAt W' ms' d v x∧y=.tup [.agg (jvS v x),.c (.int .i64 0)]∧hs=[[.past W' ms'],psr s k']) ∨
 (∃ e v x k' W' ms',r=.bad e∧e≠0∧k≤k'∧k'≤s.length∧Later W ms W' ms'∧y=.tup [.agg (jvS v x),.c (.int .i64 e)]∧hs=[[.past W' ms'],psr s k'])
def jt0:JT:=.mk 0#8 0#64 [] [] []
abbrev vl0:List Seg:=[.one (.w8 5#8),.one (.w64 0#64),.one (.str []),.one (.slc none 0 0),.one (.slc none 0 0)]
abbrev vl1 (i n c:Nat):List Seg:=[.one (.w8 5#8),.one (.w64 0#64),.one (.str []),.one (.sl i 0 0 n c),.one (.slc none 0 0)]
abbrev vz:List Seg:=[.one (.w8 0#8),.one (.w64 0#64),.one (.str []),.one (.slc none 0 0),.one (.slc none 0 0)]
theorem marks_off:marksOk=false:=rfl
theorem plist_bad {pv:Bs→R JT} {f:Nat} {l:Bs} {acc:List JT} {e:Int} (h:pv l=.bad e):plist pv (f+1) l acc=.bad e:=by
 rw [plist,h]
theorem plist_next {pv:Bs→R JT} {f:Nat} {l r r':Bs} {acc:List JT} {x:JT} (h:pv l=.ok x r) (hb:blanks r=44#8::r'):plist pv (f+1) l acc=plist pv f r' (acc++[x]):=by
 rw [plist,h]
 dsimp only
 rw [hb]
 dsimp only
 rw [if_pos rfl]
theorem plist_end {pv:Bs→R JT} {f:Nat} {l r r':Bs} {acc:List JT} {x:JT} (h:pv l=.ok x r) (hb:blanks r=93#8::r'):plist pv (f+1) l acc=.ok (.mk 5#8 0#64 [] (acc++[x]) []) r':=by
 rw [plist,h]
 dsimp only
 rw [hb]
 dsimp only
 rw [if_neg (by decide),if_pos rfl]
theorem plist_no {pv:Bs→R JT} {f:Nat} {l r:Bs} {acc:List JT} {x:JT} {c:BitVec 8} (h:pv l=.ok x r) (h1:∀ r',blanks r≠44#8::r') (h2:∀ r',blanks r≠93#8::r'):plist pv (f+1) l acc=.bad 4:=by
 rw [plist,h]
 dsimp only
 cases hb:blanks r with
 | nil=>rfl
 | cons c r' =>
  dsimp only
  rw [if_neg (fun hc=>h1 r' (by rw [hb,hc])),if_neg (fun hc=>h2 r' (by rw [hb,hc]))]
theorem L_of {s r:Bs} {k:Nat} {c:BitVec 8} (h:s.drop k=c::r):L s k=c∧k<s.length∧r=s.drop (k+1):=by
 rcases drop_L (s:=s) (k:=k) with ⟨h1,h2⟩|⟨_,h2,_⟩
 ·rw [h] at h2
  injection h2 with h2 h3
  exact ⟨h2.symm,h1,h3⟩
 ·rw [h] at h2; cases h2
theorem of_L {s:Bs} {k:Nat} {c:BitVec 8} (h:L s k=c) (hc:c≠0#8):s.drop k=c::s.drop (k+1)∧k<s.length:=by
 rcases drop_L (s:=s) (k:=k) with ⟨h1,h2⟩|⟨_,_,h2⟩
 ·rw [h] at h2; exact ⟨h2,h1⟩
 ·rw [h] at h2; exact absurd h2 hc
set_option maxRecDepth 20000 in
set_option maxHeartbeats 16000000 in
theorem fn_list {W:World} {ms:List Nat} (hT:Tabs W ms) (d:Nat) (depth:Nat) (hd:depth≤8) (s:Bs) (hs:s.length≤1048576) (hv:∀ (W:World) (ms:List Nat) (k:Nat),Tabs W ms→k≤s.length→FnR Tryd.prog tds 42 1 [[.past W ms],psr s k] [.c (.p 1 0 0),.c (.int .i64 ((depth+1:Nat):Int))] (fun _=>True) (ValA W ms d s k (pval d (s.drop k))))
  (k:Nat) (hk:k<s.length):FnR Tryd.prog tds 56 1 [[.past W ms],psr s k] [.c (.p 1 0 0),.c (.int .i64 (depth:Int))] (fun _=>True) (ValA W ms (d+1) s k (lists (pval d) (s.drop (k+1)))):=by
 refine fn_of_bodyW tds_ok follows_ Tryd.func56 rfl (t:=.a (.c (.p 1 0 0))::.a (.c (.int .i64 (depth:Int)))::anys (Tryd.f56.ntmps-2)) rfl (fun w r0 hr0 _=>?_)
 obtain ⟨x0,x1,rfl⟩:=len2' hr0
 (repeat show _∧_;first|refine yr ?_|refine yt ?_|refine yf ?_|refine yo ?_)
 refine call_same (fn_blanks s (k+1) (by omega) hs) [1] rfl (by (repeat first|exact trivial|refine ent1 ?_)) (by (repeat first|exact trivial|refine ent1 ?_)) (fun _ _=>trivial) ?_
 rintro x hs' ⟨k1,g1,g2,g3,rfl,rfl⟩
 (repeat show _∧_;first|refine yr ?_|refine yt ?_|refine yf ?_|refine yo ?_)
 refine call_same (fn_peek s k1) [1] rfl (by (repeat first|exact trivial|refine ent1 ?_)) (by (repeat first|exact trivial|refine ent1 ?_)) (fun _ _=>trivial) ?_
 rintro x hs' ⟨rfl,rfl⟩
 by_cases c1:L s k1=93#8
 ·have e1:decide (L s k1=93#8)=true:=decide_eq_true c1
  obtain ⟨h1,h2⟩:=of_L c1 (by decide)
  have hP:lists (pval d) (s.drop (k+1))=.ok (.mk 5#8 0#64 [] [] []) (s.drop (k1+1)):=by
   unfold lists
   rw [← g3,h1]
   dsimp only
   rw [if_pos rfl]
  (repeat show _∧_;first|refine yr ?_|refine yt ?_|refine yf ?_|refine ya e1 ?_|refine yb e1 ?_|refine yo ?_)
  exact FinW.of ⟨.tup [.agg (jvS (.mk 5#8 0#64 [] [] []) jc0),.c (.int .i64 0)],_,⟨[0,1],⟨rfl,rfl,rfl⟩,by (repeat first|exact trivial|refine ent1 ?_)⟩,.inl ⟨_,jc0,k1+1,W,ms,hP,by omega,by omega,Later.refl _ _,TAt.leaf rfl rfl _,rfl,rfl⟩⟩
 have e1:decide (L s k1=93#8)=false:=decide_eq_false c1
 obtain ⟨f0,hf0,hP0⟩:∃ f,s.length-k1<f∧lists (pval d) (s.drop (k+1))=plist (pval d) f (s.drop k1) []:=by
  rcases drop_L (s:=s) (k:=k1) with ⟨h1,h2⟩|⟨h1,h2,_⟩
  ·refine ⟨(s.drop k1).length+1,by rw [List.length_drop]; omega,?_⟩
   unfold lists
   rw [← g3,h2]
   dsimp only
   rw [if_neg c1]
  ·refine ⟨1,by omega,?_⟩
   unfold lists
   rw [← g3,h2]
 (repeat show _∧_;first|refine yr ?_|refine yt ?_|refine yf ?_|refine ya e1 ?_|refine yb e1 ?_|refine yo ?_)
 refine .inl ⟨Option (List JT × List SC × Nat) × Nat × World × List Nat,fun x=>match x with
  | (none,j,W',ms')=>⟨[.a (.c (.p 1 0 0)),.a (.c (.int .i64 ((depth:Int)))),.any,.any,.a (.c (.p 2 0 0)),.a (.c (.int .i64 (0))),.a (.c (.p 3 0 0)),.any,.any,.any,.any,.any,.any,.any,.any,.any,.any,.any,.any,.any,.any,.any,.any,.any,.any,.any,.any,.any,.any,.any,.any,.any,.any,.any,.any,.any,.any,.any,.any,.any,.any,.any,.any,.any,.any,.any,.any,.any,.any,.any,.any,.any,.any,.any,.any,.any,.any,.any,.any,.any,.any,.any,.any,.any,.any,.any,.any,.any,.any,.any,.any],[[.past W' ms'],psr s j,vz,vl0]⟩
  | (some (done,cs,c),j,W',ms')=>⟨[.a (.c (.p 1 0 0)),.a (.c (.int .i64 ((depth:Int)))),.any,.any,.a (.c (.p 2 0 0)),.a (.c (.int .i64 (0))),.a (.c (.p 3 0 0)),.any,.any,.any,.any,.any,.any,.any,.any,.any,.any,.any,.any,.any,.any,.any,.any,.any,.any,.any,.any,.any,.any,.any,.any,.any,.any,.any,.any,.any,.any,.any,.any,.any,.any,.any,.any,.any,.any,.any,.any,.any,.any,.any,.any,.any,.any,.any,.any,.any,.any,.any,.any,.any,.any,.any,.any,.any,.any,.any,.any,.any,.any,.any,.any],[[.past W' ms'],psr s j,vz,vl1 4 done.length c,[.row (scale c (4+1)) (nthC cs)]]⟩,
  fun x=>match x with
  | (none,j,W',ms')=>k<j∧j≤s.length∧Later W ms W' ms'∧∃ f,s.length-j<f∧lists (pval d) (s.drop (k+1))=plist (pval d) f (s.drop j) []
  | (some (done,cs,c),j,W',ms')=>k<j∧j≤s.length∧Later W ms W' ms'∧done.length≤j∧done.length≤c∧RowJ W' ms' d cs done∧∃ f,s.length-j<f∧lists (pval d) (s.drop (k+1))=plist (pval d) f (s.drop j) done,
  fun x=>s.length-x.2.1,⟨(none,k1,W,ms),[0,1,2,3],⟨⟨rfl,rfl,rfl⟩,by (repeat first|exact trivial|refine ent1 ?_)⟩,by omega,g2,Later.refl _ _,f0,hf0,hP0⟩,fun x hx=>?_⟩
 rcases x with ⟨_|⟨done,cs,c⟩,j,W',ms'⟩
 ·obtain ⟨q1,q2,hL,f,hf,hP⟩:=hx
  obtain ⟨f,rfl⟩:∃ f',f=f'+1:=⟨f-1,by omega⟩
  dsimp only
  (repeat show _∧_;first|refine yr ?_|refine yt ?_|refine yf ?_|refine yo ?_)
  refine call_past (hv W' ms' j (hT.later hL) q2) 0 [1] rfl rfl (by (repeat first|exact trivial|refine ent1 ?_)) (by (repeat first|exact trivial|refine ent1 ?_)) (fun _ _=>trivial) (fun x hs hr=>?_) ?_
  ·rcases hr with ⟨v,x,k',W5,ms5,_,_,_,hL5,_,_,rfl⟩|⟨e,v,x,k',W5,ms5,_,_,_,_,hL5,_,rfl⟩
   ·exact ⟨W5,ms5,rfl,hL5⟩
   ·exact ⟨W5,ms5,rfl,hL5⟩
  rintro y hs' (⟨v,x,k',W5,ms5,p1,p2,p3,hL5,hx5,rfl,rfl⟩|⟨e,v,x,k',W5,ms5,p1,p0,p2,p3,hL5,rfl,rfl⟩)
  rotate_left
  ·have f1:decide (e≠0)=true:=decide_eq_true p0
   (repeat show _∧_;first|refine yr ?_|refine yt ?_|refine yf ?_|refine ya f1 ?_|refine yb f1 ?_|refine yo ?_)
   exact FinW.of ⟨.tup [.agg (jvS jt0 jc0),.c (.int .i64 e)],_,⟨[0,1],⟨rfl,rfl,rfl⟩,by (repeat first|exact trivial|refine ent1 ?_)⟩,.inr ⟨e,jt0,jc0,k',W5,ms5,by rw [hP,plist_bad p1],p0,by omega,p3,hL.trans hL5,rfl,rfl⟩⟩
  have hrw:RowJ W5 ms5 d (flat (jvS v x)) [v]:=RowJ.nil.snoc hx5
  (repeat show _∧_;first|refine yr ?_|refine yt ?_|refine yf ?_|refine yo ?_)
  refine And.intro (show 0+5≤5 by decide) ?_
  (repeat show _∧_;first|refine yr ?_|refine yt ?_|refine yf ?_|refine yo ?_)
  intro c2 hc2
  (repeat show _∧_;first|refine yr ?_|refine yt ?_|refine yf ?_|refine yo ?_)
  refine call_same (fn_blanks s k' p3 hs) [1] rfl (by (repeat first|exact trivial|refine ent1 ?_)) (by (repeat first|exact trivial|refine ent1 ?_)) (fun _ _=>trivial) ?_
  rintro y hs' ⟨k2,r1,r2,r3,rfl,rfl⟩
  (repeat show _∧_;first|refine yr ?_|refine yt ?_|refine yf ?_|refine yo ?_)
  refine call_same (fn_peek s k2) [1] rfl (by (repeat first|exact trivial|refine ent1 ?_)) (by (repeat first|exact trivial|refine ent1 ?_)) (fun _ _=>trivial) ?_
  rintro y hs' ⟨rfl,rfl⟩
  by_cases c2':L s k2=44#8
  ·have f1:decide (L s k2=44#8)=true:=decide_eq_true c2'
   obtain ⟨h1,h2⟩:=of_L c2' (by decide)
   rw [plist_next p1 (by rw [← r3]; exact h1)] at hP
   (repeat show _∧_;first|refine yr ?_|refine yt ?_|refine yf ?_|refine ya f1 ?_|refine yb f1 ?_|refine yo ?_)
   refine ⟨(some ([v],(flat (jvS v x)),c2),k2+1,W5,ms5),[0,1,2,3,6],⟨⟨rfl,rfl,rfl⟩,?_⟩,⟨by omega,by omega,hL.trans hL5,by show 1≤_; omega,by exact hc2,hrw,f,by omega,hP⟩,by dsimp only; omega⟩
   (repeat first|exact trivial|refine ent1 ?_)
   exact ⟨fun j hj=>eqJ_cs hrw.raw (newJ_cs (m:=1) (sz:=4) rfl fun j hj=>updJ_new hj) j,by (repeat first|exact trivial|refine ent1 ?_)⟩
  have f1:decide (L s k2=44#8)=false:=decide_eq_false c2'
  by_cases c3:L s k2=93#8
  ·have f2:decide (L s k2=93#8)=true:=decide_eq_true c3
   obtain ⟨h1,h2⟩:=of_L c3 (by decide)
   rw [plist_end p1 (by rw [← r3]; exact h1)] at hP
   (repeat show _∧_;first|refine yr ?_|refine yt ?_|refine yf ?_|refine ya f1 ?_|refine yb f1 ?_|refine ya f2 ?_|refine yb f2 ?_|refine yo ?_)
   refine finW_frzU [0,1] rfl (Nat.zero_lt_one) cx0_m rfl (fun W9 ms9 α hL9 hI=>?_)
   have hfz:=hrw.frz (F:=fun j=>!memB j [0,1]) hL9 (newJ_cs (m:=1) (sz:=4) rfl fun j hj=>updJ_new hj) (hI 6 rfl) marks_off (n:=1) rfl hc2 (by omega)
   refine ⟨.tup [.agg (jvS (.mk 5#8 0#64 [] ([v]) []) ⟨some ((α 6).add (0+0)),1,c2,none,0,0⟩),.c (.int .i64 0)],[psr s (k2+1)],⟨⟨rfl,rfl,rfl⟩,by (repeat first|exact trivial|refine ent1 ?_)⟩,.inl ⟨_,⟨some ((α 6).add (0+0)),1,c2,none,0,0⟩,k2+1,W9,ms9,hP,by omega,by omega,hL.trans (hL5.trans hL9),⟨hfz,SlAt.nul⟩,rfl,rfl⟩⟩
  have f2:decide (L s k2=93#8)=false:=decide_eq_false c3
  (repeat show _∧_;first|refine yr ?_|refine yt ?_|refine yf ?_|refine ya f1 ?_|refine yb f1 ?_|refine ya f2 ?_|refine yb f2 ?_|refine yo ?_)
  refine FinW.of ⟨.tup [.agg (jvS jt0 jc0),.c (.int .i64 4)],_,⟨[0,1],⟨rfl,rfl,rfl⟩,by (repeat first|exact trivial|refine ent1 ?_)⟩,.inr ⟨4,jt0,jc0,k2,W5,ms5,?_,by decide,by omega,r2,hL.trans hL5,rfl,rfl⟩⟩
  rw [hP,plist_no (c:=0#8) p1 (fun r' h=>c2' (L_of (r3.trans h)).1) (fun r' h=>c3 (L_of (r3.trans h)).1)]
 ·obtain ⟨q1,q2,hL,q3,q4,hrow,f,hf,hP⟩:=hx
  obtain ⟨f,rfl⟩:∃ f',f=f'+1:=⟨f-1,by omega⟩
  have hlen:=hrow.len
  dsimp only
  (repeat show _∧_;first|refine yr ?_|refine yt ?_|refine yf ?_|refine yo ?_)
  refine call_past (hv W' ms' j (hT.later hL) q2) 0 [1] rfl rfl (by (repeat first|exact trivial|refine ent1 ?_)) (by (repeat first|exact trivial|refine ent1 ?_)) (fun _ _=>trivial) (fun x hs hr=>?_) ?_
  ·rcases hr with ⟨v,x,k',W5,ms5,_,_,_,hL5,_,_,rfl⟩|⟨e,v,x,k',W5,ms5,_,_,_,_,hL5,_,rfl⟩
   ·exact ⟨W5,ms5,rfl,hL5⟩
   ·exact ⟨W5,ms5,rfl,hL5⟩
  rintro y hs' (⟨v,x,k',W5,ms5,p1,p2,p3,hL5,hx5,rfl,rfl⟩|⟨e,v,x,k',W5,ms5,p1,p0,p2,p3,hL5,rfl,rfl⟩)
  rotate_left
  ·have f1:decide (e≠0)=true:=decide_eq_true p0
   (repeat show _∧_;first|refine yr ?_|refine yt ?_|refine yf ?_|refine ya f1 ?_|refine yb f1 ?_|refine yo ?_)
   exact FinW.of ⟨.tup [.agg (jvS jt0 jc0),.c (.int .i64 e)],_,⟨[0,1],⟨rfl,rfl,rfl⟩,by (repeat first|exact trivial|refine ent1 ?_)⟩,.inr ⟨e,jt0,jc0,k',W5,ms5,by rw [hP,plist_bad p1],p0,by omega,p3,hL.trans hL5,rfl,rfl⟩⟩
  have hrw:RowJ W5 ms5 d (cs++flat (jvS v x)) (done++[v]):=(hrow.later hL5).snoc hx5
  have hdl:(done++[v]).length=done.length+1:=by rw [List.length_append]; rfl
  (repeat show _∧_;first|refine yr ?_|refine yt ?_|refine yf ?_|refine yo ?_)
  refine And.intro (show 0+5≤5 by decide) ?_
  refine And.intro (show 0+scale 1 (4+1)≤5 by decide) ?_
  refine And.intro ⟨q4,by rw [sc5]; omega,show (done.length+1)*80≤140737488355328 by omega⟩ ?_
  intro c2 hc2
  (repeat show _∧_;first|refine yr ?_|refine yt ?_|refine yf ?_|refine yo ?_)
  refine call_same (fn_blanks s k' p3 hs) [1] rfl (by (repeat first|exact trivial|refine ent1 ?_)) (by (repeat first|exact trivial|refine ent1 ?_)) (fun _ _=>trivial) ?_
  rintro y hs' ⟨k2,r1,r2,r3,rfl,rfl⟩
  (repeat show _∧_;first|refine yr ?_|refine yt ?_|refine yf ?_|refine yo ?_)
  refine call_same (fn_peek s k2) [1] rfl (by (repeat first|exact trivial|refine ent1 ?_)) (by (repeat first|exact trivial|refine ent1 ?_)) (fun _ _=>trivial) ?_
  rintro y hs' ⟨rfl,rfl⟩
  by_cases c2':L s k2=44#8
  ·have f1:decide (L s k2=44#8)=true:=decide_eq_true c2'
   obtain ⟨h1,h2⟩:=of_L c2' (by decide)
   rw [plist_next p1 (by rw [← r3]; exact h1)] at hP
   (repeat show _∧_;first|refine yr ?_|refine yt ?_|refine yf ?_|refine ya f1 ?_|refine yb f1 ?_|refine yo ?_)
   refine ⟨(some ((done++[v]),(cs++flat (jvS v x)),c2),k2+1,W5,ms5),[0,1,2,3,7],⟨⟨rfl,rfl,rfl⟩,?_⟩,⟨by omega,by omega,hL.trans hL5,by rw [hdl]; omega,by rw [hdl]; exact hc2,hrw,f,by omega,hP⟩,by dsimp only; omega⟩
   (repeat first|exact trivial|refine ent1 ?_)
   exact ⟨fun j hj=>eqJ_cs hrw.raw (appJ_cs (m:=1) (sz:=4) (by rw [hrow.len]) (fun _ _=>rfl) rfl fun j hj=>updJ_new hj) j,by (repeat first|exact trivial|refine ent1 ?_)⟩
  have f1:decide (L s k2=44#8)=false:=decide_eq_false c2'
  by_cases c3:L s k2=93#8
  ·have f2:decide (L s k2=93#8)=true:=decide_eq_true c3
   obtain ⟨h1,h2⟩:=of_L c3 (by decide)
   rw [plist_end p1 (by rw [← r3]; exact h1)] at hP
   (repeat show _∧_;first|refine yr ?_|refine yt ?_|refine yf ?_|refine ya f1 ?_|refine yb f1 ?_|refine ya f2 ?_|refine yb f2 ?_|refine yo ?_)
   refine finW_frzU [0,1] rfl (Nat.zero_lt_one) cx0_m rfl (fun W9 ms9 α hL9 hI=>?_)
   have hfz:=hrw.frz (F:=fun j=>!memB j [0,1]) hL9 (appJ_cs (m:=1) (sz:=4) (by rw [hrow.len]) (fun _ _=>rfl) rfl fun j hj=>updJ_new hj) (hI 7 rfl) marks_off (n:=(done.length+1)) hdl hc2 (by omega)
   refine ⟨.tup [.agg (jvS (.mk 5#8 0#64 [] (done++[v]) []) ⟨some ((α 7).add (0+0)),(done.length+1),c2,none,0,0⟩),.c (.int .i64 0)],[psr s (k2+1)],⟨⟨rfl,rfl,rfl⟩,by (repeat first|exact trivial|refine ent1 ?_)⟩,.inl ⟨_,⟨some ((α 7).add (0+0)),(done.length+1),c2,none,0,0⟩,k2+1,W9,ms9,hP,by omega,by omega,hL.trans (hL5.trans hL9),⟨hfz,SlAt.nul⟩,rfl,rfl⟩⟩
  have f2:decide (L s k2=93#8)=false:=decide_eq_false c3
  (repeat show _∧_;first|refine yr ?_|refine yt ?_|refine yf ?_|refine ya f1 ?_|refine yb f1 ?_|refine ya f2 ?_|refine yb f2 ?_|refine yo ?_)
  refine FinW.of ⟨.tup [.agg (jvS jt0 jc0),.c (.int .i64 4)],_,⟨[0,1],⟨rfl,rfl,rfl⟩,by (repeat first|exact trivial|refine ent1 ?_)⟩,.inr ⟨4,jt0,jc0,k2,W5,ms5,?_,by decide,by omega,r2,hL.trans hL5,rfl,rfl⟩⟩
  rw [hP,plist_no (c:=0#8) p1 (fun r' h=>c2' (L_of (r3.trans h)).1) (fun r' h=>c3 (L_of (r3.trans h)).1)]
end Sx
end
section
namespace Sx
open Go.RowKit Sha Vi Js

abbrev vo0:List Seg:=[.one (.w8 6#8),.one (.w64 0#64),.one (.str []),.one (.slc none 0 0),.one (.slc none 0 0)]
abbrev vo1 (i n c j m e:Nat):List Seg:=[.one (.w8 6#8),.one (.w64 0#64),.one (.str []),.one (.sl i 0 0 n c),.one (.sl j 0 0 m e)]
theorem pobj_name {pv:Bs→R JT} {f:Nat} {l:Bs} {acc:List JT} {ns:List Bs} {e:Int} (h:pname l ns=.bad e):pobj pv (f+1) l acc ns=.bad e:=by
 rw [pobj,h]
theorem pobj_val {pv:Bs→R JT} {f:Nat} {l r:Bs} {acc:List JT} {ns:List Bs} {t:Bs} {e:Int} (h:pname l ns=.ok t r) (h2:pv r=.bad e):pobj pv (f+1) l acc ns=.bad e:=by
 rw [pobj,h]
 dsimp only
 rw [h2]
theorem pobj_next {pv:Bs→R JT} {f:Nat} {l r q r':Bs} {acc:List JT} {ns:List Bs} {t:Bs} {x:JT} (h:pname l ns=.ok t r) (h2:pv r=.ok x q) (hb:blanks q=44#8::r'):pobj pv (f+1) l acc ns=pobj pv f r' (acc++[x]) (ns++[t]):=by
 rw [pobj,h]
 dsimp only
 rw [h2]
 dsimp only
 rw [hb]
 dsimp only
 rw [if_pos rfl]
theorem pobj_end {pv:Bs→R JT} {f:Nat} {l r q r':Bs} {acc:List JT} {ns:List Bs} {t:Bs} {x:JT} (h:pname l ns=.ok t r) (h2:pv r=.ok x q) (hb:blanks q=125#8::r'):pobj pv (f+1) l acc ns=.ok (.mk 6#8 0#64 [] (acc++[x]) (ns++[t])) r':=by
 rw [pobj,h]
 dsimp only
 rw [h2]
 dsimp only
 rw [hb]
 dsimp only
 rw [if_neg (by decide),if_pos rfl]
theorem pobj_no {pv:Bs→R JT} {f:Nat} {l r q:Bs} {acc:List JT} {ns:List Bs} {t:Bs} {x:JT} (h:pname l ns=.ok t r) (h2:pv r=.ok x q) (h3:∀ r',blanks q≠44#8::r') (h4:∀ r',blanks q≠125#8::r'):pobj pv (f+1) l acc ns=.bad 4:=by
 rw [pobj,h]
 dsimp only
 rw [h2]
 dsimp only
 cases hb:blanks q with
 | nil=>rfl
 | cons c r' =>
  dsimp only
  rw [if_neg (fun hc=>h3 r' (by rw [hb,hc])),if_neg (fun hc=>h4 r' (by rw [hb,hc]))]
def nmJ (ns:List Bs):List SC:=(ns.map U8).map SC.str
theorem nmL_raw (ns:List Bs):∀ x∈nmJ ns,x.raw=x:=fun x hx=>by
 obtain ⟨b,_,rfl⟩:=List.mem_map.1 hx
 rfl
theorem nmL_len (ns:List Bs):(nmJ ns).length=ns.length:=by simp [nmJ]
theorem nmL_app (ns:List Bs) (t:Bs):nmJ (ns++[t])=nmJ ns++[.str (U8 t)]:=by simp [nmJ]
theorem nmL_newrow {t:Bs} (j:Nat) (hj:j<(nmJ [t]).length):newF (scale 1 (0+1)) (fun q=>nthC [SC.str (U8 t)] (q+0)) j=nthC (nmJ [t]) j :=
 newJ_cs (new:=nmJ [t]) (m:=1) (sz:=0) rfl (fun _ _=>rfl) j hj
theorem nmL_approw {ns:List Bs} {t:Bs} {n:Nat} (hn:ns.length=n) (j:Nat) (hj:j<(nmJ (ns++[t])).length):appF (nthC (nmJ ns)) 0 (scale n (0+1)) (scale 1 (0+1)) (fun q=>nthC [SC.str (U8 t)] (q+0)) j=nthC (nmJ (ns++[t])) j:=by
 rw [nmL_app] at hj ⊢
 exact appJ_cs (cs:=nmJ ns) (new:=[SC.str (U8 t)]) (m:=1) (sz:=0) (by rw [nmL_len,hn]; omega) (fun _ _=>rfl) rfl (fun _ _=>rfl) j hj
set_option maxRecDepth 20000 in
set_option maxHeartbeats 32000000 in
theorem fn_object {W:World} {ms:List Nat} (hT:Tabs W ms) (d:Nat) (depth:Nat) (hd:depth≤8) (s:Bs) (hs:s.length≤1048576) (hv:∀ (W:World) (ms:List Nat) (k:Nat),Tabs W ms→k≤s.length→FnR Tryd.prog tds 42 1 [[.past W ms],psr s k] [.c (.p 1 0 0),.c (.int .i64 ((depth+1:Nat):Int))] (fun _=>True) (ValA W ms d s k (pval d (s.drop k))))
  (k:Nat) (hk:k<s.length):FnR Tryd.prog tds 57 1 [[.past W ms],psr s k] [.c (.p 1 0 0),.c (.int .i64 (depth:Int))] (fun _=>True) (ValA W ms (d+1) s k (objs (pval d) (s.drop (k+1)))):=by
 refine fn_of_bodyW tds_ok follows_ Tryd.func57 rfl (t:=.a (.c (.p 1 0 0))::.a (.c (.int .i64 (depth:Int)))::anys (Tryd.f57.ntmps-2)) rfl (fun w r0 hr0 _=>?_)
 obtain ⟨x0,x1,rfl⟩:=len2' hr0
 (repeat show _∧_;first|refine yr ?_|refine yt ?_|refine yf ?_|refine yo ?_)
 refine call_same (fn_blanks s (k+1) (by omega) hs) [1] rfl (by (repeat first|exact trivial|refine ent1 ?_)) (by (repeat first|exact trivial|refine ent1 ?_)) (fun _ _=>trivial) ?_
 rintro x hs' ⟨k1,g1,g2,g3,rfl,rfl⟩
 (repeat show _∧_;first|refine yr ?_|refine yt ?_|refine yf ?_|refine yo ?_)
 refine call_same (fn_peek s k1) [1] rfl (by (repeat first|exact trivial|refine ent1 ?_)) (by (repeat first|exact trivial|refine ent1 ?_)) (fun _ _=>trivial) ?_
 rintro x hs' ⟨rfl,rfl⟩
 by_cases c1:L s k1=125#8
 ·have e1:decide (L s k1=125#8)=true:=decide_eq_true c1
  obtain ⟨h1,h2⟩:=of_L c1 (by decide)
  have hP:objs (pval d) (s.drop (k+1))=.ok (.mk 6#8 0#64 [] [] []) (s.drop (k1+1)):=by
   unfold objs
   rw [← g3,h1]
   dsimp only
   rw [if_pos rfl]
  (repeat show _∧_;first|refine yr ?_|refine yt ?_|refine yf ?_|refine ya e1 ?_|refine yb e1 ?_|refine yo ?_)
  exact FinW.of ⟨.tup [.agg (jvS (.mk 6#8 0#64 [] [] []) jc0),.c (.int .i64 0)],_,⟨[0,1],⟨rfl,rfl,rfl⟩,by (repeat first|exact trivial|refine ent1 ?_)⟩,.inl ⟨_,jc0,k1+1,W,ms,hP,by omega,by omega,Later.refl _ _,TAt.leaf rfl rfl _,rfl,rfl⟩⟩
 have e1:decide (L s k1=125#8)=false:=decide_eq_false c1
 obtain ⟨f0,hf0,hP0⟩:∃ f,s.length-k1<f∧objs (pval d) (s.drop (k+1))=pobj (pval d) f (s.drop k1) [] []:=by
  rcases drop_L (s:=s) (k:=k1) with ⟨h1,h2⟩|⟨h1,h2,_⟩
  ·refine ⟨(s.drop k1).length+1,by rw [List.length_drop]; omega,?_⟩
   unfold objs
   rw [← g3,h2]
   dsimp only
   rw [if_neg c1]
  ·refine ⟨1,by omega,?_⟩
   unfold objs
   rw [← g3,h2]
 (repeat show _∧_;first|refine yr ?_|refine yt ?_|refine yf ?_|refine ya e1 ?_|refine yb e1 ?_|refine yo ?_)
 refine .inl ⟨Option (List JT × List SC × List Bs × Nat × Nat) × Nat × World × List Nat,fun x=>match x with
  | (none,j,W',ms')=>⟨[.a (.c (.p 1 0 0)),.a (.c (.int .i64 ((depth:Int)))),.any,.any,.a (.c (.p 2 0 0)),.a (.c (.int .i64 (0))),.a (.c (.p 3 0 0)),.a (.c (.mh 4)),.any,.any,.any,.any,.any,.any,.any,.any,.any,.any,.any,.any,.any,.any,.any,.any,.any,.any,.any,.any,.any,.any,.any,.any,.any,.any,.any,.any,.any,.any,.any,.any,.any,.any,.any,.any,.any,.any,.any,.any,.any,.any,.any,.any,.any,.any,.any,.any,.any,.any,.any,.any,.any,.any,.any,.any,.any,.any,.any,.any,.any,.any,.any,.any,.any,.any,.any,.any,.any,.any,.any,.any,.any,.any,.any,.any,.any,.any,.any,.any,.any,.any],[[.past W' ms'],psr s j,vz,vo0,hadC []]⟩
  | (some (done,cs,ns,c,e),j,W',ms')=>⟨[.a (.c (.p 1 0 0)),.a (.c (.int .i64 ((depth:Int)))),.any,.any,.a (.c (.p 2 0 0)),.a (.c (.int .i64 (0))),.a (.c (.p 3 0 0)),.a (.c (.mh 4)),.any,.any,.any,.any,.any,.any,.any,.any,.any,.any,.any,.any,.any,.any,.any,.any,.any,.any,.any,.any,.any,.any,.any,.any,.any,.any,.any,.any,.any,.any,.any,.any,.any,.any,.any,.any,.any,.any,.any,.any,.any,.any,.any,.any,.any,.any,.any,.any,.any,.any,.any,.any,.any,.any,.any,.any,.any,.any,.any,.any,.any,.any,.any,.any,.any,.any,.any,.any,.any,.any,.any,.any,.any,.any,.any,.any,.any,.any,.any,.any,.any,.any],[[.past W' ms'],psr s j,vz,vo1 6 done.length c 5 done.length e,hadC ns,[.row (scale e (0+1)) (nthC (nmJ ns))],[.row (scale c (4+1)) (nthC cs)]]⟩,
  fun x=>match x with
  | (none,j,W',ms')=>k<j∧j≤s.length∧Later W ms W' ms'∧∃ f,s.length-j<f∧objs (pval d) (s.drop (k+1))=pobj (pval d) f (s.drop j) [] []
  | (some (done,cs,ns,c,e),j,W',ms')=>k<j∧j≤s.length∧Later W ms W' ms'∧done.length≤j∧done.length≤c∧done.length≤e∧ns.length=done.length∧RowJ W' ms' d cs done∧∃ f,s.length-j<f∧objs (pval d) (s.drop (k+1))=pobj (pval d) f (s.drop j) done ns,
  fun x=>s.length-x.2.1,⟨(none,k1,W,ms),[0,1,2,3,4],⟨⟨rfl,rfl,rfl⟩,by (repeat first|exact trivial|refine ent1 ?_)⟩,by omega,g2,Later.refl _ _,f0,hf0,hP0⟩,fun x hx=>?_⟩
 rcases x with ⟨_|⟨done,cs,ns,c,e⟩,j,W',ms'⟩
 ·obtain ⟨q1,q2,hL,f,hf,hP⟩:=hx
  obtain ⟨f,rfl⟩:∃ f',f=f'+1:=⟨f-1,by omega⟩
  dsimp only
  (repeat show _∧_;first|refine yr ?_|refine yt ?_|refine yf ?_|refine yo ?_)
  refine call_same (fn_name (hT.later hL) s j [] q2 hs) [0,1,4] rfl (by (repeat first|exact trivial|refine ent1 ?_)) (by (repeat first|exact trivial|refine ent1 ?_)) (fun _ _=>trivial) ?_
  rintro y hs' (⟨t,k3,u1,u2,u3,rfl,rfl⟩|⟨e',k3,l',u1,u0,u2,u3,rfl,rfl⟩)
  rotate_left
  ·have f1:decide (e'≠0)=true:=decide_eq_true u0
   (repeat show _∧_;first|refine yr ?_|refine yt ?_|refine yf ?_|refine ya f1 ?_|refine yb f1 ?_|refine yo ?_)
   exact FinW.of ⟨.tup [.agg (jvS jt0 jc0),.c (.int .i64 e')],_,⟨[0,1],⟨rfl,rfl,rfl⟩,by (repeat first|exact trivial|refine ent1 ?_)⟩,.inr ⟨e',jt0,jc0,k3,W',ms',by rw [hP,pobj_name u1],u0,by omega,u3,hL,rfl,rfl⟩⟩
  (repeat show _∧_;first|refine yr ?_|refine yt ?_|refine yf ?_|refine yo ?_)
  refine call_past (hv W' ms' k3 (hT.later hL) u3) 0 [1] rfl rfl (by (repeat first|exact trivial|refine ent1 ?_)) (by (repeat first|exact trivial|refine ent1 ?_)) (fun _ _=>trivial) (fun x hs hr=>?_) ?_
  ·rcases hr with ⟨v,x,k',W5,ms5,_,_,_,hL5,_,_,rfl⟩|⟨e,v,x,k',W5,ms5,_,_,_,_,hL5,_,rfl⟩
   ·exact ⟨W5,ms5,rfl,hL5⟩
   ·exact ⟨W5,ms5,rfl,hL5⟩
  rintro y hs' (⟨v,x,k',W5,ms5,p1,p2,p3,hL5,hx5,rfl,rfl⟩|⟨e',v,x,k',W5,ms5,p1,p0,p2,p3,hL5,rfl,rfl⟩)
  rotate_left
  ·have f1:decide (e'≠0)=true:=decide_eq_true p0
   (repeat show _∧_;first|refine yr ?_|refine yt ?_|refine yf ?_|refine ya f1 ?_|refine yb f1 ?_|refine yo ?_)
   exact FinW.of ⟨.tup [.agg (jvS jt0 jc0),.c (.int .i64 e')],_,⟨[0,1],⟨rfl,rfl,rfl⟩,by (repeat first|exact trivial|refine ent1 ?_)⟩,.inr ⟨e',jt0,jc0,k',W5,ms5,by rw [hP,pobj_val u1 p1],p0,by omega,p3,hL.trans hL5,rfl,rfl⟩⟩
  have hrw:RowJ W5 ms5 d (flat (jvS v x)) [v]:=RowJ.nil.snoc hx5
  (repeat show _∧_;first|refine yr ?_|refine yt ?_|refine yf ?_|refine yo ?_)
  refine ⟨some [3,5],[1001,1000,1001,1002,1005,1006,1007,3,3,8,3,4,8,1010,2008,2009,0,2004,1010,2009,0,2003,2004,1010,2009,0],[(0,true),(1,true),(2,true),(3,false),(4,false),(5,true),(6,true),(7,true),(8,false),(9,false),(10,true)],[11,12,13],by kernel_rfl,?_⟩
  (repeat show _∧_;first|refine yr ?_|refine yt ?_|refine yf ?_|refine yo ?_)
  refine And.intro (And.intro ?_ ?_) ?_
  ·(repeat show _∧_;first|refine yr ?_|refine yt ?_|refine yf ?_|refine yo ?_)
   intro e2 he2
   refine And.intro rfl ?_
   refine And.intro (show 0+5≤5 by decide) ?_
   (repeat show _∧_;first|refine yr ?_|refine yt ?_|refine yf ?_|refine yo ?_)
   intro c2 hc2
   (repeat show _∧_;first|refine yr ?_|refine yt ?_|refine yf ?_|refine yo ?_)
   refine call_same (fn_blanks s k' p3 hs) [1] rfl (by (repeat first|exact trivial|refine ent1 ?_)) (by (repeat first|exact trivial|refine ent1 ?_)) (fun _ _=>trivial) ?_
   rintro y hs' ⟨k2,r1,r2,r3,rfl,rfl⟩
   (repeat show _∧_;first|refine yr ?_|refine yt ?_|refine yf ?_|refine yo ?_)
   refine call_same (fn_peek s k2) [1] rfl (by (repeat first|exact trivial|refine ent1 ?_)) (by (repeat first|exact trivial|refine ent1 ?_)) (fun _ _=>trivial) ?_
   rintro y hs' ⟨rfl,rfl⟩
   by_cases c2':L s k2=44#8
   ·have f1:decide (L s k2=44#8)=true:=decide_eq_true c2'
    obtain ⟨h1,h2⟩:=of_L c2' (by decide)
    rw [pobj_next u1 p1 (by rw [← r3]; exact h1)] at hP
    (repeat show _∧_;first|refine yr ?_|refine yt ?_|refine yf ?_|refine ya f1 ?_|refine yb f1 ?_|refine yo ?_)
    refine ⟨(some ([v],(flat (jvS v x)),[t],c2,e2),k2+1,W5,ms5),[0,1,2,3,4,7,9],⟨⟨rfl,rfl,rfl⟩,?_⟩,⟨by omega,by omega,hL.trans hL5,by show 1≤_; omega,by exact hc2,by exact he2,by rfl,hrw,f,by omega,hP⟩,by dsimp only; omega⟩
    (repeat first|exact trivial|refine ent1 ?_)
    refine And.intro (fun j hj=>eqJ_cs (nmL_raw _) (fun j hj=>nmL_newrow j hj) j) ?_
    (repeat first|exact trivial|refine ent1 ?_)
    exact ⟨fun j hj=>eqJ_cs hrw.raw (newJ_cs (m:=1) (sz:=4) rfl fun j hj=>updJ_new hj) j,by (repeat first|exact trivial|refine ent1 ?_)⟩
   have f1:decide (L s k2=44#8)=false:=decide_eq_false c2'
   by_cases c3:L s k2=125#8
   ·have f2:decide (L s k2=125#8)=true:=decide_eq_true c3
    obtain ⟨h1,h2⟩:=of_L c3 (by decide)
    rw [pobj_end u1 p1 (by rw [← r3]; exact h1)] at hP
    (repeat show _∧_;first|refine yr ?_|refine yt ?_|refine yf ?_|refine ya f1 ?_|refine yb f1 ?_|refine ya f2 ?_|refine yb f2 ?_|refine yo ?_)
    refine finW_frzU [0,1] rfl (Nat.zero_lt_one) cx0_m rfl (fun W9 ms9 α hL9 hI=>?_)
    have hfz:=hrw.frz (F:=fun j=>!memB j [0,1]) hL9 (newJ_cs (m:=1) (sz:=4) rfl fun j hj=>updJ_new hj) (hI 9 rfl) marks_off (n:=1) rfl hc2 (by omega)
    have hfn:=strs_frz (l:=[t].map U8) (F:=fun j=>!memB j [0,1]) (fun j hj=>nmL_newrow j hj) (fun h=>(hI 7 rfl h).1) (n:=1) (by rw [List.length_map]; rfl) he2 (by omega)
    refine ⟨.tup [.agg (jvS (.mk 6#8 0#64 [] ([v]) ([t])) ⟨some ((α 9).add (0+0)),1,c2,some ((α 7).add (0+0)),1,e2⟩),.c (.int .i64 0)],[psr s (k2+1)],⟨⟨rfl,rfl,rfl⟩,by (repeat first|exact trivial|refine ent1 ?_)⟩,.inl ⟨_,⟨some ((α 9).add (0+0)),1,c2,some ((α 7).add (0+0)),1,e2⟩,k2+1,W9,ms9,hP,by omega,by omega,hL.trans (hL5.trans hL9),⟨hfz,hfn⟩,rfl,rfl⟩⟩
   have f2:decide (L s k2=125#8)=false:=decide_eq_false c3
   (repeat show _∧_;first|refine yr ?_|refine yt ?_|refine yf ?_|refine ya f1 ?_|refine yb f1 ?_|refine ya f2 ?_|refine yb f2 ?_|refine yo ?_)
   refine FinW.of ⟨.tup [.agg (jvS jt0 jc0),.c (.int .i64 4)],_,⟨[0,1],⟨rfl,rfl,rfl⟩,by (repeat first|exact trivial|refine ent1 ?_)⟩,.inr ⟨4,jt0,jc0,k2,W5,ms5,?_,by decide,by omega,r2,hL.trans hL5,rfl,rfl⟩⟩
   rw [hP,pobj_no u1 p1 (fun r' h=>c2' (L_of (r3.trans h)).1) (fun r' h=>c3 (L_of (r3.trans h)).1)]
  ·refine And.intro rfl ?_
   refine And.intro (show 0+5≤5 by decide) ?_
   (repeat show _∧_;first|refine yr ?_|refine yt ?_|refine yf ?_|refine yo ?_)
   intro e2 he2
   (repeat show _∧_;first|refine yr ?_|refine yt ?_|refine yf ?_|refine yo ?_)
   intro c2 hc2
   (repeat show _∧_;first|refine yr ?_|refine yt ?_|refine yf ?_|refine yo ?_)
   refine call_same (fn_blanks s k' p3 hs) [1] rfl (by (repeat first|exact trivial|refine ent1 ?_)) (by (repeat first|exact trivial|refine ent1 ?_)) (fun _ _=>trivial) ?_
   rintro y hs' ⟨k2,r1,r2,r3,rfl,rfl⟩
   (repeat show _∧_;first|refine yr ?_|refine yt ?_|refine yf ?_|refine yo ?_)
   refine call_same (fn_peek s k2) [1] rfl (by (repeat first|exact trivial|refine ent1 ?_)) (by (repeat first|exact trivial|refine ent1 ?_)) (fun _ _=>trivial) ?_
   rintro y hs' ⟨rfl,rfl⟩
   by_cases c2':L s k2=44#8
   ·have f1:decide (L s k2=44#8)=true:=decide_eq_true c2'
    obtain ⟨h1,h2⟩:=of_L c2' (by decide)
    rw [pobj_next u1 p1 (by rw [← r3]; exact h1)] at hP
    (repeat show _∧_;first|refine yr ?_|refine yt ?_|refine yf ?_|refine ya f1 ?_|refine yb f1 ?_|refine yo ?_)
    refine ⟨(some ([v],(flat (jvS v x)),[t],c2,e2),k2+1,W5,ms5),[0,1,2,3,4,8,9],⟨⟨rfl,rfl,rfl⟩,?_⟩,⟨by omega,by omega,hL.trans hL5,by show 1≤_; omega,by exact hc2,by exact he2,by rfl,hrw,f,by omega,hP⟩,by dsimp only; omega⟩
    (repeat first|exact trivial|refine ent1 ?_)
    refine And.intro (fun j hj=>eqJ_cs (nmL_raw _) (fun j hj=>nmL_newrow j hj) j) ?_
    (repeat first|exact trivial|refine ent1 ?_)
    exact ⟨fun j hj=>eqJ_cs hrw.raw (newJ_cs (m:=1) (sz:=4) rfl fun j hj=>updJ_new hj) j,by (repeat first|exact trivial|refine ent1 ?_)⟩
   have f1:decide (L s k2=44#8)=false:=decide_eq_false c2'
   by_cases c3:L s k2=125#8
   ·have f2:decide (L s k2=125#8)=true:=decide_eq_true c3
    obtain ⟨h1,h2⟩:=of_L c3 (by decide)
    rw [pobj_end u1 p1 (by rw [← r3]; exact h1)] at hP
    (repeat show _∧_;first|refine yr ?_|refine yt ?_|refine yf ?_|refine ya f1 ?_|refine yb f1 ?_|refine ya f2 ?_|refine yb f2 ?_|refine yo ?_)
    refine finW_frzU [0,1] rfl (Nat.zero_lt_one) cx0_m rfl (fun W9 ms9 α hL9 hI=>?_)
    have hfz:=hrw.frz (F:=fun j=>!memB j [0,1]) hL9 (newJ_cs (m:=1) (sz:=4) rfl fun j hj=>updJ_new hj) (hI 9 rfl) marks_off (n:=1) rfl hc2 (by omega)
    have hfn:=strs_frz (l:=[t].map U8) (F:=fun j=>!memB j [0,1]) (fun j hj=>nmL_newrow j hj) (fun h=>(hI 8 rfl h).1) (n:=1) (by rw [List.length_map]; rfl) he2 (by omega)
    refine ⟨.tup [.agg (jvS (.mk 6#8 0#64 [] ([v]) ([t])) ⟨some ((α 9).add (0+0)),1,c2,some ((α 8).add (0+0)),1,e2⟩),.c (.int .i64 0)],[psr s (k2+1)],⟨⟨rfl,rfl,rfl⟩,by (repeat first|exact trivial|refine ent1 ?_)⟩,.inl ⟨_,⟨some ((α 9).add (0+0)),1,c2,some ((α 8).add (0+0)),1,e2⟩,k2+1,W9,ms9,hP,by omega,by omega,hL.trans (hL5.trans hL9),⟨hfz,hfn⟩,rfl,rfl⟩⟩
   have f2:decide (L s k2=125#8)=false:=decide_eq_false c3
   (repeat show _∧_;first|refine yr ?_|refine yt ?_|refine yf ?_|refine ya f1 ?_|refine yb f1 ?_|refine ya f2 ?_|refine yb f2 ?_|refine yo ?_)
   refine FinW.of ⟨.tup [.agg (jvS jt0 jc0),.c (.int .i64 4)],_,⟨[0,1],⟨rfl,rfl,rfl⟩,by (repeat first|exact trivial|refine ent1 ?_)⟩,.inr ⟨4,jt0,jc0,k2,W5,ms5,?_,by decide,by omega,r2,hL.trans hL5,rfl,rfl⟩⟩
   rw [hP,pobj_no u1 p1 (fun r' h=>c2' (L_of (r3.trans h)).1) (fun r' h=>c3 (L_of (r3.trans h)).1)]
  ·refine And.intro rfl ?_
   refine And.intro (show 0+5≤5 by decide) ?_
   (repeat show _∧_;first|refine yr ?_|refine yt ?_|refine yf ?_|refine yo ?_)
   intro e2 he2
   (repeat show _∧_;first|refine yr ?_|refine yt ?_|refine yf ?_|refine yo ?_)
   intro c2 hc2
   (repeat show _∧_;first|refine yr ?_|refine yt ?_|refine yf ?_|refine yo ?_)
   refine call_same (fn_blanks s k' p3 hs) [1] rfl (by (repeat first|exact trivial|refine ent1 ?_)) (by (repeat first|exact trivial|refine ent1 ?_)) (fun _ _=>trivial) ?_
   rintro y hs' ⟨k2,r1,r2,r3,rfl,rfl⟩
   (repeat show _∧_;first|refine yr ?_|refine yt ?_|refine yf ?_|refine yo ?_)
   refine call_same (fn_peek s k2) [1] rfl (by (repeat first|exact trivial|refine ent1 ?_)) (by (repeat first|exact trivial|refine ent1 ?_)) (fun _ _=>trivial) ?_
   rintro y hs' ⟨rfl,rfl⟩
   by_cases c2':L s k2=44#8
   ·have f1:decide (L s k2=44#8)=true:=decide_eq_true c2'
    obtain ⟨h1,h2⟩:=of_L c2' (by decide)
    rw [pobj_next u1 p1 (by rw [← r3]; exact h1)] at hP
    (repeat show _∧_;first|refine yr ?_|refine yt ?_|refine yf ?_|refine ya f1 ?_|refine yb f1 ?_|refine yo ?_)
    refine ⟨(some ([v],(flat (jvS v x)),[t],c2,e2),k2+1,W5,ms5),[0,1,2,3,4,8,9],⟨⟨rfl,rfl,rfl⟩,?_⟩,⟨by omega,by omega,hL.trans hL5,by show 1≤_; omega,by exact hc2,by exact he2,by rfl,hrw,f,by omega,hP⟩,by dsimp only; omega⟩
    (repeat first|exact trivial|refine ent1 ?_)
    refine And.intro (fun j hj=>eqJ_cs (nmL_raw _) (fun j hj=>nmL_newrow j hj) j) ?_
    (repeat first|exact trivial|refine ent1 ?_)
    exact ⟨fun j hj=>eqJ_cs hrw.raw (newJ_cs (m:=1) (sz:=4) rfl fun j hj=>updJ_new hj) j,by (repeat first|exact trivial|refine ent1 ?_)⟩
   have f1:decide (L s k2=44#8)=false:=decide_eq_false c2'
   by_cases c3:L s k2=125#8
   ·have f2:decide (L s k2=125#8)=true:=decide_eq_true c3
    obtain ⟨h1,h2⟩:=of_L c3 (by decide)
    rw [pobj_end u1 p1 (by rw [← r3]; exact h1)] at hP
    (repeat show _∧_;first|refine yr ?_|refine yt ?_|refine yf ?_|refine ya f1 ?_|refine yb f1 ?_|refine ya f2 ?_|refine yb f2 ?_|refine yo ?_)
    refine finW_frzU [0,1] rfl (Nat.zero_lt_one) cx0_m rfl (fun W9 ms9 α hL9 hI=>?_)
    have hfz:=hrw.frz (F:=fun j=>!memB j [0,1]) hL9 (newJ_cs (m:=1) (sz:=4) rfl fun j hj=>updJ_new hj) (hI 9 rfl) marks_off (n:=1) rfl hc2 (by omega)
    have hfn:=strs_frz (l:=[t].map U8) (F:=fun j=>!memB j [0,1]) (fun j hj=>nmL_newrow j hj) (fun h=>(hI 8 rfl h).1) (n:=1) (by rw [List.length_map]; rfl) he2 (by omega)
    refine ⟨.tup [.agg (jvS (.mk 6#8 0#64 [] ([v]) ([t])) ⟨some ((α 9).add (0+0)),1,c2,some ((α 8).add (0+0)),1,e2⟩),.c (.int .i64 0)],[psr s (k2+1)],⟨⟨rfl,rfl,rfl⟩,by (repeat first|exact trivial|refine ent1 ?_)⟩,.inl ⟨_,⟨some ((α 9).add (0+0)),1,c2,some ((α 8).add (0+0)),1,e2⟩,k2+1,W9,ms9,hP,by omega,by omega,hL.trans (hL5.trans hL9),⟨hfz,hfn⟩,rfl,rfl⟩⟩
   have f2:decide (L s k2=125#8)=false:=decide_eq_false c3
   (repeat show _∧_;first|refine yr ?_|refine yt ?_|refine yf ?_|refine ya f1 ?_|refine yb f1 ?_|refine ya f2 ?_|refine yb f2 ?_|refine yo ?_)
   refine FinW.of ⟨.tup [.agg (jvS jt0 jc0),.c (.int .i64 4)],_,⟨[0,1],⟨rfl,rfl,rfl⟩,by (repeat first|exact trivial|refine ent1 ?_)⟩,.inr ⟨4,jt0,jc0,k2,W5,ms5,?_,by decide,by omega,r2,hL.trans hL5,rfl,rfl⟩⟩
   rw [hP,pobj_no u1 p1 (fun r' h=>c2' (L_of (r3.trans h)).1) (fun r' h=>c3 (L_of (r3.trans h)).1)]
 ·obtain ⟨q1,q2,hL,q3,q4,q5,q6,hrow,f,hf,hP⟩:=hx
  have hlen:=hrow.len
  obtain ⟨f,rfl⟩:∃ f',f=f'+1:=⟨f-1,by omega⟩
  dsimp only
  (repeat show _∧_;first|refine yr ?_|refine yt ?_|refine yf ?_|refine yo ?_)
  refine call_same (fn_name (hT.later hL) s j ns q2 hs) [0,1,4] rfl (by (repeat first|exact trivial|refine ent1 ?_)) (by (repeat first|exact trivial|refine ent1 ?_)) (fun _ _=>trivial) ?_
  rintro y hs' (⟨t,k3,u1,u2,u3,rfl,rfl⟩|⟨e',k3,l',u1,u0,u2,u3,rfl,rfl⟩)
  rotate_left
  ·have f1:decide (e'≠0)=true:=decide_eq_true u0
   (repeat show _∧_;first|refine yr ?_|refine yt ?_|refine yf ?_|refine ya f1 ?_|refine yb f1 ?_|refine yo ?_)
   exact FinW.of ⟨.tup [.agg (jvS jt0 jc0),.c (.int .i64 e')],_,⟨[0,1],⟨rfl,rfl,rfl⟩,by (repeat first|exact trivial|refine ent1 ?_)⟩,.inr ⟨e',jt0,jc0,k3,W',ms',by rw [hP,pobj_name u1],u0,by omega,u3,hL,rfl,rfl⟩⟩
  (repeat show _∧_;first|refine yr ?_|refine yt ?_|refine yf ?_|refine yo ?_)
  refine call_past (hv W' ms' k3 (hT.later hL) u3) 0 [1] rfl rfl (by (repeat first|exact trivial|refine ent1 ?_)) (by (repeat first|exact trivial|refine ent1 ?_)) (fun _ _=>trivial) (fun x hs hr=>?_) ?_
  ·rcases hr with ⟨v,x,k',W5,ms5,_,_,_,hL5,_,_,rfl⟩|⟨e,v,x,k',W5,ms5,_,_,_,_,hL5,_,rfl⟩
   ·exact ⟨W5,ms5,rfl,hL5⟩
   ·exact ⟨W5,ms5,rfl,hL5⟩
  rintro y hs' (⟨v,x,k',W5,ms5,p1,p2,p3,hL5,hx5,rfl,rfl⟩|⟨e',v,x,k',W5,ms5,p1,p0,p2,p3,hL5,rfl,rfl⟩)
  rotate_left
  ·have f1:decide (e'≠0)=true:=decide_eq_true p0
   (repeat show _∧_;first|refine yr ?_|refine yt ?_|refine yf ?_|refine ya f1 ?_|refine yb f1 ?_|refine yo ?_)
   exact FinW.of ⟨.tup [.agg (jvS jt0 jc0),.c (.int .i64 e')],_,⟨[0,1],⟨rfl,rfl,rfl⟩,by (repeat first|exact trivial|refine ent1 ?_)⟩,.inr ⟨e',jt0,jc0,k',W5,ms5,by rw [hP,pobj_val u1 p1],p0,by omega,p3,hL.trans hL5,rfl,rfl⟩⟩
  have hrw:RowJ W5 ms5 d (cs++flat (jvS v x)) (done++[v]):=(hrow.later hL5).snoc hx5
  have hdl:(done++[v]).length=done.length+1:=by rw [List.length_append]; rfl
  have hnl:(ns++[t]).length=done.length+1:=by rw [List.length_append,q6]; rfl
  (repeat show _∧_;first|refine yr ?_|refine yt ?_|refine yf ?_|refine yo ?_)
  refine ⟨some [3,7],[1001,1000,1001,1002,1005,1006,1007,3,3,8,3,4,8,1010,2008,2009,0,2004,1010,2009,0,2003,2004,1010,2009,0],[(0,true),(1,true),(2,true),(3,false),(4,false),(5,true),(6,true),(7,true),(8,false),(9,false),(10,true)],[11,12,13],by kernel_rfl,?_⟩
  (repeat show _∧_;first|refine yr ?_|refine yt ?_|refine yf ?_|refine yo ?_)
  refine And.intro (And.intro ?_ ?_) ?_
  ·refine And.intro (show 0+scale 1 (0+1)≤1 by decide) ?_
   refine And.intro ⟨q5,by rw [sc1]; omega,show (done.length+1)*16≤140737488355328 by omega⟩ ?_
   intro e2 he2
   refine And.intro rfl ?_
   refine And.intro (show 0+5≤5 by decide) ?_
   refine And.intro (show 0+scale 1 (4+1)≤5 by decide) ?_
   refine And.intro ⟨q4,by rw [sc5]; omega,show (done.length+1)*80≤140737488355328 by omega⟩ ?_
   intro c2 hc2
   (repeat show _∧_;first|refine yr ?_|refine yt ?_|refine yf ?_|refine yo ?_)
   refine call_same (fn_blanks s k' p3 hs) [1] rfl (by (repeat first|exact trivial|refine ent1 ?_)) (by (repeat first|exact trivial|refine ent1 ?_)) (fun _ _=>trivial) ?_
   rintro y hs' ⟨k2,r1,r2,r3,rfl,rfl⟩
   (repeat show _∧_;first|refine yr ?_|refine yt ?_|refine yf ?_|refine yo ?_)
   refine call_same (fn_peek s k2) [1] rfl (by (repeat first|exact trivial|refine ent1 ?_)) (by (repeat first|exact trivial|refine ent1 ?_)) (fun _ _=>trivial) ?_
   rintro y hs' ⟨rfl,rfl⟩
   by_cases c2':L s k2=44#8
   ·have f1:decide (L s k2=44#8)=true:=decide_eq_true c2'
    obtain ⟨h1,h2⟩:=of_L c2' (by decide)
    rw [pobj_next u1 p1 (by rw [← r3]; exact h1)] at hP
    (repeat show _∧_;first|refine yr ?_|refine yt ?_|refine yf ?_|refine ya f1 ?_|refine yb f1 ?_|refine yo ?_)
    refine ⟨(some ((done++[v]),(cs++flat (jvS v x)),(ns++[t]),c2,e2),k2+1,W5,ms5),[0,1,2,3,4,9,11],⟨⟨rfl,rfl,rfl⟩,?_⟩,⟨by omega,by omega,hL.trans hL5,by rw [hdl]; omega,by rw [hdl]; exact hc2,by rw [hdl]; exact he2,by rw [hdl]; exact hnl,hrw,f,by omega,hP⟩,by dsimp only; omega⟩
    (repeat first|exact trivial|refine ent1 ?_)
    refine And.intro (fun j hj=>eqJ_cs (nmL_raw _) (fun j hj=>nmL_approw q6 j hj) j) ?_
    (repeat first|exact trivial|refine ent1 ?_)
    exact ⟨fun j hj=>eqJ_cs hrw.raw (appJ_cs (m:=1) (sz:=4) (by rw [hlen]) (fun _ _=>rfl) rfl fun j hj=>updJ_new hj) j,by (repeat first|exact trivial|refine ent1 ?_)⟩
   have f1:decide (L s k2=44#8)=false:=decide_eq_false c2'
   by_cases c3:L s k2=125#8
   ·have f2:decide (L s k2=125#8)=true:=decide_eq_true c3
    obtain ⟨h1,h2⟩:=of_L c3 (by decide)
    rw [pobj_end u1 p1 (by rw [← r3]; exact h1)] at hP
    (repeat show _∧_;first|refine yr ?_|refine yt ?_|refine yf ?_|refine ya f1 ?_|refine yb f1 ?_|refine ya f2 ?_|refine yb f2 ?_|refine yo ?_)
    refine finW_frzU [0,1] rfl (Nat.zero_lt_one) cx0_m rfl (fun W9 ms9 α hL9 hI=>?_)
    have hfz:=hrw.frz (F:=fun j=>!memB j [0,1]) hL9 (appJ_cs (m:=1) (sz:=4) (by rw [hlen]) (fun _ _=>rfl) rfl fun j hj=>updJ_new hj) (hI 11 rfl) marks_off (n:=(done.length+1)) hdl hc2 (by omega)
    have hfn:=strs_frz (l:=(ns++[t]).map U8) (F:=fun j=>!memB j [0,1]) (fun j hj=>nmL_approw q6 j hj) (fun h=>(hI 9 rfl h).1) (n:=(done.length+1)) (by rw [List.length_map]; exact hnl) he2 (by omega)
    refine ⟨.tup [.agg (jvS (.mk 6#8 0#64 [] (done++[v]) (ns++[t])) ⟨some ((α 11).add (0+0)),(done.length+1),c2,some ((α 9).add (0+0)),(done.length+1),e2⟩),.c (.int .i64 0)],[psr s (k2+1)],⟨⟨rfl,rfl,rfl⟩,by (repeat first|exact trivial|refine ent1 ?_)⟩,.inl ⟨_,⟨some ((α 11).add (0+0)),(done.length+1),c2,some ((α 9).add (0+0)),(done.length+1),e2⟩,k2+1,W9,ms9,hP,by omega,by omega,hL.trans (hL5.trans hL9),⟨hfz,hfn⟩,rfl,rfl⟩⟩
   have f2:decide (L s k2=125#8)=false:=decide_eq_false c3
   (repeat show _∧_;first|refine yr ?_|refine yt ?_|refine yf ?_|refine ya f1 ?_|refine yb f1 ?_|refine ya f2 ?_|refine yb f2 ?_|refine yo ?_)
   refine FinW.of ⟨.tup [.agg (jvS jt0 jc0),.c (.int .i64 4)],_,⟨[0,1],⟨rfl,rfl,rfl⟩,by (repeat first|exact trivial|refine ent1 ?_)⟩,.inr ⟨4,jt0,jc0,k2,W5,ms5,?_,by decide,by omega,r2,hL.trans hL5,rfl,rfl⟩⟩
   rw [hP,pobj_no u1 p1 (fun r' h=>c2' (L_of (r3.trans h)).1) (fun r' h=>c3 (L_of (r3.trans h)).1)]
  ·refine And.intro rfl ?_
   refine And.intro (show 0+5≤5 by decide) ?_
   refine And.intro (show 0+scale 1 (0+1)≤1 by decide) ?_
   refine And.intro ⟨q5,by rw [sc1]; omega,show (done.length+1)*16≤140737488355328 by omega⟩ ?_
   intro e2 he2
   refine And.intro (show 0+scale 1 (4+1)≤5 by decide) ?_
   refine And.intro ⟨q4,by rw [sc5]; omega,show (done.length+1)*80≤140737488355328 by omega⟩ ?_
   intro c2 hc2
   (repeat show _∧_;first|refine yr ?_|refine yt ?_|refine yf ?_|refine yo ?_)
   refine call_same (fn_blanks s k' p3 hs) [1] rfl (by (repeat first|exact trivial|refine ent1 ?_)) (by (repeat first|exact trivial|refine ent1 ?_)) (fun _ _=>trivial) ?_
   rintro y hs' ⟨k2,r1,r2,r3,rfl,rfl⟩
   (repeat show _∧_;first|refine yr ?_|refine yt ?_|refine yf ?_|refine yo ?_)
   refine call_same (fn_peek s k2) [1] rfl (by (repeat first|exact trivial|refine ent1 ?_)) (by (repeat first|exact trivial|refine ent1 ?_)) (fun _ _=>trivial) ?_
   rintro y hs' ⟨rfl,rfl⟩
   by_cases c2':L s k2=44#8
   ·have f1:decide (L s k2=44#8)=true:=decide_eq_true c2'
    obtain ⟨h1,h2⟩:=of_L c2' (by decide)
    rw [pobj_next u1 p1 (by rw [← r3]; exact h1)] at hP
    (repeat show _∧_;first|refine yr ?_|refine yt ?_|refine yf ?_|refine ya f1 ?_|refine yb f1 ?_|refine yo ?_)
    refine ⟨(some ((done++[v]),(cs++flat (jvS v x)),(ns++[t]),c2,e2),k2+1,W5,ms5),[0,1,2,3,4,10,11],⟨⟨rfl,rfl,rfl⟩,?_⟩,⟨by omega,by omega,hL.trans hL5,by rw [hdl]; omega,by rw [hdl]; exact hc2,by rw [hdl]; exact he2,by rw [hdl]; exact hnl,hrw,f,by omega,hP⟩,by dsimp only; omega⟩
    (repeat first|exact trivial|refine ent1 ?_)
    refine And.intro (fun j hj=>eqJ_cs (nmL_raw _) (fun j hj=>nmL_approw q6 j hj) j) ?_
    (repeat first|exact trivial|refine ent1 ?_)
    exact ⟨fun j hj=>eqJ_cs hrw.raw (appJ_cs (m:=1) (sz:=4) (by rw [hlen]) (fun _ _=>rfl) rfl fun j hj=>updJ_new hj) j,by (repeat first|exact trivial|refine ent1 ?_)⟩
   have f1:decide (L s k2=44#8)=false:=decide_eq_false c2'
   by_cases c3:L s k2=125#8
   ·have f2:decide (L s k2=125#8)=true:=decide_eq_true c3
    obtain ⟨h1,h2⟩:=of_L c3 (by decide)
    rw [pobj_end u1 p1 (by rw [← r3]; exact h1)] at hP
    (repeat show _∧_;first|refine yr ?_|refine yt ?_|refine yf ?_|refine ya f1 ?_|refine yb f1 ?_|refine ya f2 ?_|refine yb f2 ?_|refine yo ?_)
    refine finW_frzU [0,1] rfl (Nat.zero_lt_one) cx0_m rfl (fun W9 ms9 α hL9 hI=>?_)
    have hfz:=hrw.frz (F:=fun j=>!memB j [0,1]) hL9 (appJ_cs (m:=1) (sz:=4) (by rw [hlen]) (fun _ _=>rfl) rfl fun j hj=>updJ_new hj) (hI 11 rfl) marks_off (n:=(done.length+1)) hdl hc2 (by omega)
    have hfn:=strs_frz (l:=(ns++[t]).map U8) (F:=fun j=>!memB j [0,1]) (fun j hj=>nmL_approw q6 j hj) (fun h=>(hI 10 rfl h).1) (n:=(done.length+1)) (by rw [List.length_map]; exact hnl) he2 (by omega)
    refine ⟨.tup [.agg (jvS (.mk 6#8 0#64 [] (done++[v]) (ns++[t])) ⟨some ((α 11).add (0+0)),(done.length+1),c2,some ((α 10).add (0+0)),(done.length+1),e2⟩),.c (.int .i64 0)],[psr s (k2+1)],⟨⟨rfl,rfl,rfl⟩,by (repeat first|exact trivial|refine ent1 ?_)⟩,.inl ⟨_,⟨some ((α 11).add (0+0)),(done.length+1),c2,some ((α 10).add (0+0)),(done.length+1),e2⟩,k2+1,W9,ms9,hP,by omega,by omega,hL.trans (hL5.trans hL9),⟨hfz,hfn⟩,rfl,rfl⟩⟩
   have f2:decide (L s k2=125#8)=false:=decide_eq_false c3
   (repeat show _∧_;first|refine yr ?_|refine yt ?_|refine yf ?_|refine ya f1 ?_|refine yb f1 ?_|refine ya f2 ?_|refine yb f2 ?_|refine yo ?_)
   refine FinW.of ⟨.tup [.agg (jvS jt0 jc0),.c (.int .i64 4)],_,⟨[0,1],⟨rfl,rfl,rfl⟩,by (repeat first|exact trivial|refine ent1 ?_)⟩,.inr ⟨4,jt0,jc0,k2,W5,ms5,?_,by decide,by omega,r2,hL.trans hL5,rfl,rfl⟩⟩
   rw [hP,pobj_no u1 p1 (fun r' h=>c2' (L_of (r3.trans h)).1) (fun r' h=>c3 (L_of (r3.trans h)).1)]
  ·refine And.intro rfl ?_
   refine And.intro (show 0+5≤5 by decide) ?_
   refine And.intro (show 0+scale 1 (0+1)≤1 by decide) ?_
   refine And.intro ⟨q5,by rw [sc1]; omega,show (done.length+1)*16≤140737488355328 by omega⟩ ?_
   intro e2 he2
   refine And.intro (show 0+scale 1 (4+1)≤5 by decide) ?_
   refine And.intro ⟨q4,by rw [sc5]; omega,show (done.length+1)*80≤140737488355328 by omega⟩ ?_
   intro c2 hc2
   (repeat show _∧_;first|refine yr ?_|refine yt ?_|refine yf ?_|refine yo ?_)
   refine call_same (fn_blanks s k' p3 hs) [1] rfl (by (repeat first|exact trivial|refine ent1 ?_)) (by (repeat first|exact trivial|refine ent1 ?_)) (fun _ _=>trivial) ?_
   rintro y hs' ⟨k2,r1,r2,r3,rfl,rfl⟩
   (repeat show _∧_;first|refine yr ?_|refine yt ?_|refine yf ?_|refine yo ?_)
   refine call_same (fn_peek s k2) [1] rfl (by (repeat first|exact trivial|refine ent1 ?_)) (by (repeat first|exact trivial|refine ent1 ?_)) (fun _ _=>trivial) ?_
   rintro y hs' ⟨rfl,rfl⟩
   by_cases c2':L s k2=44#8
   ·have f1:decide (L s k2=44#8)=true:=decide_eq_true c2'
    obtain ⟨h1,h2⟩:=of_L c2' (by decide)
    rw [pobj_next u1 p1 (by rw [← r3]; exact h1)] at hP
    (repeat show _∧_;first|refine yr ?_|refine yt ?_|refine yf ?_|refine ya f1 ?_|refine yb f1 ?_|refine yo ?_)
    refine ⟨(some ((done++[v]),(cs++flat (jvS v x)),(ns++[t]),c2,e2),k2+1,W5,ms5),[0,1,2,3,4,10,11],⟨⟨rfl,rfl,rfl⟩,?_⟩,⟨by omega,by omega,hL.trans hL5,by rw [hdl]; omega,by rw [hdl]; exact hc2,by rw [hdl]; exact he2,by rw [hdl]; exact hnl,hrw,f,by omega,hP⟩,by dsimp only; omega⟩
    (repeat first|exact trivial|refine ent1 ?_)
    refine And.intro (fun j hj=>eqJ_cs (nmL_raw _) (fun j hj=>nmL_approw q6 j hj) j) ?_
    (repeat first|exact trivial|refine ent1 ?_)
    exact ⟨fun j hj=>eqJ_cs hrw.raw (appJ_cs (m:=1) (sz:=4) (by rw [hlen]) (fun _ _=>rfl) rfl fun j hj=>updJ_new hj) j,by (repeat first|exact trivial|refine ent1 ?_)⟩
   have f1:decide (L s k2=44#8)=false:=decide_eq_false c2'
   by_cases c3:L s k2=125#8
   ·have f2:decide (L s k2=125#8)=true:=decide_eq_true c3
    obtain ⟨h1,h2⟩:=of_L c3 (by decide)
    rw [pobj_end u1 p1 (by rw [← r3]; exact h1)] at hP
    (repeat show _∧_;first|refine yr ?_|refine yt ?_|refine yf ?_|refine ya f1 ?_|refine yb f1 ?_|refine ya f2 ?_|refine yb f2 ?_|refine yo ?_)
    refine finW_frzU [0,1] rfl (Nat.zero_lt_one) cx0_m rfl (fun W9 ms9 α hL9 hI=>?_)
    have hfz:=hrw.frz (F:=fun j=>!memB j [0,1]) hL9 (appJ_cs (m:=1) (sz:=4) (by rw [hlen]) (fun _ _=>rfl) rfl fun j hj=>updJ_new hj) (hI 11 rfl) marks_off (n:=(done.length+1)) hdl hc2 (by omega)
    have hfn:=strs_frz (l:=(ns++[t]).map U8) (F:=fun j=>!memB j [0,1]) (fun j hj=>nmL_approw q6 j hj) (fun h=>(hI 10 rfl h).1) (n:=(done.length+1)) (by rw [List.length_map]; exact hnl) he2 (by omega)
    refine ⟨.tup [.agg (jvS (.mk 6#8 0#64 [] (done++[v]) (ns++[t])) ⟨some ((α 11).add (0+0)),(done.length+1),c2,some ((α 10).add (0+0)),(done.length+1),e2⟩),.c (.int .i64 0)],[psr s (k2+1)],⟨⟨rfl,rfl,rfl⟩,by (repeat first|exact trivial|refine ent1 ?_)⟩,.inl ⟨_,⟨some ((α 11).add (0+0)),(done.length+1),c2,some ((α 10).add (0+0)),(done.length+1),e2⟩,k2+1,W9,ms9,hP,by omega,by omega,hL.trans (hL5.trans hL9),⟨hfz,hfn⟩,rfl,rfl⟩⟩
   have f2:decide (L s k2=125#8)=false:=decide_eq_false c3
   (repeat show _∧_;first|refine yr ?_|refine yt ?_|refine yf ?_|refine ya f1 ?_|refine yb f1 ?_|refine ya f2 ?_|refine yb f2 ?_|refine yo ?_)
   refine FinW.of ⟨.tup [.agg (jvS jt0 jc0),.c (.int .i64 4)],_,⟨[0,1],⟨rfl,rfl,rfl⟩,by (repeat first|exact trivial|refine ent1 ?_)⟩,.inr ⟨4,jt0,jc0,k2,W5,ms5,?_,by decide,by omega,r2,hL.trans hL5,rfl,rfl⟩⟩
   rw [hP,pobj_no u1 p1 (fun r' h=>c2' (L_of (r3.trans h)).1) (fun r' h=>c3 (L_of (r3.trans h)).1)]
end Sx
end
section
namespace Sx
open Go.RowKit Sha Vi Js

theorem take_lt {a p:Bs} (h:a.length<p.length):a.take p.length≠p:=fun e=>by
 have:=congrArg List.length e
 rw [List.length_take] at this
 omega
set_option maxRecDepth 20000 in
theorem fn_slPrefix (a p:Bs) (ha:a.length≤1048576) (hp:p.length≤1048576):Fn Tryd.prog tds 73 [] [.c (.str (U8 a)),.c (.str (U8 p))] (fun _=>True) (fun y hs=>y=.a (.c (.bool (decide (a.take p.length=p))))∧hs=[]):=by
 refine fn_of_body tds_ok follows_ Tryd.func73 rfl (t:=.a (.c (.str (U8 a)))::.a (.c (.str (U8 p)))::anys (Tryd.f73.ntmps-2)) rfl (fun w r0 hr0 _=>?_)
 obtain rfl:r0=[]:=List.eq_nil_of_length_eq_zero hr0
 by_cases h:p.length≤a.length
 ·have e:decide ((((U8 p).length:Nat):Int)≤(((U8 a).length:Nat):Int))=true:=decide_eq_true (by rw [U8_len,U8_len]; omega)
  (repeat show _∧_;first|refine yr ?_|refine yt ?_|refine yf ?_|refine yt ?_ (by first|decide|(rw[e];decide))|refine yf ?_ (by first|decide|(rw[e];decide))|refine yo ?_)
  refine And.intro ⟨by omega,by omega,by rw [U8_len,U8_len]; omega⟩ ?_
  refine frcN_of (m:=0) rfl ?_
  refine frcN_of (m:=(U8 p).length) (Int.toNat_natCast _) ?_
  (repeat show _∧_;first|refine yr ?_|refine yt ?_|refine yf ?_|refine yt ?_ (by first|decide|(rw[e];decide))|refine yf ?_ (by first|decide|(rw[e];decide))|refine yo ?_)
  have hd:decide (((U8 a).drop 0).take ((U8 p).length-0)=U8 p)=decide (a.take p.length=p):=by
   rw [List.drop_zero,Nat.sub_zero,U8_len,U8_take,U8_dj]
  refine ⟨.a (.c (.bool (decide (a.take p.length=p)))),_,⟨[],⟨rfl,rfl,rfl⟩,?_⟩,rfl,rfl⟩
  exact And.intro hd (by (repeat first|exact trivial|refine ent1 ?_))
 ·have e:decide ((((U8 p).length:Nat):Int)≤(((U8 a).length:Nat):Int))=false:=decide_eq_false (by rw [U8_len,U8_len]; omega)
  (repeat show _∧_;first|refine yr ?_|refine yt ?_|refine yf ?_|refine yt ?_ (by first|decide|(rw[e];decide))|refine yf ?_ (by first|decide|(rw[e];decide))|refine yo ?_)
  refine ⟨.a (.c (.bool (decide (a.take p.length=p)))),_,⟨[],⟨rfl,rfl,rfl⟩,?_⟩,rfl,rfl⟩
  exact And.intro (decide_eq_false (take_lt (by omega))).symm (by (repeat first|exact trivial|refine ent1 ?_))
set_option maxRecDepth 20000 in
theorem fn_prefix (a p:Bs) (ha:a.length≤1048576) (hp:p.length≤1048576):Fn Tryd.prog tds 58 [] [.c (.str (U8 a)),.c (.str (U8 p))] (fun _=>True) (fun y hs=>y=.a (.c (.bool (decide (a.take p.length=p))))∧hs=[]):=by
 refine fn_of_body tds_ok follows_ Tryd.func58 rfl (t:=.a (.c (.str (U8 a)))::.a (.c (.str (U8 p)))::anys (Tryd.f58.ntmps-2)) rfl (fun w r0 hr0 _=>?_)
 obtain rfl:r0=[]:=List.eq_nil_of_length_eq_zero hr0
 (repeat show _∧_;first|refine yr ?_|refine yt ?_|refine yf ?_|refine yo ?_)
 refine call_same (fn_slPrefix a p ha hp) [] rfl (by (repeat first|exact trivial|refine ent1 ?_)) trivial (fun _ _=>trivial) ?_
 rintro x hs' ⟨rfl,rfl⟩
 exact ⟨.a (.c (.bool (decide (a.take p.length=p)))),_,⟨[],⟨rfl,rfl,rfl⟩,by (repeat first|exact trivial|refine ent1 ?_)⟩,rfl,rfl⟩
theorem pone_at {kl ko:Bs→R JT} {s:Bs} {k k1:Nat} (h:s.drop k1=blanks (s.drop k)) :
  pone kl ko (s.drop k)=if L s k1=34#8 then (match text (s.drop (k1+1)) with
    | .bad e=>.bad e
    | .ok t r=>.ok (.mk 4#8 0#64 t [] []) r)
   else if isDig (L s k1)=true then (match number (s.drop k1) with
    | .bad e=>.bad e
    | .ok n r=>.ok (.mk 3#8 (BitVec.ofNat 64 n) [] [] []) r)
   else if L s k1=91#8 then kl (s.drop (k1+1)) else if L s k1=123#8 then ko (s.drop (k1+1)) else word (s.drop k1):=by
 unfold pone
 rw [← h]
 rcases drop_L (s:=s) (k:=k1) with ⟨h1,h2⟩|⟨h1,h2,h3⟩
 ·rw [h2]
  dsimp only
  split
  ·cases text (s.drop (k1+1)) <;> rfl
  split
  ·cases number (L s k1::s.drop (k1+1)) <;> rfl
  ·rfl
 ·rw [h2,h3]
  rfl
def ValC (s:Bs) (d depth:Nat):Prop:=∀ (W:World) (ms:List Nat) (k:Nat),Tabs W ms→k≤s.length→FnR Tryd.prog tds 42 1 [[.past W ms],psr s k] [.c (.p 1 0 0),.c (.int .i64 (depth:Int))] (fun _=>True) (ValA W ms d s k (pval d (s.drop k)))
set_option maxRecDepth 20000 in
set_option maxHeartbeats 32000000 in
theorem fn_value1 (s:Bs) (hs:s.length≤1048576) (d depth:Nat) (hdd:depth+d=8) (hrec:∀ d',d=d'+1→ValC s d' (depth+1)):ValC s d depth:=by
 intro W ms k hT hk
 refine fn_of_bodyW tds_ok follows_ Tryd.func42 rfl (t:=.a (.c (.p 1 0 0))::.a (.c (.int .i64 (depth:Int)))::anys (Tryd.f42.ntmps-2)) rfl (fun w r0 hr0 _=>?_)
 obtain ⟨x0,x1,rfl⟩:=len2' hr0
 (repeat show _∧_;first|refine yr ?_|refine yt ?_|refine yf ?_|refine yo ?_)
 refine call_same (fn_blanks s k hk hs) [1] rfl (by (repeat first|exact trivial|refine ent1 ?_)) (by (repeat first|exact trivial|refine ent1 ?_)) (fun _ _=>trivial) ?_
 rintro x hs' ⟨k1,g1,g2,g3,rfl,rfl⟩
 (repeat show _∧_;first|refine yr ?_|refine yt ?_|refine yf ?_|refine yo ?_)
 refine call_same (fn_peek s k1) [1] rfl (by (repeat first|exact trivial|refine ent1 ?_)) (by (repeat first|exact trivial|refine ent1 ?_)) (fun _ _=>trivial) ?_
 rintro x hs' ⟨rfl,rfl⟩
 obtain ⟨kl,ko,hpv,hkl⟩:∃ kl ko,pval d=pone kl ko∧((d=0∧depth=8∧kl=(fun _=>.bad 22)∧ko=(fun _=>.bad 22))∨∃ d',d=d'+1∧depth<8∧kl=lists (pval d')∧ko=objs (pval d')):=by
  cases d with
  | zero=>exact ⟨_,_,rfl,.inl ⟨rfl,by omega,rfl,rfl⟩⟩
  | succ d=>exact ⟨_,_,rfl,.inr ⟨d,rfl,by omega,rfl,rfl⟩⟩
 have hP:=pone_at (kl:=kl) (ko:=ko) g3
 rw [← hpv] at hP
 by_cases c1:L s k1=34#8
 ·have e1:decide (L s k1=34#8)=true:=decide_eq_true c1
  obtain ⟨_,h2⟩:=of_L c1 (by decide)
  rw [if_pos c1] at hP
  (repeat show _∧_;first|refine yr ?_|refine yt ?_|refine yf ?_|refine yt ?_ (by first|decide|(rw[e1];decide))|refine yf ?_ (by first|decide|(rw[e1];decide))|refine yo ?_)
  refine call_same (fn_text hT s k1 h2 hs) [0,1] rfl (by (repeat first|exact trivial|refine ent1 ?_)) (by (repeat first|exact trivial|refine ent1 ?_)) (fun _ _=>trivial) ?_
  rintro x hs' (⟨t,k2,q1,q2,q3,rfl,rfl⟩|⟨e,k2,q1,q0,q2,q3,rfl,rfl⟩)
  ·rw [q1] at hP
   (repeat show _∧_;first|refine yr ?_|refine yt ?_|refine yf ?_|refine yo ?_)
   exact FinW.of ⟨.tup [.agg (jvS (.mk 4#8 0#64 t [] []) jc0),.c (.int .i64 0)],_,⟨[0,1],⟨rfl,rfl,rfl⟩,by (repeat first|exact trivial|refine ent1 ?_)⟩,.inl ⟨_,jc0,k2,W,ms,hP,by omega,q3,Later.refl _ _,TAt.leaf rfl rfl _,rfl,rfl⟩⟩
  ·rw [q1] at hP
   (repeat show _∧_;first|refine yr ?_|refine yt ?_|refine yf ?_|refine yo ?_)
   exact FinW.of ⟨.tup [.agg (jvS (.mk 4#8 0#64 [] [] []) jc0),.c (.int .i64 e)],_,⟨[0,1],⟨rfl,rfl,rfl⟩,by (repeat first|exact trivial|refine ent1 ?_)⟩,.inr ⟨e,_,jc0,k2,W,ms,hP,q0,by omega,q3,Later.refl _ _,rfl,rfl⟩⟩
 have e1:decide (L s k1=34#8)=false:=decide_eq_false c1
 rw [if_neg c1] at hP
 by_cases c2:isDig (L s k1)=true
 ·rw [if_pos c2] at hP
  have hD:=(isDig_iff (L s k1)).symm.trans c2
  rw [Bool.and_eq_true] at hD
  obtain ⟨e2,e3⟩:=hD
  (repeat show _∧_;first|refine yr ?_|refine yt ?_|refine yf ?_|refine yt ?_ (by first|decide|(rw[e1];decide)|(rw[e2];decide)|(rw[e3];decide))|refine yf ?_ (by first|decide|(rw[e1];decide)|(rw[e2];decide)|(rw[e3];decide))|refine yo ?_)
  refine call_same (fn_number' s k1 c2 hs) [1] rfl (by (repeat first|exact trivial|refine ent1 ?_)) (by (repeat first|exact trivial|refine ent1 ?_)) (fun _ _=>trivial) ?_
  rintro x hs' (⟨n,k2,q1,q2,q3,rfl,rfl⟩|⟨e,v,k2,q1,q0,q2,q3,rfl,rfl⟩)
  ·rw [q1] at hP
   (repeat show _∧_;first|refine yr ?_|refine yt ?_|refine yf ?_|refine yo ?_)
   exact FinW.of ⟨.tup [.agg (jvS (.mk 3#8 (BitVec.ofNat 64 n) [] [] []) jc0),.c (.int .i64 0)],_,⟨[0,1],⟨rfl,rfl,rfl⟩,by (repeat first|exact trivial|refine ent1 ?_)⟩,.inl ⟨_,jc0,k2,W,ms,hP,by omega,q3,Later.refl _ _,TAt.leaf rfl rfl _,rfl,rfl⟩⟩
  ·rw [q1] at hP
   (repeat show _∧_;first|refine yr ?_|refine yt ?_|refine yf ?_|refine yo ?_)
   exact FinW.of ⟨.tup [.agg (jvS (.mk 3#8 v [] [] []) jc0),.c (.int .i64 e)],_,⟨[0,1],⟨rfl,rfl,rfl⟩,by (repeat first|exact trivial|refine ent1 ?_)⟩,.inr ⟨e,_,jc0,k2,W,ms,hP,q0,by omega,q3,Later.refl _ _,rfl,rfl⟩⟩
 rw [if_neg c2] at hP
 rw [Bool.not_eq_true] at c2
 have hD:=(isDig_iff (L s k1)).symm.trans c2
 by_cases c4:L s k1=91#8
 ·have fc4:decide (L s k1=91#8)=true:=decide_eq_true c4
  obtain ⟨_,h2⟩:=of_L c4 (by decide)
  rw [if_pos c4] at hP
  have e2:decide (48#8≤L s k1)=true:=by rw [c4]; decide
  have e3:decide (L s k1≤57#8)=false:=by rw [c4]; decide
  rcases hkl with ⟨rfl,rfl,rfl,rfl⟩|⟨d',rfl,hlt,rfl,rfl⟩
  ·(repeat show _∧_;first|refine yr ?_|refine yt ?_|refine yf ?_|refine yt ?_ (by first|decide|(rw[e1];decide)|(rw[e2];decide)|(rw[e3];decide)|(rw[fc4];decide))|refine yf ?_ (by first|decide|(rw[e1];decide)|(rw[e2];decide)|(rw[e3];decide)|(rw[fc4];decide))|refine yo ?_)
   exact FinW.of ⟨.tup [.agg (jvS jt0 jc0),.c (.int .i64 22)],_,⟨[0,1],⟨rfl,rfl,rfl⟩,by (repeat first|exact trivial|refine ent1 ?_)⟩,.inr ⟨22,jt0,jc0,k1,W,ms,hP,by decide,g1,g2,Later.refl _ _,rfl,rfl⟩⟩
  ·have e8:decide ((8:Int)≤(depth:Int))=false:=decide_eq_false (by omega)
   (repeat show _∧_;first|refine yr ?_|refine yt ?_|refine yf ?_|refine yt ?_ (by first|decide|(rw[e1];decide)|(rw[e2];decide)|(rw[e3];decide)|(rw[fc4];decide)|(rw[e8];decide))|refine yf ?_ (by first|decide|(rw[e1];decide)|(rw[e2];decide)|(rw[e3];decide)|(rw[fc4];decide)|(rw[e8];decide))|refine yo ?_)
   refine call_past (fn_list hT d' depth (by omega) s hs (hrec d' rfl) k1 h2) 0 [1] rfl rfl (by (repeat first|exact trivial|refine ent1 ?_)) (by (repeat first|exact trivial|refine ent1 ?_)) (fun _ _=>trivial) (fun x hs hr=>?_) ?_
   ·rcases hr with ⟨v,x,k',W5,ms5,_,_,_,hL5,_,_,rfl⟩|⟨e,v,x,k',W5,ms5,_,_,_,_,hL5,_,rfl⟩
    ·exact ⟨W5,ms5,rfl,hL5⟩
    ·exact ⟨W5,ms5,rfl,hL5⟩
   rintro y hs' (⟨v,x,k',W5,ms5,p1,p2,p3,hL5,hx5,rfl,rfl⟩|⟨e,v,x,k',W5,ms5,p1,p0,p2,p3,hL5,rfl,rfl⟩)
   ·(repeat show _∧_;first|refine yr ?_|refine yt ?_|refine yf ?_|refine yo ?_)
    exact FinW.of ⟨.tup [.agg (jvS v x),.c (.int .i64 0)],_,⟨[0,1],⟨rfl,rfl,rfl⟩,by (repeat first|exact trivial|refine ent1 ?_)⟩,.inl ⟨v,x,k',W5,ms5,hP.trans p1,by omega,p3,hL5,hx5,rfl,rfl⟩⟩
   ·(repeat show _∧_;first|refine yr ?_|refine yt ?_|refine yf ?_|refine yo ?_)
    exact FinW.of ⟨.tup [.agg (jvS v x),.c (.int .i64 e)],_,⟨[0,1],⟨rfl,rfl,rfl⟩,by (repeat first|exact trivial|refine ent1 ?_)⟩,.inr ⟨e,v,x,k',W5,ms5,hP.trans p1,p0,by omega,p3,hL5,rfl,rfl⟩⟩
 have fc4:decide (L s k1=91#8)=false:=decide_eq_false c4
 by_cases c5:L s k1=123#8
 ·have fc5:decide (L s k1=123#8)=true:=decide_eq_true c5
  obtain ⟨_,h2⟩:=of_L c5 (by decide)
  rw [if_neg c4,if_pos c5] at hP
  have e2:decide (48#8≤L s k1)=true:=by rw [c5]; decide
  have e3:decide (L s k1≤57#8)=false:=by rw [c5]; decide
  rcases hkl with ⟨rfl,rfl,rfl,rfl⟩|⟨d',rfl,hlt,rfl,rfl⟩
  ·(repeat show _∧_;first|refine yr ?_|refine yt ?_|refine yf ?_|refine yt ?_ (by first|decide|(rw[e1];decide)|(rw[e2];decide)|(rw[e3];decide)|(rw[fc4];decide)|(rw[fc5];decide))|refine yf ?_ (by first|decide|(rw[e1];decide)|(rw[e2];decide)|(rw[e3];decide)|(rw[fc4];decide)|(rw[fc5];decide))|refine yo ?_)
   exact FinW.of ⟨.tup [.agg (jvS jt0 jc0),.c (.int .i64 22)],_,⟨[0,1],⟨rfl,rfl,rfl⟩,by (repeat first|exact trivial|refine ent1 ?_)⟩,.inr ⟨22,jt0,jc0,k1,W,ms,hP,by decide,g1,g2,Later.refl _ _,rfl,rfl⟩⟩
  ·have e8:decide ((8:Int)≤(depth:Int))=false:=decide_eq_false (by omega)
   (repeat show _∧_;first|refine yr ?_|refine yt ?_|refine yf ?_|refine yt ?_ (by first|decide|(rw[e1];decide)|(rw[e2];decide)|(rw[e3];decide)|(rw[fc4];decide)|(rw[fc5];decide)|(rw[e8];decide))|refine yf ?_ (by first|decide|(rw[e1];decide)|(rw[e2];decide)|(rw[e3];decide)|(rw[fc4];decide)|(rw[fc5];decide)|(rw[e8];decide))|refine yo ?_)
   refine call_past (fn_object hT d' depth (by omega) s hs (hrec d' rfl) k1 h2) 0 [1] rfl rfl (by (repeat first|exact trivial|refine ent1 ?_)) (by (repeat first|exact trivial|refine ent1 ?_)) (fun _ _=>trivial) (fun x hs hr=>?_) ?_
   ·rcases hr with ⟨v,x,k',W5,ms5,_,_,_,hL5,_,_,rfl⟩|⟨e,v,x,k',W5,ms5,_,_,_,_,hL5,_,rfl⟩
    ·exact ⟨W5,ms5,rfl,hL5⟩
    ·exact ⟨W5,ms5,rfl,hL5⟩
   rintro y hs' (⟨v,x,k',W5,ms5,p1,p2,p3,hL5,hx5,rfl,rfl⟩|⟨e,v,x,k',W5,ms5,p1,p0,p2,p3,hL5,rfl,rfl⟩)
   ·(repeat show _∧_;first|refine yr ?_|refine yt ?_|refine yf ?_|refine yo ?_)
    exact FinW.of ⟨.tup [.agg (jvS v x),.c (.int .i64 0)],_,⟨[0,1],⟨rfl,rfl,rfl⟩,by (repeat first|exact trivial|refine ent1 ?_)⟩,.inl ⟨v,x,k',W5,ms5,hP.trans p1,by omega,p3,hL5,hx5,rfl,rfl⟩⟩
   ·(repeat show _∧_;first|refine yr ?_|refine yt ?_|refine yf ?_|refine yo ?_)
    exact FinW.of ⟨.tup [.agg (jvS v x),.c (.int .i64 e)],_,⟨[0,1],⟨rfl,rfl,rfl⟩,by (repeat first|exact trivial|refine ent1 ?_)⟩,.inr ⟨e,v,x,k',W5,ms5,hP.trans p1,p0,by omega,p3,hL5,rfl,rfl⟩⟩
 have fc5:decide (L s k1=123#8)=false:=decide_eq_false c5
 rw [if_neg c4,if_neg c5] at hP
 have hwl:(s.drop k1).length≤1048576:=by rw [List.length_drop]; omega
 have hPw:=hP
 unfold word at hPw
 rcases e2:decide (48#8≤L s k1) with _|_
 ·(repeat show _∧_;first|refine yr ?_|refine yt ?_|refine yf ?_|refine yt ?_ (by first|decide|(rw[e1];decide)|(rw[e2];decide)|(rw[fc4];decide)|(rw[fc5];decide))|refine yf ?_ (by first|decide|(rw[e1];decide)|(rw[e2];decide)|(rw[fc4];decide)|(rw[fc5];decide))|refine yo ?_)
  refine .inr ⟨4,?_⟩
  (repeat show _∧_;first|refine yr ?_|refine yt ?_|refine yf ?_|refine yo ?_)
  refine ⟨none,[],[(0,true),(1,true),(2,true),(3,true),(4,true),(5,true),(6,true),(7,true),(8,true),(9,true),(10,false)],[],by kernel_rfl,?_⟩
  (repeat show _∧_;first|refine yr ?_|refine yt ?_|refine yf ?_|refine yo ?_)
  refine And.intro ⟨by omega,by rw [U8_len]; omega,by omega⟩ ?_
  refine frcN_of (m:=k1) (Int.toNat_natCast k1) ?_
  refine frcN_of (m:=(U8 s).length) (Int.toNat_natCast _) ?_
  (repeat show _∧_;first|refine yr ?_|refine yt ?_|refine yf ?_|refine yo ?_)
  refine call_same (fn_prefix (s.drop k1) [110#8,117#8,108#8,108#8] hwl (by decide)) [] rfl (by exact And.intro (U8_rest s k1) (And.intro rfl trivial)) trivial (fun _ _=>trivial) ?_
  rintro x hs' ⟨rfl,rfl⟩
  by_cases w0:(s.drop k1).take 4=[110#8,117#8,108#8,108#8]
  ·have h0:decide ((s.drop k1).take ([110#8,117#8,108#8,108#8]:Bs).length=[110#8,117#8,108#8,108#8])=true:=decide_eq_true w0
   rw [if_pos w0] at hPw
   have hk9:k1+4≤s.length:=by have:=congrArg List.length w0; rw [List.length_take,List.length_drop] at this; simp only [List.length_cons,List.length_nil] at this; omega
   (repeat show _∧_;first|refine yr ?_|refine yt ?_|refine yf ?_|refine yt ?_ (by first|decide|(rw[h0];decide))|refine yf ?_ (by first|decide|(rw[h0];decide))|refine yo ?_)
   refine And.intro (show -9223372036854775808≤(k1:Int)+((4:Nat):Int)∧(k1:Int)+((4:Nat):Int)≤9223372036854775807 by omega) ?_
   (repeat show _∧_;first|refine yr ?_|refine yt ?_|refine yf ?_|refine yo ?_)
   exact FinW.of ⟨.tup [.agg (jvS (.mk 0#8 0#64 [] [] []) jc0),.c (.int .i64 0)],_,⟨[0,1],⟨rfl,rfl,rfl⟩,by (repeat first|exact trivial|refine ent1 ?_)⟩,.inl ⟨_,jc0,k1+4,W,ms,by rw [hPw,List.drop_drop],by omega,hk9,Later.refl _ _,TAt.leaf rfl rfl _,rfl,rfl⟩⟩
  have h0:decide ((s.drop k1).take ([110#8,117#8,108#8,108#8]:Bs).length=[110#8,117#8,108#8,108#8])=false:=decide_eq_false w0
  rw [if_neg w0] at hPw
  (repeat show _∧_;first|refine yr ?_|refine yt ?_|refine yf ?_|refine yt ?_ (by first|decide|(rw[h0];decide))|refine yf ?_ (by first|decide|(rw[h0];decide))|refine yo ?_)
  (repeat show _∧_;first|refine yr ?_|refine yt ?_|refine yf ?_|refine yo ?_)
  refine ⟨none,[],[(0,true),(1,true),(2,true),(3,true),(4,true),(5,true),(6,true),(7,true),(8,true),(9,true),(10,false)],[],by kernel_rfl,?_⟩
  (repeat show _∧_;first|refine yr ?_|refine yt ?_|refine yf ?_|refine yo ?_)
  refine And.intro ⟨by omega,by rw [U8_len]; omega,by omega⟩ ?_
  refine frcN_of (m:=k1) (Int.toNat_natCast k1) ?_
  refine frcN_of (m:=(U8 s).length) (Int.toNat_natCast _) ?_
  (repeat show _∧_;first|refine yr ?_|refine yt ?_|refine yf ?_|refine yo ?_)
  refine call_same (fn_prefix (s.drop k1) [102#8,97#8,108#8,115#8,101#8] hwl (by decide)) [] rfl (by exact And.intro (U8_rest s k1) (And.intro rfl trivial)) trivial (fun _ _=>trivial) ?_
  rintro x hs' ⟨rfl,rfl⟩
  by_cases w1:(s.drop k1).take 5=[102#8,97#8,108#8,115#8,101#8]
  ·have h1:decide ((s.drop k1).take ([102#8,97#8,108#8,115#8,101#8]:Bs).length=[102#8,97#8,108#8,115#8,101#8])=true:=decide_eq_true w1
   rw [if_pos w1] at hPw
   have hk9:k1+5≤s.length:=by have:=congrArg List.length w1; rw [List.length_take,List.length_drop] at this; simp only [List.length_cons,List.length_nil] at this; omega
   (repeat show _∧_;first|refine yr ?_|refine yt ?_|refine yf ?_|refine yt ?_ (by first|decide|(rw[h1];decide))|refine yf ?_ (by first|decide|(rw[h1];decide))|refine yo ?_)
   refine And.intro (show -9223372036854775808≤(k1:Int)+((5:Nat):Int)∧(k1:Int)+((5:Nat):Int)≤9223372036854775807 by omega) ?_
   (repeat show _∧_;first|refine yr ?_|refine yt ?_|refine yf ?_|refine yo ?_)
   exact FinW.of ⟨.tup [.agg (jvS (.mk 1#8 0#64 [] [] []) jc0),.c (.int .i64 0)],_,⟨[0,1],⟨rfl,rfl,rfl⟩,by (repeat first|exact trivial|refine ent1 ?_)⟩,.inl ⟨_,jc0,k1+5,W,ms,by rw [hPw,List.drop_drop],by omega,hk9,Later.refl _ _,TAt.leaf rfl rfl _,rfl,rfl⟩⟩
  have h1:decide ((s.drop k1).take ([102#8,97#8,108#8,115#8,101#8]:Bs).length=[102#8,97#8,108#8,115#8,101#8])=false:=decide_eq_false w1
  rw [if_neg w1] at hPw
  (repeat show _∧_;first|refine yr ?_|refine yt ?_|refine yf ?_|refine yt ?_ (by first|decide|(rw[h1];decide))|refine yf ?_ (by first|decide|(rw[h1];decide))|refine yo ?_)
  (repeat show _∧_;first|refine yr ?_|refine yt ?_|refine yf ?_|refine yo ?_)
  refine ⟨none,[],[(0,true),(1,true),(2,true),(3,true),(4,true),(5,true),(6,true),(7,true),(8,true),(9,true),(10,false)],[],by kernel_rfl,?_⟩
  (repeat show _∧_;first|refine yr ?_|refine yt ?_|refine yf ?_|refine yo ?_)
  refine And.intro ⟨by omega,by rw [U8_len]; omega,by omega⟩ ?_
  refine frcN_of (m:=k1) (Int.toNat_natCast k1) ?_
  refine frcN_of (m:=(U8 s).length) (Int.toNat_natCast _) ?_
  (repeat show _∧_;first|refine yr ?_|refine yt ?_|refine yf ?_|refine yo ?_)
  refine call_same (fn_prefix (s.drop k1) [116#8,114#8,117#8,101#8] hwl (by decide)) [] rfl (by exact And.intro (U8_rest s k1) (And.intro rfl trivial)) trivial (fun _ _=>trivial) ?_
  rintro x hs' ⟨rfl,rfl⟩
  by_cases w2:(s.drop k1).take 4=[116#8,114#8,117#8,101#8]
  ·have h2:decide ((s.drop k1).take ([116#8,114#8,117#8,101#8]:Bs).length=[116#8,114#8,117#8,101#8])=true:=decide_eq_true w2
   rw [if_pos w2] at hPw
   have hk9:k1+4≤s.length:=by have:=congrArg List.length w2; rw [List.length_take,List.length_drop] at this; simp only [List.length_cons,List.length_nil] at this; omega
   (repeat show _∧_;first|refine yr ?_|refine yt ?_|refine yf ?_|refine yt ?_ (by first|decide|(rw[h2];decide))|refine yf ?_ (by first|decide|(rw[h2];decide))|refine yo ?_)
   refine And.intro (show -9223372036854775808≤(k1:Int)+((4:Nat):Int)∧(k1:Int)+((4:Nat):Int)≤9223372036854775807 by omega) ?_
   (repeat show _∧_;first|refine yr ?_|refine yt ?_|refine yf ?_|refine yo ?_)
   exact FinW.of ⟨.tup [.agg (jvS (.mk 2#8 0#64 [] [] []) jc0),.c (.int .i64 0)],_,⟨[0,1],⟨rfl,rfl,rfl⟩,by (repeat first|exact trivial|refine ent1 ?_)⟩,.inl ⟨_,jc0,k1+4,W,ms,by rw [hPw,List.drop_drop],by omega,hk9,Later.refl _ _,TAt.leaf rfl rfl _,rfl,rfl⟩⟩
  have h2:decide ((s.drop k1).take ([116#8,114#8,117#8,101#8]:Bs).length=[116#8,114#8,117#8,101#8])=false:=decide_eq_false w2
  rw [if_neg w2] at hPw
  (repeat show _∧_;first|refine yr ?_|refine yt ?_|refine yf ?_|refine yt ?_ (by first|decide|(rw[h2];decide))|refine yf ?_ (by first|decide|(rw[h2];decide))|refine yo ?_)
  exact FinW.of ⟨.tup [.agg (jvS jt0 jc0),.c (.int .i64 23)],_,⟨[0,1],⟨rfl,rfl,rfl⟩,by (repeat first|exact trivial|refine ent1 ?_)⟩,.inr ⟨23,jt0,jc0,k1,W,ms,hPw,by decide,g1,g2,Later.refl _ _,rfl,rfl⟩⟩
 ·rw [e2] at hD
  have e3:decide (L s k1≤57#8)=false:=hD
  (repeat show _∧_;first|refine yr ?_|refine yt ?_|refine yf ?_|refine yt ?_ (by first|decide|(rw[e1];decide)|(rw[e2];decide)|(rw[e3];decide)|(rw[fc4];decide)|(rw[fc5];decide))|refine yf ?_ (by first|decide|(rw[e1];decide)|(rw[e2];decide)|(rw[e3];decide)|(rw[fc4];decide)|(rw[fc5];decide))|refine yo ?_)
  refine .inr ⟨4,?_⟩
  (repeat show _∧_;first|refine yr ?_|refine yt ?_|refine yf ?_|refine yo ?_)
  refine ⟨none,[],[(0,true),(1,true),(2,true),(3,true),(4,true),(5,true),(6,true),(7,true),(8,true),(9,true),(10,false)],[],by kernel_rfl,?_⟩
  (repeat show _∧_;first|refine yr ?_|refine yt ?_|refine yf ?_|refine yo ?_)
  refine And.intro ⟨by omega,by rw [U8_len]; omega,by omega⟩ ?_
  refine frcN_of (m:=k1) (Int.toNat_natCast k1) ?_
  refine frcN_of (m:=(U8 s).length) (Int.toNat_natCast _) ?_
  (repeat show _∧_;first|refine yr ?_|refine yt ?_|refine yf ?_|refine yo ?_)
  refine call_same (fn_prefix (s.drop k1) [110#8,117#8,108#8,108#8] hwl (by decide)) [] rfl (by exact And.intro (U8_rest s k1) (And.intro rfl trivial)) trivial (fun _ _=>trivial) ?_
  rintro x hs' ⟨rfl,rfl⟩
  by_cases w0:(s.drop k1).take 4=[110#8,117#8,108#8,108#8]
  ·have h0:decide ((s.drop k1).take ([110#8,117#8,108#8,108#8]:Bs).length=[110#8,117#8,108#8,108#8])=true:=decide_eq_true w0
   rw [if_pos w0] at hPw
   have hk9:k1+4≤s.length:=by have:=congrArg List.length w0; rw [List.length_take,List.length_drop] at this; simp only [List.length_cons,List.length_nil] at this; omega
   (repeat show _∧_;first|refine yr ?_|refine yt ?_|refine yf ?_|refine yt ?_ (by first|decide|(rw[h0];decide))|refine yf ?_ (by first|decide|(rw[h0];decide))|refine yo ?_)
   refine And.intro (show -9223372036854775808≤(k1:Int)+((4:Nat):Int)∧(k1:Int)+((4:Nat):Int)≤9223372036854775807 by omega) ?_
   (repeat show _∧_;first|refine yr ?_|refine yt ?_|refine yf ?_|refine yo ?_)
   exact FinW.of ⟨.tup [.agg (jvS (.mk 0#8 0#64 [] [] []) jc0),.c (.int .i64 0)],_,⟨[0,1],⟨rfl,rfl,rfl⟩,by (repeat first|exact trivial|refine ent1 ?_)⟩,.inl ⟨_,jc0,k1+4,W,ms,by rw [hPw,List.drop_drop],by omega,hk9,Later.refl _ _,TAt.leaf rfl rfl _,rfl,rfl⟩⟩
  have h0:decide ((s.drop k1).take ([110#8,117#8,108#8,108#8]:Bs).length=[110#8,117#8,108#8,108#8])=false:=decide_eq_false w0
  rw [if_neg w0] at hPw
  (repeat show _∧_;first|refine yr ?_|refine yt ?_|refine yf ?_|refine yt ?_ (by first|decide|(rw[h0];decide))|refine yf ?_ (by first|decide|(rw[h0];decide))|refine yo ?_)
  (repeat show _∧_;first|refine yr ?_|refine yt ?_|refine yf ?_|refine yo ?_)
  refine ⟨none,[],[(0,true),(1,true),(2,true),(3,true),(4,true),(5,true),(6,true),(7,true),(8,true),(9,true),(10,false)],[],by kernel_rfl,?_⟩
  (repeat show _∧_;first|refine yr ?_|refine yt ?_|refine yf ?_|refine yo ?_)
  refine And.intro ⟨by omega,by rw [U8_len]; omega,by omega⟩ ?_
  refine frcN_of (m:=k1) (Int.toNat_natCast k1) ?_
  refine frcN_of (m:=(U8 s).length) (Int.toNat_natCast _) ?_
  (repeat show _∧_;first|refine yr ?_|refine yt ?_|refine yf ?_|refine yo ?_)
  refine call_same (fn_prefix (s.drop k1) [102#8,97#8,108#8,115#8,101#8] hwl (by decide)) [] rfl (by exact And.intro (U8_rest s k1) (And.intro rfl trivial)) trivial (fun _ _=>trivial) ?_
  rintro x hs' ⟨rfl,rfl⟩
  by_cases w1:(s.drop k1).take 5=[102#8,97#8,108#8,115#8,101#8]
  ·have h1:decide ((s.drop k1).take ([102#8,97#8,108#8,115#8,101#8]:Bs).length=[102#8,97#8,108#8,115#8,101#8])=true:=decide_eq_true w1
   rw [if_pos w1] at hPw
   have hk9:k1+5≤s.length:=by have:=congrArg List.length w1; rw [List.length_take,List.length_drop] at this; simp only [List.length_cons,List.length_nil] at this; omega
   (repeat show _∧_;first|refine yr ?_|refine yt ?_|refine yf ?_|refine yt ?_ (by first|decide|(rw[h1];decide))|refine yf ?_ (by first|decide|(rw[h1];decide))|refine yo ?_)
   refine And.intro (show -9223372036854775808≤(k1:Int)+((5:Nat):Int)∧(k1:Int)+((5:Nat):Int)≤9223372036854775807 by omega) ?_
   (repeat show _∧_;first|refine yr ?_|refine yt ?_|refine yf ?_|refine yo ?_)
   exact FinW.of ⟨.tup [.agg (jvS (.mk 1#8 0#64 [] [] []) jc0),.c (.int .i64 0)],_,⟨[0,1],⟨rfl,rfl,rfl⟩,by (repeat first|exact trivial|refine ent1 ?_)⟩,.inl ⟨_,jc0,k1+5,W,ms,by rw [hPw,List.drop_drop],by omega,hk9,Later.refl _ _,TAt.leaf rfl rfl _,rfl,rfl⟩⟩
  have h1:decide ((s.drop k1).take ([102#8,97#8,108#8,115#8,101#8]:Bs).length=[102#8,97#8,108#8,115#8,101#8])=false:=decide_eq_false w1
  rw [if_neg w1] at hPw
  (repeat show _∧_;first|refine yr ?_|refine yt ?_|refine yf ?_|refine yt ?_ (by first|decide|(rw[h1];decide))|refine yf ?_ (by first|decide|(rw[h1];decide))|refine yo ?_)
  (repeat show _∧_;first|refine yr ?_|refine yt ?_|refine yf ?_|refine yo ?_)
  refine ⟨none,[],[(0,true),(1,true),(2,true),(3,true),(4,true),(5,true),(6,true),(7,true),(8,true),(9,true),(10,false)],[],by kernel_rfl,?_⟩
  (repeat show _∧_;first|refine yr ?_|refine yt ?_|refine yf ?_|refine yo ?_)
  refine And.intro ⟨by omega,by rw [U8_len]; omega,by omega⟩ ?_
  refine frcN_of (m:=k1) (Int.toNat_natCast k1) ?_
  refine frcN_of (m:=(U8 s).length) (Int.toNat_natCast _) ?_
  (repeat show _∧_;first|refine yr ?_|refine yt ?_|refine yf ?_|refine yo ?_)
  refine call_same (fn_prefix (s.drop k1) [116#8,114#8,117#8,101#8] hwl (by decide)) [] rfl (by exact And.intro (U8_rest s k1) (And.intro rfl trivial)) trivial (fun _ _=>trivial) ?_
  rintro x hs' ⟨rfl,rfl⟩
  by_cases w2:(s.drop k1).take 4=[116#8,114#8,117#8,101#8]
  ·have h2:decide ((s.drop k1).take ([116#8,114#8,117#8,101#8]:Bs).length=[116#8,114#8,117#8,101#8])=true:=decide_eq_true w2
   rw [if_pos w2] at hPw
   have hk9:k1+4≤s.length:=by have:=congrArg List.length w2; rw [List.length_take,List.length_drop] at this; simp only [List.length_cons,List.length_nil] at this; omega
   (repeat show _∧_;first|refine yr ?_|refine yt ?_|refine yf ?_|refine yt ?_ (by first|decide|(rw[h2];decide))|refine yf ?_ (by first|decide|(rw[h2];decide))|refine yo ?_)
   refine And.intro (show -9223372036854775808≤(k1:Int)+((4:Nat):Int)∧(k1:Int)+((4:Nat):Int)≤9223372036854775807 by omega) ?_
   (repeat show _∧_;first|refine yr ?_|refine yt ?_|refine yf ?_|refine yo ?_)
   exact FinW.of ⟨.tup [.agg (jvS (.mk 2#8 0#64 [] [] []) jc0),.c (.int .i64 0)],_,⟨[0,1],⟨rfl,rfl,rfl⟩,by (repeat first|exact trivial|refine ent1 ?_)⟩,.inl ⟨_,jc0,k1+4,W,ms,by rw [hPw,List.drop_drop],by omega,hk9,Later.refl _ _,TAt.leaf rfl rfl _,rfl,rfl⟩⟩
  have h2:decide ((s.drop k1).take ([116#8,114#8,117#8,101#8]:Bs).length=[116#8,114#8,117#8,101#8])=false:=decide_eq_false w2
  rw [if_neg w2] at hPw
  (repeat show _∧_;first|refine yr ?_|refine yt ?_|refine yf ?_|refine yt ?_ (by first|decide|(rw[h2];decide))|refine yf ?_ (by first|decide|(rw[h2];decide))|refine yo ?_)
  exact FinW.of ⟨.tup [.agg (jvS jt0 jc0),.c (.int .i64 23)],_,⟨[0,1],⟨rfl,rfl,rfl⟩,by (repeat first|exact trivial|refine ent1 ?_)⟩,.inr ⟨23,jt0,jc0,k1,W,ms,hPw,by decide,g1,g2,Later.refl _ _,rfl,rfl⟩⟩
theorem fn_value (s:Bs) (hs:s.length≤1048576):∀ (d depth:Nat),depth+d=8→ValC s d depth
 | 0,depth,h=>fn_value1 s hs 0 depth h (fun d' e=>by cases e)
 | d+1,depth,h=>fn_value1 s hs (d+1) depth h (fun d' e=>by
  injection e with e
  subst e
  exact fn_value s hs d (depth+1) (by omega))
def ParseA (W:World) (ms:List Nat) (s:Bs) (y:SV) (hs:List (List Seg)):Prop :=
 (∃ v x W' ms',parse s=.ok v []∧Later W ms W' ms'∧TAt W' ms' 8 v x∧y=.tup [.agg (jvS v x),.c (.int .i64 0),.c (.int .i64 0)]∧hs=[[.past W' ms']]) ∨
 (∃ e k W' ms',parse s=.bad e∧e≠0∧k≤s.length∧Later W ms W' ms'∧y=.tup [.agg (jvS jt0 jc0),.c (.int .i64 ((k:Nat):Int)),.c (.int .i64 e)]∧hs=[[.past W' ms']])
set_option maxRecDepth 20000 in
set_option maxHeartbeats 16000000 in
theorem fn_parse {W:World} {ms:List Nat} (hT:Tabs W ms) (s:Bs) (hs:s.length≤4611686018427387904):FnR Tryd.prog tds 17 1 [[.past W ms]] [.c (.str (U8 s))] (fun _=>True) (ParseA W ms s):=by
 refine fn_of_bodyW tds_ok follows_ Tryd.func17 rfl (t:=.a (.c (.str (U8 s)))::anys (Tryd.f17.ntmps-1)) rfl (fun w r0 hr0 _=>?_)
 obtain ⟨x0,rfl⟩:=len1' hr0
 by_cases h:1048576<s.length
 ·have e:decide ((1048576:Int)<(((U8 s).length:Nat):Int))=true:=decide_eq_true (by rw [U8_len]; omega)
  (repeat show _∧_;first|refine yr ?_|refine yt ?_|refine yf ?_|refine yt ?_ (by first|decide|(rw[e];decide))|refine yf ?_ (by first|decide|(rw[e];decide))|refine yo ?_)
  exact FinW.of ⟨.tup [.agg (jvS jt0 jc0),.c (.int .i64 ((0:Nat):Int)),.c (.int .i64 6)],_,⟨[0],⟨rfl,rfl,rfl⟩,by (repeat first|exact trivial|refine ent1 ?_)⟩,.inr ⟨6,0,W,ms,by unfold parse; rw [if_pos h],by decide,Nat.zero_le _,Later.refl _ _,rfl,rfl⟩⟩
 have e:decide ((1048576:Int)<(((U8 s).length:Nat):Int))=false:=decide_eq_false (by rw [U8_len]; omega)
 have hP:parse s=match pval 8 s with
   | .bad e=>.bad e
   | .ok v r=>if blanks r=[] then .ok v [] else .bad 24:=by
  unfold parse
  rw [if_neg h]
  cases pval 8 s <;> rfl
 (repeat show _∧_;first|refine yr ?_|refine yt ?_|refine yf ?_|refine yt ?_ (by first|decide|(rw[e];decide))|refine yf ?_ (by first|decide|(rw[e];decide))|refine yo ?_)
 refine call_past (fn_value s (by omega) 8 0 rfl W ms 0 hT (Nat.zero_le _)) 0 [2] rfl rfl (by (repeat first|exact trivial|refine ent1 ?_)) (by (repeat first|exact trivial|refine ent1 ?_)) (fun _ _=>trivial) (fun x hs hr=>?_) ?_
 ·rcases hr with ⟨v,x,k',W5,ms5,_,_,_,hL5,_,_,rfl⟩|⟨e,v,x,k',W5,ms5,_,_,_,_,hL5,_,rfl⟩
  ·exact ⟨W5,ms5,rfl,hL5⟩
  ·exact ⟨W5,ms5,rfl,hL5⟩
 rintro y hs' (⟨v,x,k',W5,ms5,p1,p2,p3,hL5,hx5,rfl,rfl⟩|⟨e',v,x,k',W5,ms5,p1,p0,p2,p3,hL5,rfl,rfl⟩)
 ·rw [List.drop_zero] at p1
  rw [p1] at hP
  dsimp only at hP
  (repeat show _∧_;first|refine yr ?_|refine yt ?_|refine yf ?_|refine yo ?_)
  refine call_same (fn_blanks s k' p3 (by omega)) [2] rfl (by (repeat first|exact trivial|refine ent1 ?_)) (by (repeat first|exact trivial|refine ent1 ?_)) (fun _ _=>trivial) ?_
  rintro y hs' ⟨k2,r1,r2,r3,rfl,rfl⟩
  rw [← r3] at hP
  by_cases c:k2<s.length
  ·have f1:decide ((k2:Int)<(((U8 s).length:Nat):Int))=true:=decide_eq_true (by rw [U8_len]; omega)
   rw [if_neg (by rw [drop_cons s k2 c]; exact List.cons_ne_nil _ _)] at hP
   (repeat show _∧_;first|refine yr ?_|refine yt ?_|refine yf ?_|refine yt ?_ (by first|decide|(rw[f1];decide))|refine yf ?_ (by first|decide|(rw[f1];decide))|refine yo ?_)
   refine ⟨some [2],[],[(0,true),(1,true),(2,true),(3,true),(4,true),(5,true),(6,false),(7,true),(8,true)],[],by kernel_rfl,?_⟩
   (repeat show _∧_;first|refine yr ?_|refine yt ?_|refine yf ?_|refine yo ?_)
   exact FinW.of ⟨.tup [.agg (jvS jt0 jc0),.c (.int .i64 ((k2:Nat):Int)),.c (.int .i64 24)],_,⟨[0],⟨rfl,rfl,rfl⟩,by (repeat first|exact trivial|refine ent1 ?_)⟩,.inr ⟨24,k2,W5,ms5,hP,by decide,r2,hL5,rfl,rfl⟩⟩
  ·have f1:decide ((k2:Int)<(((U8 s).length:Nat):Int))=false:=decide_eq_false (by rw [U8_len]; omega)
   rw [if_pos (List.drop_eq_nil_of_le (by omega))] at hP
   (repeat show _∧_;first|refine yr ?_|refine yt ?_|refine yf ?_|refine yt ?_ (by first|decide|(rw[f1];decide))|refine yf ?_ (by first|decide|(rw[f1];decide))|refine yo ?_)
   exact FinW.of ⟨.tup [.agg (jvS v x),.c (.int .i64 0),.c (.int .i64 0)],_,⟨[0],⟨rfl,rfl,rfl⟩,by (repeat first|exact trivial|refine ent1 ?_)⟩,.inl ⟨v,x,W5,ms5,hP,hL5,hx5,rfl,rfl⟩⟩
 ·rw [List.drop_zero] at p1
  rw [p1] at hP
  have f1:decide (e'=0)=false:=decide_eq_false p0
  have f2:decide (e'≠0)=true:=decide_eq_true p0
  (repeat show _∧_;first|refine yr ?_|refine yt ?_|refine yf ?_|refine yt ?_ (by first|decide|(rw[f1];decide)|(rw[f2];decide))|refine yf ?_ (by first|decide|(rw[f1];decide)|(rw[f2];decide))|refine yo ?_)
  refine ⟨some [2],[],[(0,true),(1,true),(2,true),(3,true),(4,true),(5,true),(6,false),(7,true),(8,true)],[],by kernel_rfl,?_⟩
  (repeat show _∧_;first|refine yr ?_|refine yt ?_|refine yf ?_|refine yo ?_)
  exact FinW.of ⟨.tup [.agg (jvS jt0 jc0),.c (.int .i64 ((k':Nat):Int)),.c (.int .i64 e')],_,⟨[0],⟨rfl,rfl,rfl⟩,by (repeat first|exact trivial|refine ent1 ?_)⟩,.inr ⟨e',k',W5,ms5,hP,p0,p3,hL5,rfl,rfl⟩⟩
end Sx
end
section
namespace Js
open Sha
theorem qr_enc_le (r:Nat) (h:scal r):(enc r).length≤(qr r).length:=by
 unfold qr
 split
 ·rename_i h; rcases h with h|h <;> subst h <;> decide
 split
 ·rename_i h; subst h; decide
 split
 ·rename_i h; subst h; decide
 split
 ·rename_i h; subst h; decide
 split
 ·unfold enc; rw [if_pos (by omega)]; show 1≤6; decide
 ·exact Nat.le_refl _
theorem flat_le:∀ (rs:List Nat),(∀ r∈rs,scal r)→(rs.flatMap enc).length≤(rs.flatMap qr).length
 | [],_=>Nat.le_refl _
 | r::rs,h=>by
  rw [List.flatMap_cons,List.flatMap_cons,List.length_append,List.length_append]
  have h1:=qr_enc_le r (h r (List.mem_cons_self ..))
  have h2:=flat_le rs (fun x hx=>h x (List.mem_cons_of_mem _ hx))
  omega
theorem quote_len {s:Bs} (h:Utf s):s.length≤(quote s).length:=by
 obtain ⟨rs,hrs,rfl⟩:=h
 rw [quote_of hrs]
 have:=flat_le rs hrs
 simp only [List.length_cons,List.length_append,List.length_nil]
 omega
theorem putL_mem (pv:JT→Bs):∀ (l:List JT),∀ x∈l,(pv x).length≤(putL pv l).length
 | [],x,h=>absurd h (by simp)
 | [y],x,h=>by
  simp only [List.mem_singleton] at h
  subst h; exact Nat.le_refl _
 | y::z::l,x,h=>by
  show _≤(pv y++44#8::putL pv (z::l)).length
  rw [List.length_append,List.length_cons]
  rcases List.mem_cons.1 h with h|h
  ·subst h; omega
  ·have:=putL_mem pv (z::l) x h; omega
theorem putO_mem (pv:JT→Bs):∀ (ns:List Bs) (l:List JT),ns.length=l.length→(∀ x∈l,(pv x).length≤(putO pv ns l).length)∧∀ s∈ns,(quote s).length≤(putO pv ns l).length
 | [],[],_=>⟨fun x h=>absurd h (by simp),fun x h=>absurd h (by simp)⟩
 | [s],[y],_=>by
  refine ⟨fun x h=>?_,fun x h=>?_⟩
  ·simp only [List.mem_singleton] at h
   subst h
   show _≤(quote s++58#8::pv _).length
   rw [List.length_append,List.length_cons]; omega
  ·simp only [List.mem_singleton] at h
   subst h
   show _≤(quote _++58#8::pv y).length
   rw [List.length_append,List.length_cons]; omega
 | s::t::ns,y::z::l,h=>by
  obtain ⟨h1,h2⟩:=putO_mem pv (t::ns) (z::l) (by simpa using h)
  have e:putO pv (s::t::ns) (y::z::l)=quote s++58#8::(pv y++44#8::putO pv (t::ns) (z::l)):=rfl
  rw [e]
  simp only [List.length_append,List.length_cons] at h1 h2 ⊢
  refine ⟨fun x h=>?_,fun x h=>?_⟩
  ·rcases List.mem_cons.1 h with h|h
   ·subst h; omega
   ·have:=h1 x h; omega
  ·rcases List.mem_cons.1 h with h|h
   ·subst h; omega
   ·have:=h2 x h; omega
end Js
namespace Sx
open Go.RowKit Sha Vi Js

theorem fn_put:∀ d,PutC d
 | 0=>fun W ms v x b c hT hx hn hc hl=>fn_put1 0 (fun d' e=>by cases e) b c hT hx hn hc hl
 | d+1=>fun W ms v x b c hT hx hn hc hl=>fn_put1 (d+1) (fun d' e=>by injection e with e; subst e; exact fn_put d) b c hT hx hn hc hl
theorem fn_putN (d:Nat) {W:World} {ms:List Nat} {v:JT} {x:JC} (hT:Tabs W ms) (hx:TAt W ms d v x) (hn:norm d v) (hl:(put d v).length≤70368744177664) :
  FnR Tryd.prog tds 45 1 [[.past W ms]] [.agg (jvS v x),.c (.slc none 0 0)] (fun _=>True)
  (fun y hs=>∃ c',(put d v).length≤c'∧y=.a (.c (.sl 1 0 0 (put d v).length c'))∧hs=[[.past W ms],lsC (put d v) c']):=fn_put0 d (fun d' _=>fn_put d') hT hx hn hl
set_option maxRecDepth 20000 in
set_option maxHeartbeats 8000000 in
theorem fn_jnames {W:World} {ms:List Nat} (hT:Tabs W ms) {a:Option Addr} {m c:Nat} {ns:List Bs} (h:StAt W ms a m c (ns.map U8)) (hu:∀ s∈ns,Utf s) (hnd:ns.Nodup) (hl:∀ s∈ns,s.length≤9223372036854775807) :
  FnR Tryd.prog tds 66 1 [[.past W ms]] [.c (.slc a m c)] (fun _=>True) (fun y hs=>y=.a (.c (.int .i64 0))∧hs=[[.past W ms]]):=by
 refine fn_of_body tds_ok follows_ Tryd.func66 rfl (t:=.a (.c (.slc a m c))::anys (Tryd.f66.ntmps-1)) rfl (fun w r0 hr0 _=>?_)
 obtain ⟨x0,rfl⟩:=len1' hr0
 have hm:ns.length=m:=by have h1:=h.len; simp only [List.length_map] at h1; omega
 have hcap:=h.cap
 by_cases h0:m=0
 ·have e0:decide ((m:Int)=0)=true:=decide_eq_true (by omega)
  (repeat show _∧_;first|refine yr ?_|refine yt ?_|refine yf ?_|refine yt ?_ (by first|decide|(rw[e0];decide))|refine yf ?_ (by first|decide|(rw[e0];decide))|refine yo ?_)
  exact ⟨.a (.c (.int .i64 0)),_,⟨[0],⟨rfl,rfl,rfl⟩,by (repeat first|exact trivial|refine ent1 ?_)⟩,rfl,rfl⟩
 have e0:decide ((m:Int)=0)=false:=decide_eq_false (by omega)
 (repeat show _∧_;first|refine yr ?_|refine yt ?_|refine yf ?_|refine yt ?_ (by first|decide|(rw[e0];decide))|refine yf ?_ (by first|decide|(rw[e0];decide))|refine yo ?_)
 refine And.intro trivial ?_
 (repeat show _∧_;first|refine yr ?_|refine yt ?_|refine yf ?_|refine yo ?_)
 refine .inl ⟨Nat,fun j=>⟨[.a (.c (.slc a m c)),.any,.a (.c (.int .i64 (0))),.a (.c (.mh 1)),.any,.any,.any,.any,.any,.any,.any,.any,.any,.any,.a (.c (.slc a m c)),.a (.c (.int .i64 (m))),.a (.c (.int .i64 (((j:Nat):Int)))),.any,.any,.any,.any,.any,.any,.any,.any,.any,.any,.any,.any,.any,.any,.any,.any,.any],[[.past W ms],hadC (ns.take j)]⟩,
  fun j=>j≤ns.length,fun j=>ns.length-j,⟨0,[0,1],⟨⟨rfl,rfl,rfl⟩,by (repeat first|exact trivial|refine ent1 ?_)⟩,Nat.zero_le _⟩,fun j hj0=>?_⟩
 by_cases hj:j<ns.length
 rotate_left
 ·have e1:decide ((j:Int)<(m:Int))=false:=decide_eq_false (by omega)
  (repeat show _∧_;first|refine yr ?_|refine yt ?_|refine yf ?_|refine yt ?_ (by first|decide|(rw[e1];decide))|refine yf ?_ (by first|decide|(rw[e1];decide))|refine yo ?_)
  exact ⟨.a (.c (.int .i64 0)),_,⟨[0],⟨rfl,rfl,rfl⟩,by (repeat first|exact trivial|refine ent1 ?_)⟩,rfl,rfl⟩
 have e1:decide ((j:Int)<(m:Int))=true:=decide_eq_true (by omega)
 obtain ⟨A,rfl⟩:∃ A,a=some A:=by
  cases a with
  | none=>exact absurd (h.nil rfl) (by have:=h.le; omega)
  | some A=>exact ⟨A,rfl⟩
 have him:=(h.im A rfl (by have:=h.le; omega)).one (show ((ns.map U8).map SC.str)[j]?=some (.str (U8 ns[j])) by simp [hj])
 (repeat show _∧_;first|refine yr ?_|refine yt ?_|refine yf ?_|refine yt ?_ (by first|decide|(rw[e1];decide))|refine yf ?_ (by first|decide|(rw[e1];decide))|refine yo ?_)
 refine ⟨[.one (.str (U8 ns[j]))],⟨.past (i:=0) rfl (by show ImAt W ms (A.add (j*1)) _; rw [Nat.mul_one]; exact him),rfl⟩,?_⟩
 (repeat show _∧_;first|refine yr ?_|refine yt ?_|refine yf ?_|refine yo ?_)
 refine call_same (fn_valid hT (hu _ (List.getElem_mem hj)) (hl _ (List.getElem_mem hj))) [0] rfl (by exact And.intro rfl trivial) (by (repeat first|exact trivial|refine ent1 ?_)) (fun _ _=>trivial) ?_
 rintro y hs ⟨rfl,rfl⟩
 have hni:ns[j] ∉ ns.take j:=by
  intro hc
  obtain ⟨i,hi,he⟩:=List.mem_iff_getElem.1 hc
  rw [List.length_take] at hi
  rw [List.getElem_take] at he
  exact List.pairwise_iff_getElem.1 hnd i j (by omega) hj (by omega) he
 have hh:=hasS_U8 ns[j] (ns.take j)
 rw [decide_eq_false hni] at hh
 have hput:putL' (U8 ns[j]) ((ns.take j).map U8)=(ns.take (j+1)).map U8:=by
  unfold putL'; rw [hh,List.take_add_one,List.getElem?_eq_getElem hj,Option.toList_some,List.map_append]; rfl
 (repeat show _∧_;first|refine yr ?_|refine yt ?_|refine yf ?_|refine yt ?_ (by first|decide|(rw[hh];decide))|refine yf ?_ (by first|decide|(rw[hh];decide))|refine yo ?_)
 rw [hput]
 refine ⟨j+1,[0,1],⟨⟨rfl,rfl,rfl⟩,?_⟩,hj,by dsimp only; omega⟩
 (repeat first|exact trivial|refine ent1 ?_)
def ChkC (d depth:Nat):Prop:=∀ (W:World) (ms:List Nat) (v:JT) (x:JC),Tabs W ms→TAt W ms d v x→norm d v→(put d v).length≤70368744177664 →
 FnR Tryd.prog tds 46 1 [[.past W ms],[.one (.slc none 0 0)]] [.c (.p 1 0 0),.agg (jvS v x),.c (.int .i64 (depth:Int))] (fun _=>True) (fun y hs=>y=.a (.c (.int .i64 0))∧hs=[[.past W ms],[.one (.slc none 0 0)]])
theorem fn_nests (k:BitVec 8):Fn Tryd.prog tds 64 [] [.c (.w8 k)] (fun _=>True) (fun y hs=>y=.a (.c (.bool (decide (k=5#8∨k=6#8))))∧hs=[]):=by
 refine fn_of_body tds_ok follows_ Tryd.func64 rfl (t:=.a (.c (.w8 k))::anys (Tryd.f64.ntmps-1)) rfl (fun w r0 hr0 _=>?_)
 obtain rfl:r0=[]:=List.eq_nil_of_length_eq_zero hr0
 by_cases h5:k=5#8
 ·have e5:decide (k=5#8)=true:=decide_eq_true h5
  rw [decide_eq_true (Or.inl h5)]
  (repeat show _∧_;first|refine yr ?_|refine yt ?_|refine yf ?_|refine yt ?_ (by first|decide|(rw[e5];decide))|refine yf ?_ (by first|decide|(rw[e5];decide))|refine yo ?_)
  exact ⟨.a (.c (.bool true)),_,⟨[],⟨rfl,rfl,rfl⟩,by (repeat first|exact trivial|refine ent1 ?_)⟩,rfl,rfl⟩
 have e5:decide (k=5#8)=false:=decide_eq_false h5
 have e6:decide (k=5#8∨k=6#8)=decide (k=6#8):=decide_eq_decide.2 ⟨fun h=>h.resolve_left h5,.inr⟩
 rw [e6]
 (repeat show _∧_;first|refine yr ?_|refine yt ?_|refine yf ?_|refine yt ?_ (by first|decide|(rw[e5];decide))|refine yf ?_ (by first|decide|(rw[e5];decide))|refine yo ?_)
 exact ⟨.a (.c (.bool (decide (k=6#8)))),_,⟨[],⟨rfl,rfl,rfl⟩,by (repeat first|exact trivial|refine ent1 ?_)⟩,rfl,rfl⟩
set_option maxRecDepth 20000 in
set_option maxHeartbeats 16000000 in
theorem fn_chk1 (d depth:Nat) (hdd:depth+d≤8) (hrec:∀ d',d=d'+1→ChkC d' (depth+1)):ChkC d depth:=by
 intro W ms v x hT hx hn hl
 refine fn_of_body tds_ok follows_ Tryd.func46 rfl (t:=.a (.c (.p 1 0 0))::.a (.agg (jvS v x))::.a (.c (.int .i64 (depth:Int)))::anys (Tryd.f46.ntmps-3)) rfl (fun w r0 hr0 _=>?_)
 obtain ⟨x0,x1,rfl⟩:=len2' hr0
 have hk6:v.k.toNat≤6:=by
  cases d with
  | zero=>have:=hn.2.2.2.2.1; omega
  | succ d =>
   rcases hn with hlf|⟨_,_,_,h5|h6⟩
   ·have:=hlf.2.2.2.2.1; omega
   ·rw [h5.1]; decide
   ·rw [h6.1]; decide
 have hU:Utf v.s:=by
  cases d with
  | zero=>exact hn.2.2.2.2.2
  | succ d =>
   rcases hn with hlf|⟨_,h2,_⟩
   ·exact hlf.2.2.2.2.2
   ·rw [h2]; exact ⟨[],by simp,rfl⟩
 have f0:decide (6#8<v.k)=false:=decide_eq_false (by rw [BitVec.lt_def]; show ¬ 6<v.k.toNat; omega)
 have hsl:v.s.length≤9223372036854775807:=by
  have h1:v.k=4#8∨v.s=[]:=by
   cases d with
   | zero=>exact hn.2.2.2.1
   | succ d =>
    rcases hn with hlf|⟨_,h2,_⟩
    ·exact hlf.2.2.2.1
    ·exact .inr h2
  rcases h1 with h1|h1
  ·have h2:put d v=quote v.s:=by cases d <;> (unfold put put1; rw [if_neg (by rw [h1]; decide),if_neg (by rw [h1]; decide),if_neg (by rw [h1]; decide),if_neg (by rw [h1]; decide),if_pos h1])
   have h3:=quote_len hU
   rw [h2] at hl; omega
  ·rw [h1]; exact Nat.zero_le _
 have hxl:=hx.len
 have hxn:=hx.ns
 by_cases kn:v.k=5#8∨v.k=6#8
 rotate_left
 ·have en:decide (v.k=5#8∨v.k=6#8)=false:=decide_eq_false kn
  have e6:decide (v.k=6#8)=false:=decide_eq_false fun h=>kn (.inr h)
  have hlf:leaf v:=by
   cases d with
   | zero=>exact hn
   | succ d =>
    rcases hn with hlf|⟨_,_,_,h5|h6⟩
    ·exact hlf
    ·exact absurd (.inl h5.1) kn
    ·exact absurd (.inr h6.1) kn
  have em:decide ((x.m:Int)=0)=true:=decide_eq_true (by rw [hlf.1] at hxl; simp at hxl; omega)
  (repeat show _∧_;first|refine yr ?_|refine yt ?_|refine yf ?_|refine yt ?_ (by first|decide|(rw[f0];decide))|refine yf ?_ (by first|decide|(rw[f0];decide))|refine yo ?_)
  refine call_same (fn_nests v.k) [] rfl (by exact And.intro rfl trivial) trivial (fun _ _=>trivial) ?_
  rintro y hs ⟨rfl,rfl⟩
  (repeat show _∧_;first|refine yr ?_|refine yt ?_|refine yf ?_|refine yt ?_ (by first|decide|(rw[en];decide))|refine yf ?_ (by first|decide|(rw[en];decide))|refine yo ?_)
  refine call_same (fn_valid hT hU hsl) [0] rfl (by exact And.intro rfl trivial) (by (repeat first|exact trivial|refine ent1 ?_)) (fun _ _=>trivial) ?_
  rintro y hs ⟨rfl,rfl⟩
  (repeat show _∧_;first|refine yr ?_|refine yt ?_|refine yf ?_|refine yt ?_ (by first|decide|(rw[e6];decide))|refine yf ?_ (by first|decide|(rw[e6];decide))|refine yo ?_)
  refine call_same (fn_jnames hT hxn (by rw [hlf.2.1]; simp) (by rw [hlf.2.1]; simp) (by rw [hlf.2.1]; simp)) [0] rfl (by exact And.intro rfl trivial) (by (repeat first|exact trivial|refine ent1 ?_)) (fun _ _=>trivial) ?_
  rintro y hs ⟨rfl,rfl⟩
  (repeat show _∧_;first|refine yr ?_|refine yt ?_|refine yf ?_|refine yt ?_ (by first|decide|(rw[em];decide))|refine yf ?_ (by first|decide|(rw[em];decide))|refine yo ?_)
  exact ⟨.a (.c (.int .i64 0)),_,⟨[0,1],⟨rfl,rfl,rfl⟩,by (repeat first|exact trivial|refine ent1 ?_)⟩,rfl,rfl⟩
 have en:decide (v.k=5#8∨v.k=6#8)=true:=decide_eq_true kn
 obtain ⟨d',rfl,hv3,hk⟩:∃ d',d=d'+1∧(∀ x∈v.l,norm d' x)∧((v.k=5#8∧v.ns=[])∨(v.k=6#8∧v.ns.length=v.l.length∧v.ns.Nodup∧∀ s∈v.ns,Utf s)):=by
  have hno:¬ leaf v:=fun hlf=>by
   have:=hlf.2.2.2.2.1
   rcases kn with h|h <;> rw [h] at this <;> exact absurd this (by decide)
  cases d with
  | zero=>exact absurd hn hno
  | succ d=>exact ⟨d,rfl,(hn.resolve_left hno).2.2⟩
 have hput:(∀ x∈v.l,(put d' x).length≤70368744177664)∧∀ s∈v.ns,s.length≤9223372036854775807:=by
  rcases hk with ⟨h5,h6⟩|⟨h6,hnl,_,hu⟩
  ·have h2:put (d'+1) v=91#8::(putL (put d') v.l++[93#8])  :=by show put1 _ _ v=_; unfold put1; rw [if_neg (by rw [h5]; decide),if_neg (by rw [h5]; decide),if_neg (by rw [h5]; decide),if_neg (by rw [h5]; decide),if_neg (by rw [h5]; decide),if_pos h5]
   rw [h2] at hl
   simp only [List.length_cons,List.length_append,List.length_nil] at hl
   exact ⟨fun x hx=>by have:=Js.putL_mem (put d') v.l x hx; omega,by rw [h6]; simp⟩
  ·have h2:put (d'+1) v=123#8::(putO (put d') v.ns v.l++[125#8])  :=by show put1 _ _ v=_; unfold put1; rw [if_neg (by rw [h6]; decide),if_neg (by rw [h6]; decide),if_neg (by rw [h6]; decide),if_neg (by rw [h6]; decide),if_neg (by rw [h6]; decide),if_neg (by rw [h6]; decide)]
   rw [h2] at hl
   simp only [List.length_cons,List.length_append,List.length_nil] at hl
   obtain ⟨q1,q2⟩:=putO_mem (put d') v.ns v.l hnl
   exact ⟨fun x hx=>by have:=q1 x hx; omega,fun s hs=>by have:=q2 s hs; have:=quote_len (hu s hs); omega⟩
 obtain ⟨hput,hnlen⟩:=hput
 have hnu:∀ s∈v.ns,Utf s:=by
  rcases hk with ⟨_,h6⟩|⟨_,_,_,hu⟩
  ·rw [h6]; simp
  ·exact hu
 have hnd:v.ns.Nodup:=by
  rcases hk with ⟨_,h6⟩|⟨_,_,hd,_⟩
  ·rw [h6]; simp
  ·exact hd
 have e8:decide ((8:Int)≤(depth:Int))=false:=decide_eq_false (by omega)
 obtain ⟨⟨g1,g2,g3,g4,g5⟩,hns⟩:=hx
 obtain ⟨xa,xm,xc,xb,xp,xq⟩:=x
 dsimp only at g1 g2 g3 g4 g5 hns
 have e6:(decide (v.k=6#8)=true∧decide ((xp:Int)≠(xm:Int))=false)∨decide (v.k=6#8)=false:=by
  rcases hk with ⟨h5,_⟩|⟨h6,hnl,_⟩
  ·exact .inr (decide_eq_false (by rw [h5]; decide))
  ·refine .inl ⟨decide_eq_true h6,decide_eq_false (not_not_intro ?_)⟩
   have h1:=hns.len
   simp only [List.length_map] at h1
   omega
 (repeat show _∧_;first|refine yr ?_|refine yt ?_|refine yf ?_|refine yt ?_ (by first|decide|(rw[f0];decide))|refine yf ?_ (by first|decide|(rw[f0];decide))|refine yo ?_)
 refine call_same (fn_nests v.k) [] rfl (by exact And.intro rfl trivial) trivial (fun _ _=>trivial) ?_
 rintro y hs ⟨rfl,rfl⟩
 (repeat show _∧_;first|refine yr ?_|refine yt ?_|refine yf ?_|refine yt ?_ (by first|decide|(rw[en];decide)|(rw[e8];decide))|refine yf ?_ (by first|decide|(rw[en];decide)|(rw[e8];decide))|refine yo ?_)
 refine call_same (fn_valid hT hU hsl) [0] rfl (by exact And.intro rfl trivial) (by (repeat first|exact trivial|refine ent1 ?_)) (fun _ _=>trivial) ?_
 rintro y hs ⟨rfl,rfl⟩
 rcases e6 with ⟨e6,e7⟩|e6
 ·(repeat show _∧_;first|refine yr ?_|refine yt ?_|refine yf ?_|refine yt ?_ (by first|decide|(rw[e6];decide)|(rw[e7];decide))|refine yf ?_ (by first|decide|(rw[e6];decide)|(rw[e7];decide))|refine yo ?_)
  refine call_same (fn_jnames hT hns hnu hnd hnlen) [0] rfl (by exact And.intro rfl trivial) (by (repeat first|exact trivial|refine ent1 ?_)) (fun _ _=>trivial) ?_
  rintro y hs ⟨rfl,rfl⟩
  by_cases hm0:xm=0
  ·have em:decide ((xm:Int)=0)=true:=decide_eq_true (by omega)
   (repeat show _∧_;first|refine yr ?_|refine yt ?_|refine yf ?_|refine yt ?_ (by first|decide|(rw[em];decide))|refine yf ?_ (by first|decide|(rw[em];decide))|refine yo ?_)
   exact ⟨.a (.c (.int .i64 0)),_,⟨[0,1],⟨rfl,rfl,rfl⟩,by (repeat first|exact trivial|refine ent1 ?_)⟩,rfl,rfl⟩
  have em:decide ((xm:Int)=0)=false:=decide_eq_false (by omega)
  (repeat show _∧_;first|refine yr ?_|refine yt ?_|refine yf ?_|refine yt ?_ (by first|decide|(rw[em];decide))|refine yf ?_ (by first|decide|(rw[em];decide))|refine yo ?_)
  refine call_same (fn_nests v.k) [] rfl (by exact And.intro rfl trivial) trivial (fun _ _=>trivial) ?_
  rintro y hs ⟨rfl,rfl⟩
  (repeat show _∧_;first|refine yr ?_|refine yt ?_|refine yf ?_|refine yt ?_ (by first|decide|(rw[en];decide))|refine yf ?_ (by first|decide|(rw[en];decide))|refine yo ?_)
  refine .inl ⟨Nat,fun j=>⟨[.a (.c (.p 1 0 0)),.any,.a (.c (.int .i64 ((((depth+1:Nat)):Int)))),.any,.any,.any,.a (.c (.int .i64 (0))),.any,.any,.any,.any,.any,.any,.any,.any,.any,.any,.any,.any,.any,.any,.any,.any,.any,.any,.any,.any,.any,.any,.any,.any,.any,.any,.any,.any,.any,.any,.any,.any,.any,.any,.any,.any,.any,.any,.any,.any,.any,.any,.any,.any,.any,.any,.any,.any,.any,.any,.any,.any,.any,.any,.any,.any,.any,.any,.any,.any,.any,.any,.any,.any,.any,.any,.any,.any,.any,.any,.any,.any,.any,.any,.any,.a (.c (.slc xa xm xc)),.a (.c (.int .i64 (xm))),.a (.c (.int .i64 (((j:Nat):Int)))),.any,.any,.any,.any,.any,.any,.any,.any,.any,.any,.any],[[.past W ms],[.one (.slc none 0 0)]]⟩,
   fun j=>j≤v.l.length,fun j=>v.l.length-j,⟨0,[0,1],⟨⟨rfl,rfl,rfl⟩,?_⟩,Nat.zero_le _⟩,fun j hj0=>?_⟩
  ·(repeat first|exact trivial|refine ent1 ?_)
  by_cases hj:j<v.l.length
  rotate_left
  ·have e1:decide ((j:Int)<(xm:Int))=false:=decide_eq_false (by omega)
   (repeat show _∧_;first|refine yr ?_|refine yt ?_|refine yf ?_|refine yt ?_ (by first|decide|(rw[e1];decide))|refine yf ?_ (by first|decide|(rw[e1];decide))|refine yo ?_)
   exact ⟨.a (.c (.int .i64 0)),_,⟨[0,1],⟨rfl,rfl,rfl⟩,by (repeat first|exact trivial|refine ent1 ?_)⟩,rfl,rfl⟩
  have e1:decide ((j:Int)<(xm:Int))=true:=decide_eq_true (by omega)
  obtain ⟨A,rfl⟩:∃ A,xa=some A:=by
   cases xa with
   | none=>exact absurd (g4 rfl) (by omega)
   | some A=>exact ⟨A,rfl⟩
  obtain ⟨y,y1,y2⟩:=(g5 A rfl (by omega)).2 j v.l[j] (List.getElem?_eq_getElem hj)
  (repeat show _∧_;first|refine yr ?_|refine yt ?_|refine yf ?_|refine yt ?_ (by first|decide|(rw[e1];decide))|refine yf ?_ (by first|decide|(rw[e1];decide))|refine yo ?_)
  refine ⟨jvS v.l[j] y,⟨.past (i:=0) rfl (by exact y1),rfl⟩,?_⟩
  (repeat show _∧_;first|refine yr ?_|refine yt ?_|refine yf ?_|refine yo ?_)
  refine call_same (hrec d' rfl W ms v.l[j] y hT y2 (hv3 _ (List.getElem_mem hj)) (hput _ (List.getElem_mem hj))) [0,1] rfl (by (repeat first|exact trivial|refine ent1 ?_)) (by (repeat first|exact trivial|refine ent1 ?_)) (fun _ _=>trivial) ?_
  rintro y' hs ⟨rfl,rfl⟩
  (repeat show _∧_;first|refine yr ?_|refine yt ?_|refine yf ?_|refine yo ?_)
  refine ⟨j+1,[0,1],⟨⟨rfl,rfl,rfl⟩,?_⟩,hj,by dsimp only; omega⟩
  (repeat first|exact trivial|refine ent1 ?_)
 ·(repeat show _∧_;first|refine yr ?_|refine yt ?_|refine yf ?_|refine yt ?_ (by first|decide|(rw[e6];decide))|refine yf ?_ (by first|decide|(rw[e6];decide))|refine yo ?_)
  refine call_same (fn_jnames hT hns hnu hnd hnlen) [0] rfl (by exact And.intro rfl trivial) (by (repeat first|exact trivial|refine ent1 ?_)) (fun _ _=>trivial) ?_
  rintro y hs ⟨rfl,rfl⟩
  by_cases hm0:xm=0
  ·have em:decide ((xm:Int)=0)=true:=decide_eq_true (by omega)
   (repeat show _∧_;first|refine yr ?_|refine yt ?_|refine yf ?_|refine yt ?_ (by first|decide|(rw[em];decide))|refine yf ?_ (by first|decide|(rw[em];decide))|refine yo ?_)
   exact ⟨.a (.c (.int .i64 0)),_,⟨[0,1],⟨rfl,rfl,rfl⟩,by (repeat first|exact trivial|refine ent1 ?_)⟩,rfl,rfl⟩
  have em:decide ((xm:Int)=0)=false:=decide_eq_false (by omega)
  (repeat show _∧_;first|refine yr ?_|refine yt ?_|refine yf ?_|refine yt ?_ (by first|decide|(rw[em];decide))|refine yf ?_ (by first|decide|(rw[em];decide))|refine yo ?_)
  refine call_same (fn_nests v.k) [] rfl (by exact And.intro rfl trivial) trivial (fun _ _=>trivial) ?_
  rintro y hs ⟨rfl,rfl⟩
  (repeat show _∧_;first|refine yr ?_|refine yt ?_|refine yf ?_|refine yt ?_ (by first|decide|(rw[en];decide))|refine yf ?_ (by first|decide|(rw[en];decide))|refine yo ?_)
  refine .inl ⟨Nat,fun j=>⟨[.a (.c (.p 1 0 0)),.any,.a (.c (.int .i64 ((((depth+1:Nat)):Int)))),.any,.any,.any,.a (.c (.int .i64 (0))),.any,.any,.any,.any,.any,.any,.any,.any,.any,.any,.any,.any,.any,.any,.any,.any,.any,.any,.any,.any,.any,.any,.any,.any,.any,.any,.any,.any,.any,.any,.any,.any,.any,.any,.any,.any,.any,.any,.any,.any,.any,.any,.any,.any,.any,.any,.any,.any,.any,.any,.any,.any,.any,.any,.any,.any,.any,.any,.any,.any,.any,.any,.any,.any,.any,.any,.any,.any,.any,.any,.any,.any,.any,.any,.any,.a (.c (.slc xa xm xc)),.a (.c (.int .i64 (xm))),.a (.c (.int .i64 (((j:Nat):Int)))),.any,.any,.any,.any,.any,.any,.any,.any,.any,.any,.any],[[.past W ms],[.one (.slc none 0 0)]]⟩,
   fun j=>j≤v.l.length,fun j=>v.l.length-j,⟨0,[0,1],⟨⟨rfl,rfl,rfl⟩,?_⟩,Nat.zero_le _⟩,fun j hj0=>?_⟩
  ·(repeat first|exact trivial|refine ent1 ?_)
  by_cases hj:j<v.l.length
  rotate_left
  ·have e1:decide ((j:Int)<(xm:Int))=false:=decide_eq_false (by omega)
   (repeat show _∧_;first|refine yr ?_|refine yt ?_|refine yf ?_|refine yt ?_ (by first|decide|(rw[e1];decide))|refine yf ?_ (by first|decide|(rw[e1];decide))|refine yo ?_)
   exact ⟨.a (.c (.int .i64 0)),_,⟨[0,1],⟨rfl,rfl,rfl⟩,by (repeat first|exact trivial|refine ent1 ?_)⟩,rfl,rfl⟩
  have e1:decide ((j:Int)<(xm:Int))=true:=decide_eq_true (by omega)
  obtain ⟨A,rfl⟩:∃ A,xa=some A:=by
   cases xa with
   | none=>exact absurd (g4 rfl) (by omega)
   | some A=>exact ⟨A,rfl⟩
  obtain ⟨y,y1,y2⟩:=(g5 A rfl (by omega)).2 j v.l[j] (List.getElem?_eq_getElem hj)
  (repeat show _∧_;first|refine yr ?_|refine yt ?_|refine yf ?_|refine yt ?_ (by first|decide|(rw[e1];decide))|refine yf ?_ (by first|decide|(rw[e1];decide))|refine yo ?_)
  refine ⟨jvS v.l[j] y,⟨.past (i:=0) rfl (by exact y1),rfl⟩,?_⟩
  (repeat show _∧_;first|refine yr ?_|refine yt ?_|refine yf ?_|refine yo ?_)
  refine call_same (hrec d' rfl W ms v.l[j] y hT y2 (hv3 _ (List.getElem_mem hj)) (hput _ (List.getElem_mem hj))) [0,1] rfl (by (repeat first|exact trivial|refine ent1 ?_)) (by (repeat first|exact trivial|refine ent1 ?_)) (fun _ _=>trivial) ?_
  rintro y' hs ⟨rfl,rfl⟩
  (repeat show _∧_;first|refine yr ?_|refine yt ?_|refine yf ?_|refine yo ?_)
  refine ⟨j+1,[0,1],⟨⟨rfl,rfl,rfl⟩,?_⟩,hj,by dsimp only; omega⟩
  (repeat first|exact trivial|refine ent1 ?_)
end Sx
end
section
namespace Sx
open Go.RowKit Sha Vi Js

theorem fn_chk:∀ (d depth:Nat),depth+d≤8→ChkC d depth
 | 0,depth,h=>fn_chk1 0 depth h (fun d' e=>by cases e)
 | d+1,depth,h=>fn_chk1 (d+1) depth h (fun d' e=>by
  injection e with e
  subst e
  exact fn_chk d (depth+1) (by omega))
set_option maxRecDepth 20000 in
theorem fn_check {d:Nat} (hd:d≤8) {W:World} {ms:List Nat} {v:JT} {x:JC} (hT:Tabs W ms) (hx:TAt W ms d v x) (hn:norm d v) (hl:(put d v).length≤70368744177664) :
  FnR Tryd.prog tds 20 1 [[.past W ms]] [.agg (jvS v x)] (fun _=>True) (fun y hs=>y=.a (.c (.int .i64 0))∧hs=[[.past W ms]]):=by
 refine fn_of_body tds_ok follows_ Tryd.func20 rfl (t:=.a (.agg (jvS v x))::anys (Tryd.f20.ntmps-1)) rfl (fun w r0 hr0 _=>?_)
 obtain ⟨x0,rfl⟩:=len1' hr0
 (repeat show _∧_;first|refine yr ?_|refine yt ?_|refine yf ?_|refine yo ?_)
 refine call_same (fn_chk d 0 (by omega) W ms v x hT hx hn hl) [0,2] rfl (by (repeat first|exact trivial|refine ent1 ?_)) (by (repeat first|exact trivial|refine ent1 ?_)) (fun _ _=>trivial) ?_
 rintro y hs ⟨rfl,rfl⟩
 exact ⟨.a (.c (.int .i64 0)),_,⟨[0],⟨rfl,rfl,rfl⟩,by (repeat first|exact trivial|refine ent1 ?_)⟩,rfl,rfl⟩
set_option maxRecDepth 20000 in
theorem fn_print {d:Nat} (hd:d≤8) {W:World} {ms:List Nat} {v:JT} {x:JC} (hT:Tabs W ms) (hx:TAt W ms d v x) (hn:norm d v) (hl:(put d v).length≤70368744177664) :
  FnR Tryd.prog tds 19 1 [[.past W ms]] [.agg (jvS v x)] (fun _=>True) (fun y hs=>y=.tup [.c (.str (U8 (put d v))),.c (.int .i64 0)]∧hs=[[.past W ms]]):=by
 refine fn_of_body tds_ok follows_ Tryd.func19 rfl (t:=.a (.agg (jvS v x))::anys (Tryd.f19.ntmps-1)) rfl (fun w r0 hr0 _=>?_)
 obtain ⟨x0,rfl⟩:=len1' hr0
 (repeat show _∧_;first|refine yr ?_|refine yt ?_|refine yf ?_|refine yo ?_)
 refine call_same (fn_check hd hT hx hn hl) [0] rfl (by (repeat first|exact trivial|refine ent1 ?_)) (by (repeat first|exact trivial|refine ent1 ?_)) (fun _ _=>trivial) ?_
 rintro y hs ⟨rfl,rfl⟩
 (repeat show _∧_;first|refine yr ?_|refine yt ?_|refine yf ?_|refine yo ?_)
 refine call_same (fn_putN d hT hx hn hl) [0] rfl (by (repeat first|exact trivial|refine ent1 ?_)) (by (repeat first|exact trivial|refine ent1 ?_)) (fun _ _=>trivial) ?_
 rintro y hs ⟨c',hc',rfl,rfl⟩
 (repeat show _∧_;first|refine yr ?_|refine yt ?_|refine yf ?_|refine yo ?_)
 refine And.intro (by simp only [scale]; omega) ?_
 refine ⟨U8 (put d v),⟨U8_len _,fun q hq=>by show SC.mp _ (bytesF (put d v).length (L (put d v)) (q+0))=_; rw [Nat.add_zero,bytesF_lt hq,U8_get _ q hq]; rfl⟩,?_⟩
 exact ⟨.tup [.c (.str (U8 (put d v))),.c (.int .i64 0)],_,⟨[0],⟨rfl,rfl,rfl⟩,by (repeat first|exact trivial|refine ent1 ?_)⟩,rfl,rfl⟩
end Sx
end
section
namespace Sx
open Go.RowKit Sha Vi Js

theorem StAt.elt {W:World} {ms:List Nat} {a:Option Addr} {m c:Nat} {ns:List Bs} (h:StAt W ms a m c (ns.map U8)) {j:Nat} (hj:j<ns.length):∃ A,a=some A∧ImAt W ms (A.add (j*1)) [.str (U8 ns[j])]:=by
 have h1:=h.len
 simp only [List.length_map] at h1
 have h2:=h.le
 cases a with
 | none=>exact absurd (h.nil rfl) (by omega)
 | some A=>exact ⟨A,rfl,by rw [Nat.mul_one]; exact (h.im A rfl (by omega)).one (by simp [hj])⟩
end Sx
end
section
namespace Sx
open Go.RowKit Sha Vi Js Ev Qj

theorem fn_qnum (n:BitVec 64):Fn Tryd.prog tds 32 [] [.c (.w64 n)] (fun _=>True) (fun y hs=>y=.a (.agg (jvS (tNum n) jc0))∧hs=[]):=by
 refine fn_of_body tds_ok follows_ Tryd.func32 rfl (t:=.a (.c (.w64 n))::anys (Tryd.f32.ntmps-1)) rfl (fun w r0 hr0 _=>?_)
 obtain rfl:r0=[]:=List.eq_nil_of_length_eq_zero hr0
 (repeat show _∧_;first|refine yr ?_|refine yt ?_|refine yf ?_|refine yo ?_)
 exact ⟨.a (.agg (jvS (tNum n) jc0)),_,⟨[],⟨rfl,rfl,rfl⟩,by (repeat first|exact trivial|refine ent1 ?_)⟩,rfl,rfl⟩
theorem fn_qtext (s:Bs):Fn Tryd.prog tds 34 [] [.c (.str (U8 s))] (fun _=>True) (fun y hs=>y=.a (.agg (jvS (tText s) jc0))∧hs=[]):=by
 refine fn_of_body tds_ok follows_ Tryd.func34 rfl (t:=.a (.c (.str (U8 s)))::anys (Tryd.f34.ntmps-1)) rfl (fun w r0 hr0 _=>?_)
 obtain rfl:r0=[]:=List.eq_nil_of_length_eq_zero hr0
 (repeat show _∧_;first|refine yr ?_|refine yt ?_|refine yf ?_|refine yo ?_)
 exact ⟨.a (.agg (jvS (tText s) jc0)),_,⟨[],⟨rfl,rfl,rfl⟩,by (repeat first|exact trivial|refine ent1 ?_)⟩,rfl,rfl⟩
set_option maxRecDepth 20000 in
theorem fn_qdigit (c:BitVec 8):Fn Tryd.prog tds 68 [] [.c (.w8 c)] (fun _=>True) (fun y hs=>y=.tup [.c (.w8 ((dig1 c).getD 0#8)),.c (.bool (dig1 c).isSome)]∧hs=[]):=by
 refine fn_of_body tds_ok follows_ Tryd.func68 rfl (t:=.a (.c (.w8 c))::anys (Tryd.f68.ntmps-1)) rfl (fun w r0 hr0 _=>?_)
 obtain rfl:r0=[]:=List.eq_nil_of_length_eq_zero hr0
 by_cases h1:48≤c.toNat∧c.toNat≤57
 ·have e1:decide (48#8≤c)=true:=decide_eq_true h1.1
  have e2:decide (c≤57#8)=true:=decide_eq_true h1.2
  have hd:dig1 c=some (c-48#8):=by unfold dig1; rw [if_pos h1]
  rw [hd]
  (repeat show _∧_;first|refine yr ?_|refine yt ?_|refine yf ?_|refine yt ?_ (by first|decide|(rw[e1];decide)|(rw[e2];decide))|refine yf ?_ (by first|decide|(rw[e1];decide)|(rw[e2];decide))|refine yo ?_)
  exact ⟨.tup [.c (.w8 (c-48#8)),.c (.bool true)],_,⟨[],⟨rfl,rfl,rfl⟩,by (repeat first|exact trivial|refine ent1 ?_)⟩,rfl,rfl⟩
 have hF:∀ {P:Prop},((decide (48#8≤c)=true∧decide (c≤57#8)=false)∨decide (48#8≤c)=false→P)→P:=fun k=>k (by
  by_cases h:48#8≤c
  ·exact .inl ⟨decide_eq_true h,decide_eq_false fun h2=>h1 ⟨h,h2⟩⟩
  ·exact .inr (decide_eq_false h))
 by_cases h2:97≤c.toNat∧c.toNat≤102
 ·have f1:decide (97#8≤c)=true:=decide_eq_true h2.1
  have f2:decide (c≤102#8)=true:=decide_eq_true h2.2
  have hd:dig1 c=some (c-97#8+10#8):=by unfold dig1; rw [if_neg h1,if_pos h2]
  have e1:decide (48#8≤c)=true:=decide_eq_true (show 48≤c.toNat by omega)
  have e2:decide (c≤57#8)=false:=decide_eq_false (show ¬ c.toNat≤57 by omega)
  rw [hd]
  (repeat show _∧_;first|refine yr ?_|refine yt ?_|refine yf ?_|refine yt ?_ (by first|decide|(rw[e1];decide)|(rw[e2];decide)|(rw[f1];decide)|(rw[f2];decide))|refine yf ?_ (by first|decide|(rw[e1];decide)|(rw[e2];decide)|(rw[f1];decide)|(rw[f2];decide))|refine yo ?_)
  exact ⟨.tup [.c (.w8 (c-97#8+10#8)),.c (.bool true)],_,⟨[],⟨rfl,rfl,rfl⟩,by (repeat first|exact trivial|refine ent1 ?_)⟩,rfl,rfl⟩
 have hd:dig1 c=none:=by unfold dig1; rw [if_neg h1,if_neg h2]
 rw [hd]
 have hG:(decide (97#8≤c)=true∧decide (c≤102#8)=false)∨decide (97#8≤c)=false:=by
  by_cases h:97#8≤c
  ·exact .inl ⟨decide_eq_true h,decide_eq_false fun h3=>h2 ⟨h,h3⟩⟩
  ·exact .inr (decide_eq_false h)
 apply hF
 rintro (⟨e1,e2⟩|e1)
 ·rcases hG with ⟨f1,f2⟩|f1
  ·(repeat show _∧_;first|refine yr ?_|refine yt ?_|refine yf ?_|refine yt ?_ (by first|decide|(rw[e1];decide)|(rw[e2];decide)|(rw[f1];decide)|(rw[f2];decide))|refine yf ?_ (by first|decide|(rw[e1];decide)|(rw[e2];decide)|(rw[f1];decide)|(rw[f2];decide))|refine yo ?_)
   exact ⟨.tup [.c (.w8 0#8),.c (.bool false)],_,⟨[],⟨rfl,rfl,rfl⟩,by (repeat first|exact trivial|refine ent1 ?_)⟩,rfl,rfl⟩
  ·(repeat show _∧_;first|refine yr ?_|refine yt ?_|refine yf ?_|refine yt ?_ (by first|decide|(rw[e1];decide)|(rw[e2];decide)|(rw[f1];decide))|refine yf ?_ (by first|decide|(rw[e1];decide)|(rw[e2];decide)|(rw[f1];decide))|refine yo ?_)
   exact ⟨.tup [.c (.w8 0#8),.c (.bool false)],_,⟨[],⟨rfl,rfl,rfl⟩,by (repeat first|exact trivial|refine ent1 ?_)⟩,rfl,rfl⟩
 ·rcases hG with ⟨f1,f2⟩|f1
  ·(repeat show _∧_;first|refine yr ?_|refine yt ?_|refine yf ?_|refine yt ?_ (by first|decide|(rw[e1];decide)|(rw[f1];decide)|(rw[f2];decide))|refine yf ?_ (by first|decide|(rw[e1];decide)|(rw[f1];decide)|(rw[f2];decide))|refine yo ?_)
   exact ⟨.tup [.c (.w8 0#8),.c (.bool false)],_,⟨[],⟨rfl,rfl,rfl⟩,by (repeat first|exact trivial|refine ent1 ?_)⟩,rfl,rfl⟩
  ·(repeat show _∧_;first|refine yr ?_|refine yt ?_|refine yf ?_|refine yt ?_ (by first|decide|(rw[e1];decide)|(rw[f1];decide))|refine yf ?_ (by first|decide|(rw[e1];decide)|(rw[f1];decide))|refine yo ?_)
   exact ⟨.tup [.c (.w8 0#8),.c (.bool false)],_,⟨[],⟨rfl,rfl,rfl⟩,by (repeat first|exact trivial|refine ent1 ?_)⟩,rfl,rfl⟩
theorem fn_qhas {d:Nat} {W:World} {ms:List Nat} {v:JT} {x:JC} (hx:TAt W ms d v x) (m:Nat):FnR Tryd.prog tds 37 1 [[.past W ms]] [.agg (jvS v x),.c (.int .i64 (m:Int))] (fun _=>True) (fun y hs=>y=.a (.c (.bool (hasJ v m)))∧hs=[[.past W ms]]):=by
 refine fn_of_body tds_ok follows_ Tryd.func37 rfl (t:=.a (.agg (jvS v x))::.a (.c (.int .i64 (m:Int)))::anys (Tryd.f37.ntmps-2)) rfl (fun w r0 hr0 _=>?_)
 obtain ⟨x0,rfl⟩:=len1' hr0
 have hl:=hx.len
 have hn:v.ns.length=x.p:=by have h1:=hx.ns.len; simp only [List.length_map] at h1; omega
 unfold hasJ
 by_cases k6:v.k=6#8
 ·have e6:decide (v.k=6#8)=true:=decide_eq_true k6
  by_cases h1:v.ns.length=m
  ·have e1:decide ((x.p:Int)=(m:Int))=true:=decide_eq_true (by omega)
   have e2:decide ((x.m:Int)=(m:Int))=decide (v.l.length=m):=decide_eq_decide.2 (by omega)
   rw [e6,decide_eq_true h1,Bool.true_and,Bool.true_and,← e2]
   (repeat show _∧_;first|refine yr ?_|refine yt ?_|refine yf ?_|refine yt ?_ (by first|decide|(rw[e6];decide)|(rw[e1];decide))|refine yf ?_ (by first|decide|(rw[e6];decide)|(rw[e1];decide))|refine yo ?_)
   exact ⟨.a (.c (.bool (decide ((x.m:Int)=(m:Int))))),_,⟨[0],⟨rfl,rfl,rfl⟩,by (repeat first|exact trivial|refine ent1 ?_)⟩,rfl,rfl⟩
  ·have e1:decide ((x.p:Int)=(m:Int))=false:=decide_eq_false (by omega)
   rw [decide_eq_false h1,Bool.false_and,Bool.and_false]
   (repeat show _∧_;first|refine yr ?_|refine yt ?_|refine yf ?_|refine yt ?_ (by first|decide|(rw[e6];decide)|(rw[e1];decide))|refine yf ?_ (by first|decide|(rw[e6];decide)|(rw[e1];decide))|refine yo ?_)
   exact ⟨.a (.c (.bool false)),_,⟨[0],⟨rfl,rfl,rfl⟩,by (repeat first|exact trivial|refine ent1 ?_)⟩,rfl,rfl⟩
 ·have e6:decide (v.k=6#8)=false:=decide_eq_false k6
  rw [e6,Bool.false_and]
  (repeat show _∧_;first|refine yr ?_|refine yt ?_|refine yf ?_|refine yt ?_ (by first|decide|(rw[e6];decide))|refine yf ?_ (by first|decide|(rw[e6];decide))|refine yo ?_)
  exact ⟨.a (.c (.bool false)),_,⟨[0],⟨rfl,rfl,rfl⟩,by (repeat first|exact trivial|refine ent1 ?_)⟩,rfl,rfl⟩
def idxI (o:Option Nat):Int:=match o with
 | none=>-1
 | some i=>(i:Int)
theorem idxN_lt {s:Bs}:∀ {l:List Bs} {i:Nat},idxN s l=some i→i<l.length
 | [],i,h=>by cases h
 | x::l,i,h=>by
  unfold idxN at h
  split at h
  ·injection h with h; subst h; simp
  ·obtain ⟨j,hj,rfl⟩:=Option.map_eq_some_iff.1 h
   have:=idxN_lt hj
   simp; omega
theorem idxN_drop (s:Bs):∀ (l:List Bs) (j:Nat),(∀ i,i<j→∀ x,l[i]?=some x→s≠x)→j≤l.length→idxN s l=(idxN s (l.drop j)).map (·+j)
 | l,0,_,_=>by simp
 | [],j+1,_,h=>by simp at h
 | x::l,j+1,h,hl=>by
  have h0:s≠x:=h 0 (by omega) x rfl
  rw [idxN,if_neg h0,idxN_drop s l j (fun i hi y hy=>h (i+1) (by omega) y hy) (by simpa using hl),List.drop_succ_cons,Option.map_map]
  congr 1
set_option maxRecDepth 20000 in
theorem fn_index {W:World} {ms:List Nat} {a:Option Addr} {m c:Nat} {ns:List Bs} (h:StAt W ms a m c (ns.map U8)) (s:Bs):FnR Tryd.prog tds 48 1 [[.past W ms]] [.c (.slc a m c),.c (.str (U8 s))] (fun _=>True) (fun y hs=>y=.a (.c (.int .i64 (idxI (idxN s ns))))∧hs=[[.past W ms]]):=by
 refine fn_of_body tds_ok follows_ Tryd.func48 rfl (t:=.a (.c (.slc a m c))::.a (.c (.str (U8 s)))::anys (Tryd.f48.ntmps-2)) rfl (fun w r0 hr0 _=>?_)
 obtain ⟨x0,rfl⟩:=len1' hr0
 have hm:ns.length=m:=by have h1:=h.len; simp only [List.length_map] at h1; omega
 have hcap:=h.cap
 (repeat show _∧_;first|refine yr ?_|refine yt ?_|refine yf ?_|refine yo ?_)
 refine .inl ⟨Nat,fun j=>⟨[.a (.c (.slc a m c)),.a (.c (.str ((U8 s)))),.any,.any,.any,.any,.any,.a (.c (.int .i64 (m))),.a (.c (.int .i64 (((j:Nat):Int)))),.any,.any,.any,.any,.any,.any,.any,.any,.any,.any],[[.past W ms]]⟩,
  fun j=>j≤ns.length∧∀ i,i<j→∀ x,ns[i]?=some x→s≠x,fun j=>ns.length-j,⟨0,[0],⟨⟨rfl,rfl,rfl⟩,by (repeat first|exact trivial|refine ent1 ?_)⟩,Nat.zero_le _,fun i hi=>absurd hi (Nat.not_lt_zero _)⟩,fun j hx=>?_⟩
 obtain ⟨hj0,hno⟩:=hx
 dsimp only
 by_cases hj:j<ns.length
 rotate_left
 ·have e1:decide ((j:Int)<(m:Int))=false:=decide_eq_false (by omega)
  obtain rfl:j=ns.length:=by omega
  have hI:idxN s ns=none:=by rw [idxN_drop s ns _ hno (Nat.le_refl _),List.drop_length]; rfl
  rw [hI]
  (repeat show _∧_;first|refine yr ?_|refine yt ?_|refine yf ?_|refine yt ?_ (by first|decide|(rw[e1];decide))|refine yf ?_ (by first|decide|(rw[e1];decide))|refine yo ?_)
  exact ⟨.a (.c (.int .i64 (-1))),_,⟨[0],⟨rfl,rfl,rfl⟩,by (repeat first|exact trivial|refine ent1 ?_)⟩,rfl,rfl⟩
 have e1:decide ((j:Int)<(m:Int))=true:=decide_eq_true (by omega)
 obtain ⟨A,rfl,h2⟩:=h.elt hj
 (repeat show _∧_;first|refine yr ?_|refine yt ?_|refine yf ?_|refine yt ?_ (by first|decide|(rw[e1];decide))|refine yf ?_ (by first|decide|(rw[e1];decide))|refine yo ?_)
 refine ⟨[.one (.str (U8 ns[j]))],⟨.past (i:=0) rfl (by exact h2),rfl⟩,?_⟩
 by_cases hs:s=ns[j]
 ·have e3:decide (U8 s=U8 ns[j])=true:=decide_eq_true (by rw [← hs])
  have hI:idxN s ns=some j:=by
   rw [idxN_drop s ns j hno (by omega),List.drop_eq_getElem_cons hj,idxN,if_pos hs]; simp
  rw [hI]
  (repeat show _∧_;first|refine yr ?_|refine yt ?_|refine yf ?_|refine yt ?_ (by first|decide|(rw[e3];decide))|refine yf ?_ (by first|decide|(rw[e3];decide))|refine yo ?_)
  exact ⟨.a (.c (.int .i64 (j:Int))),_,⟨[0],⟨rfl,rfl,rfl⟩,by (repeat first|exact trivial|refine ent1 ?_)⟩,rfl,rfl⟩
 ·have e3:decide (U8 s=U8 ns[j])=false:=decide_eq_false (fun e=>hs (U8_inj e))
  (repeat show _∧_;first|refine yr ?_|refine yt ?_|refine yf ?_|refine yt ?_ (by first|decide|(rw[e3];decide))|refine yf ?_ (by first|decide|(rw[e3];decide))|refine yo ?_)
  refine ⟨j+1,[0],⟨⟨rfl,rfl,rfl⟩,by (repeat first|exact trivial|refine ent1 ?_)⟩,⟨hj,fun i hi x hx=>?_⟩,by omega⟩
  by_cases hij:i=j
  ·subst hij
   rw [List.getElem?_eq_getElem hj] at hx
   injection hx with hx
   rw [← hx]; exact hs
  ·exact hno i (by omega) x hx
theorem TAt.elt {W:World} {ms:List Nat} {d:Nat} {v:JT} {x:JC} (h:TAt W ms (d+1) v x) {i:Nat} (hi:i<v.l.length):∃ A y,x.a=some A∧i<x.m∧ImAt W ms (A.add (i*5)) (flat (jvS v.l[i] y))∧TAt W ms d v.l[i] y:=by
 obtain ⟨⟨g1,g2,g3,g4,g5⟩,_⟩:=h
 obtain ⟨xa,xm,xc,xb,xp,xq⟩:=x
 dsimp only at g1 g2 g3 g4 g5
 cases xa with
 | none=>exact absurd (g4 rfl) (by omega)
 | some A =>
  obtain ⟨y,y1,y2⟩:=(g5 A rfl (by omega)).2 i v.l[i] (List.getElem?_eq_getElem hi)
  exact ⟨A,y,rfl,by show i<xm; omega,y1,y2⟩
def MemA (W:World) (ms:List Nat) (d:Nat) (o:Option JT) (y:SV) (hs:List (List Seg)):Prop :=
 hs=[[.past W ms]]∧match o with
  | none=>y=.tup [.agg (jvS jt0 jc0),.c (.bool false)]
  | some v=>∃ x,TAt W ms d v x∧y=.tup [.agg (jvS v x),.c (.bool true)]
set_option maxRecDepth 20000 in
set_option maxHeartbeats 4000000 in
theorem fn_qmember {d:Nat} {W:World} {ms:List Nat} {v:JT} {x:JC} (hx:TAt W ms (d+1) v x) (s:Bs) (k:BitVec 8):FnR Tryd.prog tds 36 1 [[.past W ms]] [.agg (jvS v x),.c (.str (U8 s)),.c (.w8 k)] (fun _=>True) (MemA W ms d (memJ v s k)):=by
 refine fn_of_body tds_ok follows_ Tryd.func36 rfl (t:=.a (.agg (jvS v x))::.a (.c (.str (U8 s)))::.a (.c (.w8 k))::anys (Tryd.f36.ntmps-3)) rfl (fun w r0 hr0 _=>?_)
 obtain ⟨x0,rfl⟩:=len1' hr0
 have hl:=hx.len
 (repeat show _∧_;first|refine yr ?_|refine yt ?_|refine yf ?_|refine yo ?_)
 refine call_same (fn_index hx.ns s) [0] rfl (by exact And.intro rfl (And.intro rfl trivial)) (by (repeat first|exact trivial|refine ent1 ?_)) (fun _ _=>trivial) ?_
 rintro y hs ⟨rfl,rfl⟩
 cases hI:idxN s v.ns with
 | none =>
  have hM:memJ v s k=none:=by unfold memJ; rw [hI]
  rw [hM]
  (repeat show _∧_;first|refine yr ?_|refine yt ?_|refine yf ?_|refine yo ?_)
  exact ⟨.tup [.agg (jvS jt0 jc0),.c (.bool false)],_,⟨[0],⟨rfl,rfl,rfl⟩,by (repeat first|exact trivial|refine ent1 ?_)⟩,rfl,rfl⟩
 | some i =>
  rw [show idxI (some i)=(i:Int) from rfl]
  have e0:decide ((i:Int)<0)=false:=decide_eq_false (by omega)
  by_cases hi:i<v.l.length
  ·obtain ⟨A,y,hA,him,y1,y2⟩:=hx.elt hi
   obtain ⟨xa,xm,xc,xb,xp,xq⟩:=x
   dsimp only at hA him hl
   subst hA
   have e1:decide ((xm:Int)≤(i:Int))=false:=decide_eq_false (by omega)
   by_cases hk:v.l[i].k=k
   ·have e2:decide (v.l[i].k≠k)=false:=decide_eq_false (not_not_intro hk)
    have hM:memJ v s k=some v.l[i]:=by unfold memJ; rw [hI]; dsimp only; rw [List.getElem?_eq_getElem hi]; dsimp only; rw [if_pos hk]
    rw [hM]
    (repeat show _∧_;first|refine yr ?_|refine yt ?_|refine yf ?_|refine yt ?_ (by first|decide|(rw[e0];decide)|(rw[e1];decide))|refine yf ?_ (by first|decide|(rw[e0];decide)|(rw[e1];decide))|refine yo ?_)
    refine And.intro (show (0:Int)≤(i:Int)∧(i:Int)<(xm:Int) by omega) ?_
    (repeat show _∧_;first|refine yr ?_|refine yt ?_|refine yf ?_|refine yt ?_ (by first|decide|(rw[e0];decide)|(rw[e1];decide))|refine yf ?_ (by first|decide|(rw[e0];decide)|(rw[e1];decide))|refine yo ?_)
    refine ⟨[.one (.w8 v.l[i].k)],⟨.past (i:=0) rfl (by exact y1.sub 0 1),rfl⟩,?_⟩
    (repeat show _∧_;first|refine yr ?_|refine yt ?_|refine yf ?_|refine yt ?_ (by first|decide|(rw[e0];decide)|(rw[e1];decide)|(rw[e2];decide))|refine yf ?_ (by first|decide|(rw[e0];decide)|(rw[e1];decide)|(rw[e2];decide))|refine yo ?_)
    refine And.intro (show (0:Int)≤(i:Int)∧(i:Int)<(xm:Int) by omega) ?_
    refine ⟨jvS v.l[i] y,⟨.past (i:=0) rfl (by exact y1),rfl⟩,?_⟩
    (repeat show _∧_;first|refine yr ?_|refine yt ?_|refine yf ?_|refine yo ?_)
    exact ⟨.tup [.agg (jvS v.l[i] y),.c (.bool true)],_,⟨[0],⟨rfl,rfl,rfl⟩,by (repeat first|exact trivial|refine ent1 ?_)⟩,rfl,y,y2,rfl⟩
   ·have e2:decide (v.l[i].k≠k)=true:=decide_eq_true hk
    have hM:memJ v s k=none:=by unfold memJ; rw [hI]; dsimp only; rw [List.getElem?_eq_getElem hi]; dsimp only; rw [if_neg hk]
    rw [hM]
    (repeat show _∧_;first|refine yr ?_|refine yt ?_|refine yf ?_|refine yt ?_ (by first|decide|(rw[e0];decide)|(rw[e1];decide))|refine yf ?_ (by first|decide|(rw[e0];decide)|(rw[e1];decide))|refine yo ?_)
    refine And.intro (show (0:Int)≤(i:Int)∧(i:Int)<(xm:Int) by omega) ?_
    (repeat show _∧_;first|refine yr ?_|refine yt ?_|refine yf ?_|refine yt ?_ (by first|decide|(rw[e0];decide)|(rw[e1];decide))|refine yf ?_ (by first|decide|(rw[e0];decide)|(rw[e1];decide))|refine yo ?_)
    refine ⟨[.one (.w8 v.l[i].k)],⟨.past (i:=0) rfl (by exact y1.sub 0 1),rfl⟩,?_⟩
    (repeat show _∧_;first|refine yr ?_|refine yt ?_|refine yf ?_|refine yt ?_ (by first|decide|(rw[e0];decide)|(rw[e1];decide)|(rw[e2];decide))|refine yf ?_ (by first|decide|(rw[e0];decide)|(rw[e1];decide)|(rw[e2];decide))|refine yo ?_)
    exact ⟨.tup [.agg (jvS jt0 jc0),.c (.bool false)],_,⟨[0],⟨rfl,rfl,rfl⟩,by (repeat first|exact trivial|refine ent1 ?_)⟩,rfl,rfl⟩
  ·have e1:decide ((x.m:Int)≤(i:Int))=true:=decide_eq_true (by omega)
   have hM:memJ v s k=none:=by unfold memJ; rw [hI]; dsimp only; rw [List.getElem?_eq_none (by omega)]
   rw [hM]
   (repeat show _∧_;first|refine yr ?_|refine yt ?_|refine yf ?_|refine yt ?_ (by first|decide|(rw[e0];decide)|(rw[e1];decide))|refine yf ?_ (by first|decide|(rw[e0];decide)|(rw[e1];decide))|refine yo ?_)
   exact ⟨.tup [.agg (jvS jt0 jc0),.c (.bool false)],_,⟨[0],⟨rfl,rfl,rfl⟩,by (repeat first|exact trivial|refine ent1 ?_)⟩,rfl,rfl⟩
end Sx
end
end Go.Proofs.YtnehmcpkeamghaaDoor
