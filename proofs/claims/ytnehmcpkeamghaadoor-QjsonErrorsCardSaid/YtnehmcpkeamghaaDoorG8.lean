/-
  Texts of this claim, part 8: JsK, JsW, JsY, JsZ, QjB, QjC, QjD, QjE, QjF, QjG, QjH. No condition of its own.
-/
import Derived.Test.YtnehmcpkeamghaaDoorG7
namespace Go.Proofs.YtnehmcpkeamghaaDoor
set_option linter.unusedVariables false
section
namespace Sx
open Go.RowKit Sha Vi Js

theorem take_lt {a p:Bs} (h:a.length<p.length):a.take p.length≠p:=fun e=>by
 have:=congrArg List.length e
 rw [List.length_take] at this
 omega
set_option maxRecDepth 20000 in
theorem fn_slPrefix (a p:Bs) (ha:a.length≤1048576) (hp:p.length≤1048576):Fn Tryd.prog tds 73 [] [.c (.str (U8 a)),.c (.str (U8 p))] (fun _=>True) (fun y hs=>y=.a (.c (.bool (decide (a.take p.length=p))))∧hs=[]):=by
 refine fn_of_body tds_ok follows_ Tryd.func73 rfl (t:=.a (.c (.str (U8 a)))::.a (.c (.str (U8 p)))::anys (Tryd.f73.ntmps-2)) rfl (fun w r0 hr0 _=>?_)
 obtain rfl:r0=[]:=List.eq_nil_of_length_eq_zero hr0
 by_cases h:p.length≤a.length
 ·have e:decide ((((U8 p).length:Nat):Int)≤(((U8 a).length:Nat):Int))=true:=decide_eq_true (by rw [U8_len,U8_len]; omega)
  (repeat show _∧_;first|refine yr ?_|refine yt ?_|refine yf ?_|refine yt ?_ (by first|decide|(rw[e];decide))|refine yf ?_ (by first|decide|(rw[e];decide))|refine yo ?_)
  refine And.intro ⟨by omega,by omega,by rw [U8_len,U8_len]; omega⟩ ?_
  refine frcN_of (m:=0) rfl ?_
  refine frcN_of (m:=(U8 p).length) (Int.toNat_natCast _) ?_
  (repeat show _∧_;first|refine yr ?_|refine yt ?_|refine yf ?_|refine yt ?_ (by first|decide|(rw[e];decide))|refine yf ?_ (by first|decide|(rw[e];decide))|refine yo ?_)
  have hd:decide (((U8 a).drop 0).take ((U8 p).length-0)=U8 p)=decide (a.take p.length=p):=by
   rw [List.drop_zero,Nat.sub_zero,U8_len,U8_take,U8_dj]
  refine ⟨.a (.c (.bool (decide (a.take p.length=p)))),_,⟨[],⟨rfl,rfl,rfl⟩,?_⟩,rfl,rfl⟩
  exact And.intro hd (by (repeat first|exact trivial|refine ent1 ?_))
 ·have e:decide ((((U8 p).length:Nat):Int)≤(((U8 a).length:Nat):Int))=false:=decide_eq_false (by rw [U8_len,U8_len]; omega)
  (repeat show _∧_;first|refine yr ?_|refine yt ?_|refine yf ?_|refine yt ?_ (by first|decide|(rw[e];decide))|refine yf ?_ (by first|decide|(rw[e];decide))|refine yo ?_)
  refine ⟨.a (.c (.bool (decide (a.take p.length=p)))),_,⟨[],⟨rfl,rfl,rfl⟩,?_⟩,rfl,rfl⟩
  exact And.intro (decide_eq_false (take_lt (by omega))).symm (by (repeat first|exact trivial|refine ent1 ?_))
set_option maxRecDepth 20000 in
theorem fn_prefix (a p:Bs) (ha:a.length≤1048576) (hp:p.length≤1048576):Fn Tryd.prog tds 58 [] [.c (.str (U8 a)),.c (.str (U8 p))] (fun _=>True) (fun y hs=>y=.a (.c (.bool (decide (a.take p.length=p))))∧hs=[]):=by
 refine fn_of_body tds_ok follows_ Tryd.func58 rfl (t:=.a (.c (.str (U8 a)))::.a (.c (.str (U8 p)))::anys (Tryd.f58.ntmps-2)) rfl (fun w r0 hr0 _=>?_)
 obtain rfl:r0=[]:=List.eq_nil_of_length_eq_zero hr0
 (repeat show _∧_;first|refine yr ?_|refine yt ?_|refine yf ?_|refine yo ?_)
 refine call_same (fn_slPrefix a p ha hp) [] rfl (by (repeat first|exact trivial|refine ent1 ?_)) trivial (fun _ _=>trivial) ?_
 rintro x hs' ⟨rfl,rfl⟩
 exact ⟨.a (.c (.bool (decide (a.take p.length=p)))),_,⟨[],⟨rfl,rfl,rfl⟩,by (repeat first|exact trivial|refine ent1 ?_)⟩,rfl,rfl⟩
theorem pone_at {kl ko:Bs→R JT} {s:Bs} {k k1:Nat} (h:s.drop k1=blanks (s.drop k)) :
  pone kl ko (s.drop k)=if L s k1=34#8 then (match text (s.drop (k1+1)) with
    | .bad e=>.bad e
    | .ok t r=>.ok (.mk 4#8 0#64 t [] []) r)
   else if isDig (L s k1)=true then (match number (s.drop k1) with
    | .bad e=>.bad e
    | .ok n r=>.ok (.mk 3#8 (BitVec.ofNat 64 n) [] [] []) r)
   else if L s k1=91#8 then kl (s.drop (k1+1)) else if L s k1=123#8 then ko (s.drop (k1+1)) else word (s.drop k1):=by
 unfold pone
 rw [← h]
 rcases drop_L (s:=s) (k:=k1) with ⟨h1,h2⟩|⟨h1,h2,h3⟩
 ·rw [h2]
  dsimp only
  split
  ·cases text (s.drop (k1+1)) <;> rfl
  split
  ·cases number (L s k1::s.drop (k1+1)) <;> rfl
  ·rfl
 ·rw [h2,h3]
  rfl
def ValC (s:Bs) (d depth:Nat):Prop:=∀ (W:World) (ms:List Nat) (k:Nat),Tabs W ms→k≤s.length→FnR Tryd.prog tds 42 1 [[.past W ms],psr s k] [.c (.p 1 0 0),.c (.int .i64 (depth:Int))] (fun _=>True) (ValA W ms d s k (pval d (s.drop k)))
set_option maxRecDepth 20000 in
set_option maxHeartbeats 32000000 in
theorem fn_value1 (s:Bs) (hs:s.length≤1048576) (d depth:Nat) (hdd:depth+d=8) (hrec:∀ d',d=d'+1→ValC s d' (depth+1)):ValC s d depth:=by
 intro W ms k hT hk
 refine fn_of_bodyW tds_ok follows_ Tryd.func42 rfl (t:=.a (.c (.p 1 0 0))::.a (.c (.int .i64 (depth:Int)))::anys (Tryd.f42.ntmps-2)) rfl (fun w r0 hr0 _=>?_)
 obtain ⟨x0,x1,rfl⟩:=len2' hr0
 (repeat show _∧_;first|refine yr ?_|refine yt ?_|refine yf ?_|refine yo ?_)
 refine call_same (fn_blanks s k hk hs) [1] rfl (by (repeat first|exact trivial|refine ent1 ?_)) (by (repeat first|exact trivial|refine ent1 ?_)) (fun _ _=>trivial) ?_
 rintro x hs' ⟨k1,g1,g2,g3,rfl,rfl⟩
 (repeat show _∧_;first|refine yr ?_|refine yt ?_|refine yf ?_|refine yo ?_)
 refine call_same (fn_peek s k1) [1] rfl (by (repeat first|exact trivial|refine ent1 ?_)) (by (repeat first|exact trivial|refine ent1 ?_)) (fun _ _=>trivial) ?_
 rintro x hs' ⟨rfl,rfl⟩
 obtain ⟨kl,ko,hpv,hkl⟩:∃ kl ko,pval d=pone kl ko∧((d=0∧depth=8∧kl=(fun _=>.bad 22)∧ko=(fun _=>.bad 22))∨∃ d',d=d'+1∧depth<8∧kl=lists (pval d')∧ko=objs (pval d')):=by
  cases d with
  | zero=>exact ⟨_,_,rfl,.inl ⟨rfl,by omega,rfl,rfl⟩⟩
  | succ d=>exact ⟨_,_,rfl,.inr ⟨d,rfl,by omega,rfl,rfl⟩⟩
 have hP:=pone_at (kl:=kl) (ko:=ko) g3
 rw [← hpv] at hP
 by_cases c1:L s k1=34#8
 ·have e1:decide (L s k1=34#8)=true:=decide_eq_true c1
  obtain ⟨_,h2⟩:=of_L c1 (by decide)
  rw [if_pos c1] at hP
  (repeat show _∧_;first|refine yr ?_|refine yt ?_|refine yf ?_|refine yt ?_ (by first|decide|(rw[e1];decide))|refine yf ?_ (by first|decide|(rw[e1];decide))|refine yo ?_)
  refine call_same (fn_text hT s k1 h2 hs) [0,1] rfl (by (repeat first|exact trivial|refine ent1 ?_)) (by (repeat first|exact trivial|refine ent1 ?_)) (fun _ _=>trivial) ?_
  rintro x hs' (⟨t,k2,q1,q2,q3,rfl,rfl⟩|⟨e,k2,q1,q0,q2,q3,rfl,rfl⟩)
  ·rw [q1] at hP
   (repeat show _∧_;first|refine yr ?_|refine yt ?_|refine yf ?_|refine yo ?_)
   exact FinW.of ⟨.tup [.agg (jvS (.mk 4#8 0#64 t [] []) jc0),.c (.int .i64 0)],_,⟨[0,1],⟨rfl,rfl,rfl⟩,by (repeat first|exact trivial|refine ent1 ?_)⟩,.inl ⟨_,jc0,k2,W,ms,hP,by omega,q3,Later.refl _ _,TAt.leaf rfl rfl _,rfl,rfl⟩⟩
  ·rw [q1] at hP
   (repeat show _∧_;first|refine yr ?_|refine yt ?_|refine yf ?_|refine yo ?_)
   exact FinW.of ⟨.tup [.agg (jvS (.mk 4#8 0#64 [] [] []) jc0),.c (.int .i64 e)],_,⟨[0,1],⟨rfl,rfl,rfl⟩,by (repeat first|exact trivial|refine ent1 ?_)⟩,.inr ⟨e,_,jc0,k2,W,ms,hP,q0,by omega,q3,Later.refl _ _,rfl,rfl⟩⟩
 have e1:decide (L s k1=34#8)=false:=decide_eq_false c1
 rw [if_neg c1] at hP
 by_cases c2:isDig (L s k1)=true
 ·rw [if_pos c2] at hP
  have hD:=(isDig_iff (L s k1)).symm.trans c2
  rw [Bool.and_eq_true] at hD
  obtain ⟨e2,e3⟩:=hD
  (repeat show _∧_;first|refine yr ?_|refine yt ?_|refine yf ?_|refine yt ?_ (by first|decide|(rw[e1];decide)|(rw[e2];decide)|(rw[e3];decide))|refine yf ?_ (by first|decide|(rw[e1];decide)|(rw[e2];decide)|(rw[e3];decide))|refine yo ?_)
  refine call_same (fn_number' s k1 c2 hs) [1] rfl (by (repeat first|exact trivial|refine ent1 ?_)) (by (repeat first|exact trivial|refine ent1 ?_)) (fun _ _=>trivial) ?_
  rintro x hs' (⟨n,k2,q1,q2,q3,rfl,rfl⟩|⟨e,v,k2,q1,q0,q2,q3,rfl,rfl⟩)
  ·rw [q1] at hP
   (repeat show _∧_;first|refine yr ?_|refine yt ?_|refine yf ?_|refine yo ?_)
   exact FinW.of ⟨.tup [.agg (jvS (.mk 3#8 (BitVec.ofNat 64 n) [] [] []) jc0),.c (.int .i64 0)],_,⟨[0,1],⟨rfl,rfl,rfl⟩,by (repeat first|exact trivial|refine ent1 ?_)⟩,.inl ⟨_,jc0,k2,W,ms,hP,by omega,q3,Later.refl _ _,TAt.leaf rfl rfl _,rfl,rfl⟩⟩
  ·rw [q1] at hP
   (repeat show _∧_;first|refine yr ?_|refine yt ?_|refine yf ?_|refine yo ?_)
   exact FinW.of ⟨.tup [.agg (jvS (.mk 3#8 v [] [] []) jc0),.c (.int .i64 e)],_,⟨[0,1],⟨rfl,rfl,rfl⟩,by (repeat first|exact trivial|refine ent1 ?_)⟩,.inr ⟨e,_,jc0,k2,W,ms,hP,q0,by omega,q3,Later.refl _ _,rfl,rfl⟩⟩
 rw [if_neg c2] at hP
 rw [Bool.not_eq_true] at c2
 have hD:=(isDig_iff (L s k1)).symm.trans c2
 by_cases c4:L s k1=91#8
 ·have fc4:decide (L s k1=91#8)=true:=decide_eq_true c4
  obtain ⟨_,h2⟩:=of_L c4 (by decide)
  rw [if_pos c4] at hP
  have e2:decide (48#8≤L s k1)=true:=by rw [c4]; decide
  have e3:decide (L s k1≤57#8)=false:=by rw [c4]; decide
  rcases hkl with ⟨rfl,rfl,rfl,rfl⟩|⟨d',rfl,hlt,rfl,rfl⟩
  ·(repeat show _∧_;first|refine yr ?_|refine yt ?_|refine yf ?_|refine yt ?_ (by first|decide|(rw[e1];decide)|(rw[e2];decide)|(rw[e3];decide)|(rw[fc4];decide))|refine yf ?_ (by first|decide|(rw[e1];decide)|(rw[e2];decide)|(rw[e3];decide)|(rw[fc4];decide))|refine yo ?_)
   exact FinW.of ⟨.tup [.agg (jvS jt0 jc0),.c (.int .i64 22)],_,⟨[0,1],⟨rfl,rfl,rfl⟩,by (repeat first|exact trivial|refine ent1 ?_)⟩,.inr ⟨22,jt0,jc0,k1,W,ms,hP,by decide,g1,g2,Later.refl _ _,rfl,rfl⟩⟩
  ·have e8:decide ((8:Int)≤(depth:Int))=false:=decide_eq_false (by omega)
   (repeat show _∧_;first|refine yr ?_|refine yt ?_|refine yf ?_|refine yt ?_ (by first|decide|(rw[e1];decide)|(rw[e2];decide)|(rw[e3];decide)|(rw[fc4];decide)|(rw[e8];decide))|refine yf ?_ (by first|decide|(rw[e1];decide)|(rw[e2];decide)|(rw[e3];decide)|(rw[fc4];decide)|(rw[e8];decide))|refine yo ?_)
   refine call_past (fn_list hT d' depth (by omega) s hs (hrec d' rfl) k1 h2) 0 [1] rfl rfl (by (repeat first|exact trivial|refine ent1 ?_)) (by (repeat first|exact trivial|refine ent1 ?_)) (fun _ _=>trivial) (fun x hs hr=>?_) ?_
   ·rcases hr with ⟨v,x,k',W5,ms5,_,_,_,hL5,_,_,rfl⟩|⟨e,v,x,k',W5,ms5,_,_,_,_,hL5,_,rfl⟩
    ·exact ⟨W5,ms5,rfl,hL5⟩
    ·exact ⟨W5,ms5,rfl,hL5⟩
   rintro y hs' (⟨v,x,k',W5,ms5,p1,p2,p3,hL5,hx5,rfl,rfl⟩|⟨e,v,x,k',W5,ms5,p1,p0,p2,p3,hL5,rfl,rfl⟩)
   ·(repeat show _∧_;first|refine yr ?_|refine yt ?_|refine yf ?_|refine yo ?_)
    exact FinW.of ⟨.tup [.agg (jvS v x),.c (.int .i64 0)],_,⟨[0,1],⟨rfl,rfl,rfl⟩,by (repeat first|exact trivial|refine ent1 ?_)⟩,.inl ⟨v,x,k',W5,ms5,hP.trans p1,by omega,p3,hL5,hx5,rfl,rfl⟩⟩
   ·(repeat show _∧_;first|refine yr ?_|refine yt ?_|refine yf ?_|refine yo ?_)
    exact FinW.of ⟨.tup [.agg (jvS v x),.c (.int .i64 e)],_,⟨[0,1],⟨rfl,rfl,rfl⟩,by (repeat first|exact trivial|refine ent1 ?_)⟩,.inr ⟨e,v,x,k',W5,ms5,hP.trans p1,p0,by omega,p3,hL5,rfl,rfl⟩⟩
 have fc4:decide (L s k1=91#8)=false:=decide_eq_false c4
 by_cases c5:L s k1=123#8
 ·have fc5:decide (L s k1=123#8)=true:=decide_eq_true c5
  obtain ⟨_,h2⟩:=of_L c5 (by decide)
  rw [if_neg c4,if_pos c5] at hP
  have e2:decide (48#8≤L s k1)=true:=by rw [c5]; decide
  have e3:decide (L s k1≤57#8)=false:=by rw [c5]; decide
  rcases hkl with ⟨rfl,rfl,rfl,rfl⟩|⟨d',rfl,hlt,rfl,rfl⟩
  ·(repeat show _∧_;first|refine yr ?_|refine yt ?_|refine yf ?_|refine yt ?_ (by first|decide|(rw[e1];decide)|(rw[e2];decide)|(rw[e3];decide)|(rw[fc4];decide)|(rw[fc5];decide))|refine yf ?_ (by first|decide|(rw[e1];decide)|(rw[e2];decide)|(rw[e3];decide)|(rw[fc4];decide)|(rw[fc5];decide))|refine yo ?_)
   exact FinW.of ⟨.tup [.agg (jvS jt0 jc0),.c (.int .i64 22)],_,⟨[0,1],⟨rfl,rfl,rfl⟩,by (repeat first|exact trivial|refine ent1 ?_)⟩,.inr ⟨22,jt0,jc0,k1,W,ms,hP,by decide,g1,g2,Later.refl _ _,rfl,rfl⟩⟩
  ·have e8:decide ((8:Int)≤(depth:Int))=false:=decide_eq_false (by omega)
   (repeat show _∧_;first|refine yr ?_|refine yt ?_|refine yf ?_|refine yt ?_ (by first|decide|(rw[e1];decide)|(rw[e2];decide)|(rw[e3];decide)|(rw[fc4];decide)|(rw[fc5];decide)|(rw[e8];decide))|refine yf ?_ (by first|decide|(rw[e1];decide)|(rw[e2];decide)|(rw[e3];decide)|(rw[fc4];decide)|(rw[fc5];decide)|(rw[e8];decide))|refine yo ?_)
   refine call_past (fn_object hT d' depth (by omega) s hs (hrec d' rfl) k1 h2) 0 [1] rfl rfl (by (repeat first|exact trivial|refine ent1 ?_)) (by (repeat first|exact trivial|refine ent1 ?_)) (fun _ _=>trivial) (fun x hs hr=>?_) ?_
   ·rcases hr with ⟨v,x,k',W5,ms5,_,_,_,hL5,_,_,rfl⟩|⟨e,v,x,k',W5,ms5,_,_,_,_,hL5,_,rfl⟩
    ·exact ⟨W5,ms5,rfl,hL5⟩
    ·exact ⟨W5,ms5,rfl,hL5⟩
   rintro y hs' (⟨v,x,k',W5,ms5,p1,p2,p3,hL5,hx5,rfl,rfl⟩|⟨e,v,x,k',W5,ms5,p1,p0,p2,p3,hL5,rfl,rfl⟩)
   ·(repeat show _∧_;first|refine yr ?_|refine yt ?_|refine yf ?_|refine yo ?_)
    exact FinW.of ⟨.tup [.agg (jvS v x),.c (.int .i64 0)],_,⟨[0,1],⟨rfl,rfl,rfl⟩,by (repeat first|exact trivial|refine ent1 ?_)⟩,.inl ⟨v,x,k',W5,ms5,hP.trans p1,by omega,p3,hL5,hx5,rfl,rfl⟩⟩
   ·(repeat show _∧_;first|refine yr ?_|refine yt ?_|refine yf ?_|refine yo ?_)
    exact FinW.of ⟨.tup [.agg (jvS v x),.c (.int .i64 e)],_,⟨[0,1],⟨rfl,rfl,rfl⟩,by (repeat first|exact trivial|refine ent1 ?_)⟩,.inr ⟨e,v,x,k',W5,ms5,hP.trans p1,p0,by omega,p3,hL5,rfl,rfl⟩⟩
 have fc5:decide (L s k1=123#8)=false:=decide_eq_false c5
 rw [if_neg c4,if_neg c5] at hP
 have hwl:(s.drop k1).length≤1048576:=by rw [List.length_drop]; omega
 have hPw:=hP
 unfold word at hPw
 rcases e2:decide (48#8≤L s k1) with _|_
 ·(repeat show _∧_;first|refine yr ?_|refine yt ?_|refine yf ?_|refine yt ?_ (by first|decide|(rw[e1];decide)|(rw[e2];decide)|(rw[fc4];decide)|(rw[fc5];decide))|refine yf ?_ (by first|decide|(rw[e1];decide)|(rw[e2];decide)|(rw[fc4];decide)|(rw[fc5];decide))|refine yo ?_)
  refine .inr ⟨4,?_⟩
  (repeat show _∧_;first|refine yr ?_|refine yt ?_|refine yf ?_|refine yo ?_)
  refine ⟨none,[],[(0,true),(1,true),(2,true),(3,true),(4,true),(5,true),(6,true),(7,true),(8,true),(9,true),(10,false)],[],by kernel_rfl,?_⟩
  (repeat show _∧_;first|refine yr ?_|refine yt ?_|refine yf ?_|refine yo ?_)
  refine And.intro ⟨by omega,by rw [U8_len]; omega,by omega⟩ ?_
  refine frcN_of (m:=k1) (Int.toNat_natCast k1) ?_
  refine frcN_of (m:=(U8 s).length) (Int.toNat_natCast _) ?_
  (repeat show _∧_;first|refine yr ?_|refine yt ?_|refine yf ?_|refine yo ?_)
  refine call_same (fn_prefix (s.drop k1) [110#8,117#8,108#8,108#8] hwl (by decide)) [] rfl (by exact And.intro (U8_rest s k1) (And.intro rfl trivial)) trivial (fun _ _=>trivial) ?_
  rintro x hs' ⟨rfl,rfl⟩
  by_cases w0:(s.drop k1).take 4=[110#8,117#8,108#8,108#8]
  ·have h0:decide ((s.drop k1).take ([110#8,117#8,108#8,108#8]:Bs).length=[110#8,117#8,108#8,108#8])=true:=decide_eq_true w0
   rw [if_pos w0] at hPw
   have hk9:k1+4≤s.length:=by have:=congrArg List.length w0; rw [List.length_take,List.length_drop] at this; simp only [List.length_cons,List.length_nil] at this; omega
   (repeat show _∧_;first|refine yr ?_|refine yt ?_|refine yf ?_|refine yt ?_ (by first|decide|(rw[h0];decide))|refine yf ?_ (by first|decide|(rw[h0];decide))|refine yo ?_)
   refine And.intro (show -9223372036854775808≤(k1:Int)+((4:Nat):Int)∧(k1:Int)+((4:Nat):Int)≤9223372036854775807 by omega) ?_
   (repeat show _∧_;first|refine yr ?_|refine yt ?_|refine yf ?_|refine yo ?_)
   exact FinW.of ⟨.tup [.agg (jvS (.mk 0#8 0#64 [] [] []) jc0),.c (.int .i64 0)],_,⟨[0,1],⟨rfl,rfl,rfl⟩,by (repeat first|exact trivial|refine ent1 ?_)⟩,.inl ⟨_,jc0,k1+4,W,ms,by rw [hPw,List.drop_drop],by omega,hk9,Later.refl _ _,TAt.leaf rfl rfl _,rfl,rfl⟩⟩
  have h0:decide ((s.drop k1).take ([110#8,117#8,108#8,108#8]:Bs).length=[110#8,117#8,108#8,108#8])=false:=decide_eq_false w0
  rw [if_neg w0] at hPw
  (repeat show _∧_;first|refine yr ?_|refine yt ?_|refine yf ?_|refine yt ?_ (by first|decide|(rw[h0];decide))|refine yf ?_ (by first|decide|(rw[h0];decide))|refine yo ?_)
  (repeat show _∧_;first|refine yr ?_|refine yt ?_|refine yf ?_|refine yo ?_)
  refine ⟨none,[],[(0,true),(1,true),(2,true),(3,true),(4,true),(5,true),(6,true),(7,true),(8,true),(9,true),(10,false)],[],by kernel_rfl,?_⟩
  (repeat show _∧_;first|refine yr ?_|refine yt ?_|refine yf ?_|refine yo ?_)
  refine And.intro ⟨by omega,by rw [U8_len]; omega,by omega⟩ ?_
  refine frcN_of (m:=k1) (Int.toNat_natCast k1) ?_
  refine frcN_of (m:=(U8 s).length) (Int.toNat_natCast _) ?_
  (repeat show _∧_;first|refine yr ?_|refine yt ?_|refine yf ?_|refine yo ?_)
  refine call_same (fn_prefix (s.drop k1) [102#8,97#8,108#8,115#8,101#8] hwl (by decide)) [] rfl (by exact And.intro (U8_rest s k1) (And.intro rfl trivial)) trivial (fun _ _=>trivial) ?_
  rintro x hs' ⟨rfl,rfl⟩
  by_cases w1:(s.drop k1).take 5=[102#8,97#8,108#8,115#8,101#8]
  ·have h1:decide ((s.drop k1).take ([102#8,97#8,108#8,115#8,101#8]:Bs).length=[102#8,97#8,108#8,115#8,101#8])=true:=decide_eq_true w1
   rw [if_pos w1] at hPw
   have hk9:k1+5≤s.length:=by have:=congrArg List.length w1; rw [List.length_take,List.length_drop] at this; simp only [List.length_cons,List.length_nil] at this; omega
   (repeat show _∧_;first|refine yr ?_|refine yt ?_|refine yf ?_|refine yt ?_ (by first|decide|(rw[h1];decide))|refine yf ?_ (by first|decide|(rw[h1];decide))|refine yo ?_)
   refine And.intro (show -9223372036854775808≤(k1:Int)+((5:Nat):Int)∧(k1:Int)+((5:Nat):Int)≤9223372036854775807 by omega) ?_
   (repeat show _∧_;first|refine yr ?_|refine yt ?_|refine yf ?_|refine yo ?_)
   exact FinW.of ⟨.tup [.agg (jvS (.mk 1#8 0#64 [] [] []) jc0),.c (.int .i64 0)],_,⟨[0,1],⟨rfl,rfl,rfl⟩,by (repeat first|exact trivial|refine ent1 ?_)⟩,.inl ⟨_,jc0,k1+5,W,ms,by rw [hPw,List.drop_drop],by omega,hk9,Later.refl _ _,TAt.leaf rfl rfl _,rfl,rfl⟩⟩
  have h1:decide ((s.drop k1).take ([102#8,97#8,108#8,115#8,101#8]:Bs).length=[102#8,97#8,108#8,115#8,101#8])=false:=decide_eq_false w1
  rw [if_neg w1] at hPw
  (repeat show _∧_;first|refine yr ?_|refine yt ?_|refine yf ?_|refine yt ?_ (by first|decide|(rw[h1];decide))|refine yf ?_ (by first|decide|(rw[h1];decide))|refine yo ?_)
  (repeat show _∧_;first|refine yr ?_|refine yt ?_|refine yf ?_|refine yo ?_)
  refine ⟨none,[],[(0,true),(1,true),(2,true),(3,true),(4,true),(5,true),(6,true),(7,true),(8,true),(9,true),(10,false)],[],by kernel_rfl,?_⟩
  (repeat show _∧_;first|refine yr ?_|refine yt ?_|refine yf ?_|refine yo ?_)
  refine And.intro ⟨by omega,by rw [U8_len]; omega,by omega⟩ ?_
  refine frcN_of (m:=k1) (Int.toNat_natCast k1) ?_
  refine frcN_of (m:=(U8 s).length) (Int.toNat_natCast _) ?_
  (repeat show _∧_;first|refine yr ?_|refine yt ?_|refine yf ?_|refine yo ?_)
  refine call_same (fn_prefix (s.drop k1) [116#8,114#8,117#8,101#8] hwl (by decide)) [] rfl (by exact And.intro (U8_rest s k1) (And.intro rfl trivial)) trivial (fun _ _=>trivial) ?_
  rintro x hs' ⟨rfl,rfl⟩
  by_cases w2:(s.drop k1).take 4=[116#8,114#8,117#8,101#8]
  ·have h2:decide ((s.drop k1).take ([116#8,114#8,117#8,101#8]:Bs).length=[116#8,114#8,117#8,101#8])=true:=decide_eq_true w2
   rw [if_pos w2] at hPw
   have hk9:k1+4≤s.length:=by have:=congrArg List.length w2; rw [List.length_take,List.length_drop] at this; simp only [List.length_cons,List.length_nil] at this; omega
   (repeat show _∧_;first|refine yr ?_|refine yt ?_|refine yf ?_|refine yt ?_ (by first|decide|(rw[h2];decide))|refine yf ?_ (by first|decide|(rw[h2];decide))|refine yo ?_)
   refine And.intro (show -9223372036854775808≤(k1:Int)+((4:Nat):Int)∧(k1:Int)+((4:Nat):Int)≤9223372036854775807 by omega) ?_
   (repeat show _∧_;first|refine yr ?_|refine yt ?_|refine yf ?_|refine yo ?_)
   exact FinW.of ⟨.tup [.agg (jvS (.mk 2#8 0#64 [] [] []) jc0),.c (.int .i64 0)],_,⟨[0,1],⟨rfl,rfl,rfl⟩,by (repeat first|exact trivial|refine ent1 ?_)⟩,.inl ⟨_,jc0,k1+4,W,ms,by rw [hPw,List.drop_drop],by omega,hk9,Later.refl _ _,TAt.leaf rfl rfl _,rfl,rfl⟩⟩
  have h2:decide ((s.drop k1).take ([116#8,114#8,117#8,101#8]:Bs).length=[116#8,114#8,117#8,101#8])=false:=decide_eq_false w2
  rw [if_neg w2] at hPw
  (repeat show _∧_;first|refine yr ?_|refine yt ?_|refine yf ?_|refine yt ?_ (by first|decide|(rw[h2];decide))|refine yf ?_ (by first|decide|(rw[h2];decide))|refine yo ?_)
  exact FinW.of ⟨.tup [.agg (jvS jt0 jc0),.c (.int .i64 23)],_,⟨[0,1],⟨rfl,rfl,rfl⟩,by (repeat first|exact trivial|refine ent1 ?_)⟩,.inr ⟨23,jt0,jc0,k1,W,ms,hPw,by decide,g1,g2,Later.refl _ _,rfl,rfl⟩⟩
 ·rw [e2] at hD
  have e3:decide (L s k1≤57#8)=false:=hD
  (repeat show _∧_;first|refine yr ?_|refine yt ?_|refine yf ?_|refine yt ?_ (by first|decide|(rw[e1];decide)|(rw[e2];decide)|(rw[e3];decide)|(rw[fc4];decide)|(rw[fc5];decide))|refine yf ?_ (by first|decide|(rw[e1];decide)|(rw[e2];decide)|(rw[e3];decide)|(rw[fc4];decide)|(rw[fc5];decide))|refine yo ?_)
  refine .inr ⟨4,?_⟩
  (repeat show _∧_;first|refine yr ?_|refine yt ?_|refine yf ?_|refine yo ?_)
  refine ⟨none,[],[(0,true),(1,true),(2,true),(3,true),(4,true),(5,true),(6,true),(7,true),(8,true),(9,true),(10,false)],[],by kernel_rfl,?_⟩
  (repeat show _∧_;first|refine yr ?_|refine yt ?_|refine yf ?_|refine yo ?_)
  refine And.intro ⟨by omega,by rw [U8_len]; omega,by omega⟩ ?_
  refine frcN_of (m:=k1) (Int.toNat_natCast k1) ?_
  refine frcN_of (m:=(U8 s).length) (Int.toNat_natCast _) ?_
  (repeat show _∧_;first|refine yr ?_|refine yt ?_|refine yf ?_|refine yo ?_)
  refine call_same (fn_prefix (s.drop k1) [110#8,117#8,108#8,108#8] hwl (by decide)) [] rfl (by exact And.intro (U8_rest s k1) (And.intro rfl trivial)) trivial (fun _ _=>trivial) ?_
  rintro x hs' ⟨rfl,rfl⟩
  by_cases w0:(s.drop k1).take 4=[110#8,117#8,108#8,108#8]
  ·have h0:decide ((s.drop k1).take ([110#8,117#8,108#8,108#8]:Bs).length=[110#8,117#8,108#8,108#8])=true:=decide_eq_true w0
   rw [if_pos w0] at hPw
   have hk9:k1+4≤s.length:=by have:=congrArg List.length w0; rw [List.length_take,List.length_drop] at this; simp only [List.length_cons,List.length_nil] at this; omega
   (repeat show _∧_;first|refine yr ?_|refine yt ?_|refine yf ?_|refine yt ?_ (by first|decide|(rw[h0];decide))|refine yf ?_ (by first|decide|(rw[h0];decide))|refine yo ?_)
   refine And.intro (show -9223372036854775808≤(k1:Int)+((4:Nat):Int)∧(k1:Int)+((4:Nat):Int)≤9223372036854775807 by omega) ?_
   (repeat show _∧_;first|refine yr ?_|refine yt ?_|refine yf ?_|refine yo ?_)
   exact FinW.of ⟨.tup [.agg (jvS (.mk 0#8 0#64 [] [] []) jc0),.c (.int .i64 0)],_,⟨[0,1],⟨rfl,rfl,rfl⟩,by (repeat first|exact trivial|refine ent1 ?_)⟩,.inl ⟨_,jc0,k1+4,W,ms,by rw [hPw,List.drop_drop],by omega,hk9,Later.refl _ _,TAt.leaf rfl rfl _,rfl,rfl⟩⟩
  have h0:decide ((s.drop k1).take ([110#8,117#8,108#8,108#8]:Bs).length=[110#8,117#8,108#8,108#8])=false:=decide_eq_false w0
  rw [if_neg w0] at hPw
  (repeat show _∧_;first|refine yr ?_|refine yt ?_|refine yf ?_|refine yt ?_ (by first|decide|(rw[h0];decide))|refine yf ?_ (by first|decide|(rw[h0];decide))|refine yo ?_)
  (repeat show _∧_;first|refine yr ?_|refine yt ?_|refine yf ?_|refine yo ?_)
  refine ⟨none,[],[(0,true),(1,true),(2,true),(3,true),(4,true),(5,true),(6,true),(7,true),(8,true),(9,true),(10,false)],[],by kernel_rfl,?_⟩
  (repeat show _∧_;first|refine yr ?_|refine yt ?_|refine yf ?_|refine yo ?_)
  refine And.intro ⟨by omega,by rw [U8_len]; omega,by omega⟩ ?_
  refine frcN_of (m:=k1) (Int.toNat_natCast k1) ?_
  refine frcN_of (m:=(U8 s).length) (Int.toNat_natCast _) ?_
  (repeat show _∧_;first|refine yr ?_|refine yt ?_|refine yf ?_|refine yo ?_)
  refine call_same (fn_prefix (s.drop k1) [102#8,97#8,108#8,115#8,101#8] hwl (by decide)) [] rfl (by exact And.intro (U8_rest s k1) (And.intro rfl trivial)) trivial (fun _ _=>trivial) ?_
  rintro x hs' ⟨rfl,rfl⟩
  by_cases w1:(s.drop k1).take 5=[102#8,97#8,108#8,115#8,101#8]
  ·have h1:decide ((s.drop k1).take ([102#8,97#8,108#8,115#8,101#8]:Bs).length=[102#8,97#8,108#8,115#8,101#8])=true:=decide_eq_true w1
   rw [if_pos w1] at hPw
   have hk9:k1+5≤s.length:=by have:=congrArg List.length w1; rw [List.length_take,List.length_drop] at this; simp only [List.length_cons,List.length_nil] at this; omega
   (repeat show _∧_;first|refine yr ?_|refine yt ?_|refine yf ?_|refine yt ?_ (by first|decide|(rw[h1];decide))|refine yf ?_ (by first|decide|(rw[h1];decide))|refine yo ?_)
   refine And.intro (show -9223372036854775808≤(k1:Int)+((5:Nat):Int)∧(k1:Int)+((5:Nat):Int)≤9223372036854775807 by omega) ?_
   (repeat show _∧_;first|refine yr ?_|refine yt ?_|refine yf ?_|refine yo ?_)
   exact FinW.of ⟨.tup [.agg (jvS (.mk 1#8 0#64 [] [] []) jc0),.c (.int .i64 0)],_,⟨[0,1],⟨rfl,rfl,rfl⟩,by (repeat first|exact trivial|refine ent1 ?_)⟩,.inl ⟨_,jc0,k1+5,W,ms,by rw [hPw,List.drop_drop],by omega,hk9,Later.refl _ _,TAt.leaf rfl rfl _,rfl,rfl⟩⟩
  have h1:decide ((s.drop k1).take ([102#8,97#8,108#8,115#8,101#8]:Bs).length=[102#8,97#8,108#8,115#8,101#8])=false:=decide_eq_false w1
  rw [if_neg w1] at hPw
  (repeat show _∧_;first|refine yr ?_|refine yt ?_|refine yf ?_|refine yt ?_ (by first|decide|(rw[h1];decide))|refine yf ?_ (by first|decide|(rw[h1];decide))|refine yo ?_)
  (repeat show _∧_;first|refine yr ?_|refine yt ?_|refine yf ?_|refine yo ?_)
  refine ⟨none,[],[(0,true),(1,true),(2,true),(3,true),(4,true),(5,true),(6,true),(7,true),(8,true),(9,true),(10,false)],[],by kernel_rfl,?_⟩
  (repeat show _∧_;first|refine yr ?_|refine yt ?_|refine yf ?_|refine yo ?_)
  refine And.intro ⟨by omega,by rw [U8_len]; omega,by omega⟩ ?_
  refine frcN_of (m:=k1) (Int.toNat_natCast k1) ?_
  refine frcN_of (m:=(U8 s).length) (Int.toNat_natCast _) ?_
  (repeat show _∧_;first|refine yr ?_|refine yt ?_|refine yf ?_|refine yo ?_)
  refine call_same (fn_prefix (s.drop k1) [116#8,114#8,117#8,101#8] hwl (by decide)) [] rfl (by exact And.intro (U8_rest s k1) (And.intro rfl trivial)) trivial (fun _ _=>trivial) ?_
  rintro x hs' ⟨rfl,rfl⟩
  by_cases w2:(s.drop k1).take 4=[116#8,114#8,117#8,101#8]
  ·have h2:decide ((s.drop k1).take ([116#8,114#8,117#8,101#8]:Bs).length=[116#8,114#8,117#8,101#8])=true:=decide_eq_true w2
   rw [if_pos w2] at hPw
   have hk9:k1+4≤s.length:=by have:=congrArg List.length w2; rw [List.length_take,List.length_drop] at this; simp only [List.length_cons,List.length_nil] at this; omega
   (repeat show _∧_;first|refine yr ?_|refine yt ?_|refine yf ?_|refine yt ?_ (by first|decide|(rw[h2];decide))|refine yf ?_ (by first|decide|(rw[h2];decide))|refine yo ?_)
   refine And.intro (show -9223372036854775808≤(k1:Int)+((4:Nat):Int)∧(k1:Int)+((4:Nat):Int)≤9223372036854775807 by omega) ?_
   (repeat show _∧_;first|refine yr ?_|refine yt ?_|refine yf ?_|refine yo ?_)
   exact FinW.of ⟨.tup [.agg (jvS (.mk 2#8 0#64 [] [] []) jc0),.c (.int .i64 0)],_,⟨[0,1],⟨rfl,rfl,rfl⟩,by (repeat first|exact trivial|refine ent1 ?_)⟩,.inl ⟨_,jc0,k1+4,W,ms,by rw [hPw,List.drop_drop],by omega,hk9,Later.refl _ _,TAt.leaf rfl rfl _,rfl,rfl⟩⟩
  have h2:decide ((s.drop k1).take ([116#8,114#8,117#8,101#8]:Bs).length=[116#8,114#8,117#8,101#8])=false:=decide_eq_false w2
  rw [if_neg w2] at hPw
  (repeat show _∧_;first|refine yr ?_|refine yt ?_|refine yf ?_|refine yt ?_ (by first|decide|(rw[h2];decide))|refine yf ?_ (by first|decide|(rw[h2];decide))|refine yo ?_)
  exact FinW.of ⟨.tup [.agg (jvS jt0 jc0),.c (.int .i64 23)],_,⟨[0,1],⟨rfl,rfl,rfl⟩,by (repeat first|exact trivial|refine ent1 ?_)⟩,.inr ⟨23,jt0,jc0,k1,W,ms,hPw,by decide,g1,g2,Later.refl _ _,rfl,rfl⟩⟩
theorem fn_value (s:Bs) (hs:s.length≤1048576):∀ (d depth:Nat),depth+d=8→ValC s d depth
 | 0,depth,h=>fn_value1 s hs 0 depth h (fun d' e=>by cases e)
 | d+1,depth,h=>fn_value1 s hs (d+1) depth h (fun d' e=>by
  injection e with e
  subst e
  exact fn_value s hs d (depth+1) (by omega))
def ParseA (W:World) (ms:List Nat) (s:Bs) (y:SV) (hs:List (List Seg)):Prop :=
 (∃ v x W' ms',parse s=.ok v []∧Later W ms W' ms'∧TAt W' ms' 8 v x∧y=.tup [.agg (jvS v x),.c (.int .i64 0),.c (.int .i64 0)]∧hs=[[.past W' ms']]) ∨
 (∃ e k W' ms',parse s=.bad e∧e≠0∧k≤s.length∧Later W ms W' ms'∧y=.tup [.agg (jvS jt0 jc0),.c (.int .i64 ((k:Nat):Int)),.c (.int .i64 e)]∧hs=[[.past W' ms']])
set_option maxRecDepth 20000 in
set_option maxHeartbeats 16000000 in
theorem fn_parse {W:World} {ms:List Nat} (hT:Tabs W ms) (s:Bs) (hs:s.length≤4611686018427387904):FnR Tryd.prog tds 17 1 [[.past W ms]] [.c (.str (U8 s))] (fun _=>True) (ParseA W ms s):=by
 refine fn_of_bodyW tds_ok follows_ Tryd.func17 rfl (t:=.a (.c (.str (U8 s)))::anys (Tryd.f17.ntmps-1)) rfl (fun w r0 hr0 _=>?_)
 obtain ⟨x0,rfl⟩:=len1' hr0
 by_cases h:1048576<s.length
 ·have e:decide ((1048576:Int)<(((U8 s).length:Nat):Int))=true:=decide_eq_true (by rw [U8_len]; omega)
  (repeat show _∧_;first|refine yr ?_|refine yt ?_|refine yf ?_|refine yt ?_ (by first|decide|(rw[e];decide))|refine yf ?_ (by first|decide|(rw[e];decide))|refine yo ?_)
  exact FinW.of ⟨.tup [.agg (jvS jt0 jc0),.c (.int .i64 ((0:Nat):Int)),.c (.int .i64 6)],_,⟨[0],⟨rfl,rfl,rfl⟩,by (repeat first|exact trivial|refine ent1 ?_)⟩,.inr ⟨6,0,W,ms,by unfold parse; rw [if_pos h],by decide,Nat.zero_le _,Later.refl _ _,rfl,rfl⟩⟩
 have e:decide ((1048576:Int)<(((U8 s).length:Nat):Int))=false:=decide_eq_false (by rw [U8_len]; omega)
 have hP:parse s=match pval 8 s with
   | .bad e=>.bad e
   | .ok v r=>if blanks r=[] then .ok v [] else .bad 24:=by
  unfold parse
  rw [if_neg h]
  cases pval 8 s <;> rfl
 (repeat show _∧_;first|refine yr ?_|refine yt ?_|refine yf ?_|refine yt ?_ (by first|decide|(rw[e];decide))|refine yf ?_ (by first|decide|(rw[e];decide))|refine yo ?_)
 refine call_past (fn_value s (by omega) 8 0 rfl W ms 0 hT (Nat.zero_le _)) 0 [2] rfl rfl (by (repeat first|exact trivial|refine ent1 ?_)) (by (repeat first|exact trivial|refine ent1 ?_)) (fun _ _=>trivial) (fun x hs hr=>?_) ?_
 ·rcases hr with ⟨v,x,k',W5,ms5,_,_,_,hL5,_,_,rfl⟩|⟨e,v,x,k',W5,ms5,_,_,_,_,hL5,_,rfl⟩
  ·exact ⟨W5,ms5,rfl,hL5⟩
  ·exact ⟨W5,ms5,rfl,hL5⟩
 rintro y hs' (⟨v,x,k',W5,ms5,p1,p2,p3,hL5,hx5,rfl,rfl⟩|⟨e',v,x,k',W5,ms5,p1,p0,p2,p3,hL5,rfl,rfl⟩)
 ·rw [List.drop_zero] at p1
  rw [p1] at hP
  dsimp only at hP
  (repeat show _∧_;first|refine yr ?_|refine yt ?_|refine yf ?_|refine yo ?_)
  refine call_same (fn_blanks s k' p3 (by omega)) [2] rfl (by (repeat first|exact trivial|refine ent1 ?_)) (by (repeat first|exact trivial|refine ent1 ?_)) (fun _ _=>trivial) ?_
  rintro y hs' ⟨k2,r1,r2,r3,rfl,rfl⟩
  rw [← r3] at hP
  by_cases c:k2<s.length
  ·have f1:decide ((k2:Int)<(((U8 s).length:Nat):Int))=true:=decide_eq_true (by rw [U8_len]; omega)
   rw [if_neg (by rw [drop_cons s k2 c]; exact List.cons_ne_nil _ _)] at hP
   (repeat show _∧_;first|refine yr ?_|refine yt ?_|refine yf ?_|refine yt ?_ (by first|decide|(rw[f1];decide))|refine yf ?_ (by first|decide|(rw[f1];decide))|refine yo ?_)
   refine ⟨some [2],[],[(0,true),(1,true),(2,true),(3,true),(4,true),(5,true),(6,false),(7,true),(8,true)],[],by kernel_rfl,?_⟩
   (repeat show _∧_;first|refine yr ?_|refine yt ?_|refine yf ?_|refine yo ?_)
   exact FinW.of ⟨.tup [.agg (jvS jt0 jc0),.c (.int .i64 ((k2:Nat):Int)),.c (.int .i64 24)],_,⟨[0],⟨rfl,rfl,rfl⟩,by (repeat first|exact trivial|refine ent1 ?_)⟩,.inr ⟨24,k2,W5,ms5,hP,by decide,r2,hL5,rfl,rfl⟩⟩
  ·have f1:decide ((k2:Int)<(((U8 s).length:Nat):Int))=false:=decide_eq_false (by rw [U8_len]; omega)
   rw [if_pos (List.drop_eq_nil_of_le (by omega))] at hP
   (repeat show _∧_;first|refine yr ?_|refine yt ?_|refine yf ?_|refine yt ?_ (by first|decide|(rw[f1];decide))|refine yf ?_ (by first|decide|(rw[f1];decide))|refine yo ?_)
   exact FinW.of ⟨.tup [.agg (jvS v x),.c (.int .i64 0),.c (.int .i64 0)],_,⟨[0],⟨rfl,rfl,rfl⟩,by (repeat first|exact trivial|refine ent1 ?_)⟩,.inl ⟨v,x,W5,ms5,hP,hL5,hx5,rfl,rfl⟩⟩
 ·rw [List.drop_zero] at p1
  rw [p1] at hP
  have f1:decide (e'=0)=false:=decide_eq_false p0
  have f2:decide (e'≠0)=true:=decide_eq_true p0
  (repeat show _∧_;first|refine yr ?_|refine yt ?_|refine yf ?_|refine yt ?_ (by first|decide|(rw[f1];decide)|(rw[f2];decide))|refine yf ?_ (by first|decide|(rw[f1];decide)|(rw[f2];decide))|refine yo ?_)
  refine ⟨some [2],[],[(0,true),(1,true),(2,true),(3,true),(4,true),(5,true),(6,false),(7,true),(8,true)],[],by kernel_rfl,?_⟩
  (repeat show _∧_;first|refine yr ?_|refine yt ?_|refine yf ?_|refine yo ?_)
  exact FinW.of ⟨.tup [.agg (jvS jt0 jc0),.c (.int .i64 ((k':Nat):Int)),.c (.int .i64 e')],_,⟨[0],⟨rfl,rfl,rfl⟩,by (repeat first|exact trivial|refine ent1 ?_)⟩,.inr ⟨e',k',W5,ms5,hP,p0,p3,hL5,rfl,rfl⟩⟩
end Sx
end
section
namespace Js
open Sha
theorem qr_enc_le (r:Nat) (h:scal r):(enc r).length≤(qr r).length:=by
 unfold qr
 split
 ·rename_i h; rcases h with h|h <;> subst h <;> decide
 split
 ·rename_i h; subst h; decide
 split
 ·rename_i h; subst h; decide
 split
 ·rename_i h; subst h; decide
 split
 ·unfold enc; rw [if_pos (by omega)]; show 1≤6; decide
 ·exact Nat.le_refl _
theorem flat_le:∀ (rs:List Nat),(∀ r∈rs,scal r)→(rs.flatMap enc).length≤(rs.flatMap qr).length
 | [],_=>Nat.le_refl _
 | r::rs,h=>by
  rw [List.flatMap_cons,List.flatMap_cons,List.length_append,List.length_append]
  have h1:=qr_enc_le r (h r (List.mem_cons_self ..))
  have h2:=flat_le rs (fun x hx=>h x (List.mem_cons_of_mem _ hx))
  omega
theorem quote_len {s:Bs} (h:Utf s):s.length≤(quote s).length:=by
 obtain ⟨rs,hrs,rfl⟩:=h
 rw [quote_of hrs]
 have:=flat_le rs hrs
 simp only [List.length_cons,List.length_append,List.length_nil]
 omega
theorem putL_mem (pv:JT→Bs):∀ (l:List JT),∀ x∈l,(pv x).length≤(putL pv l).length
 | [],x,h=>absurd h (by simp)
 | [y],x,h=>by
  simp only [List.mem_singleton] at h
  subst h; exact Nat.le_refl _
 | y::z::l,x,h=>by
  show _≤(pv y++44#8::putL pv (z::l)).length
  rw [List.length_append,List.length_cons]
  rcases List.mem_cons.1 h with h|h
  ·subst h; omega
  ·have:=putL_mem pv (z::l) x h; omega
theorem putO_mem (pv:JT→Bs):∀ (ns:List Bs) (l:List JT),ns.length=l.length→(∀ x∈l,(pv x).length≤(putO pv ns l).length)∧∀ s∈ns,(quote s).length≤(putO pv ns l).length
 | [],[],_=>⟨fun x h=>absurd h (by simp),fun x h=>absurd h (by simp)⟩
 | [s],[y],_=>by
  refine ⟨fun x h=>?_,fun x h=>?_⟩
  ·simp only [List.mem_singleton] at h
   subst h
   show _≤(quote s++58#8::pv _).length
   rw [List.length_append,List.length_cons]; omega
  ·simp only [List.mem_singleton] at h
   subst h
   show _≤(quote _++58#8::pv y).length
   rw [List.length_append,List.length_cons]; omega
 | s::t::ns,y::z::l,h=>by
  obtain ⟨h1,h2⟩:=putO_mem pv (t::ns) (z::l) (by simpa using h)
  have e:putO pv (s::t::ns) (y::z::l)=quote s++58#8::(pv y++44#8::putO pv (t::ns) (z::l)):=rfl
  rw [e]
  simp only [List.length_append,List.length_cons] at h1 h2 ⊢
  refine ⟨fun x h=>?_,fun x h=>?_⟩
  ·rcases List.mem_cons.1 h with h|h
   ·subst h; omega
   ·have:=h1 x h; omega
  ·rcases List.mem_cons.1 h with h|h
   ·subst h; omega
   ·have:=h2 x h; omega
end Js
namespace Sx
open Go.RowKit Sha Vi Js

theorem fn_put:∀ d,PutC d
 | 0=>fun W ms v x b c hT hx hn hc hl=>fn_put1 0 (fun d' e=>by cases e) b c hT hx hn hc hl
 | d+1=>fun W ms v x b c hT hx hn hc hl=>fn_put1 (d+1) (fun d' e=>by injection e with e; subst e; exact fn_put d) b c hT hx hn hc hl
theorem fn_putN (d:Nat) {W:World} {ms:List Nat} {v:JT} {x:JC} (hT:Tabs W ms) (hx:TAt W ms d v x) (hn:norm d v) (hl:(put d v).length≤70368744177664) :
  FnR Tryd.prog tds 45 1 [[.past W ms]] [.agg (jvS v x),.c (.slc none 0 0)] (fun _=>True)
  (fun y hs=>∃ c',(put d v).length≤c'∧y=.a (.c (.sl 1 0 0 (put d v).length c'))∧hs=[[.past W ms],lsC (put d v) c']):=fn_put0 d (fun d' _=>fn_put d') hT hx hn hl
set_option maxRecDepth 20000 in
set_option maxHeartbeats 8000000 in
theorem fn_jnames {W:World} {ms:List Nat} (hT:Tabs W ms) {a:Option Addr} {m c:Nat} {ns:List Bs} (h:StAt W ms a m c (ns.map U8)) (hu:∀ s∈ns,Utf s) (hnd:ns.Nodup) (hl:∀ s∈ns,s.length≤9223372036854775807) :
  FnR Tryd.prog tds 66 1 [[.past W ms]] [.c (.slc a m c)] (fun _=>True) (fun y hs=>y=.a (.c (.int .i64 0))∧hs=[[.past W ms]]):=by
 refine fn_of_body tds_ok follows_ Tryd.func66 rfl (t:=.a (.c (.slc a m c))::anys (Tryd.f66.ntmps-1)) rfl (fun w r0 hr0 _=>?_)
 obtain ⟨x0,rfl⟩:=len1' hr0
 have hm:ns.length=m:=by have h1:=h.len; simp only [List.length_map] at h1; omega
 have hcap:=h.cap
 by_cases h0:m=0
 ·have e0:decide ((m:Int)=0)=true:=decide_eq_true (by omega)
  (repeat show _∧_;first|refine yr ?_|refine yt ?_|refine yf ?_|refine yt ?_ (by first|decide|(rw[e0];decide))|refine yf ?_ (by first|decide|(rw[e0];decide))|refine yo ?_)
  exact ⟨.a (.c (.int .i64 0)),_,⟨[0],⟨rfl,rfl,rfl⟩,by (repeat first|exact trivial|refine ent1 ?_)⟩,rfl,rfl⟩
 have e0:decide ((m:Int)=0)=false:=decide_eq_false (by omega)
 (repeat show _∧_;first|refine yr ?_|refine yt ?_|refine yf ?_|refine yt ?_ (by first|decide|(rw[e0];decide))|refine yf ?_ (by first|decide|(rw[e0];decide))|refine yo ?_)
 refine And.intro trivial ?_
 (repeat show _∧_;first|refine yr ?_|refine yt ?_|refine yf ?_|refine yo ?_)
 refine .inl ⟨Nat,fun j=>⟨[.a (.c (.slc a m c)),.any,.a (.c (.int .i64 (0))),.a (.c (.mh 1)),.any,.any,.any,.any,.any,.any,.any,.any,.any,.any,.a (.c (.slc a m c)),.a (.c (.int .i64 (m))),.a (.c (.int .i64 (((j:Nat):Int)))),.any,.any,.any,.any,.any,.any,.any,.any,.any,.any,.any,.any,.any,.any,.any,.any,.any],[[.past W ms],hadC (ns.take j)]⟩,
  fun j=>j≤ns.length,fun j=>ns.length-j,⟨0,[0,1],⟨⟨rfl,rfl,rfl⟩,by (repeat first|exact trivial|refine ent1 ?_)⟩,Nat.zero_le _⟩,fun j hj0=>?_⟩
 by_cases hj:j<ns.length
 rotate_left
 ·have e1:decide ((j:Int)<(m:Int))=false:=decide_eq_false (by omega)
  (repeat show _∧_;first|refine yr ?_|refine yt ?_|refine yf ?_|refine yt ?_ (by first|decide|(rw[e1];decide))|refine yf ?_ (by first|decide|(rw[e1];decide))|refine yo ?_)
  exact ⟨.a (.c (.int .i64 0)),_,⟨[0],⟨rfl,rfl,rfl⟩,by (repeat first|exact trivial|refine ent1 ?_)⟩,rfl,rfl⟩
 have e1:decide ((j:Int)<(m:Int))=true:=decide_eq_true (by omega)
 obtain ⟨A,rfl⟩:∃ A,a=some A:=by
  cases a with
  | none=>exact absurd (h.nil rfl) (by have:=h.le; omega)
  | some A=>exact ⟨A,rfl⟩
 have him:=(h.im A rfl (by have:=h.le; omega)).one (show ((ns.map U8).map SC.str)[j]?=some (.str (U8 ns[j])) by simp [hj])
 (repeat show _∧_;first|refine yr ?_|refine yt ?_|refine yf ?_|refine yt ?_ (by first|decide|(rw[e1];decide))|refine yf ?_ (by first|decide|(rw[e1];decide))|refine yo ?_)
 refine ⟨[.one (.str (U8 ns[j]))],⟨.past (i:=0) rfl (by show ImAt W ms (A.add (j*1)) _; rw [Nat.mul_one]; exact him),rfl⟩,?_⟩
 (repeat show _∧_;first|refine yr ?_|refine yt ?_|refine yf ?_|refine yo ?_)
 refine call_same (fn_valid hT (hu _ (List.getElem_mem hj)) (hl _ (List.getElem_mem hj))) [0] rfl (by exact And.intro rfl trivial) (by (repeat first|exact trivial|refine ent1 ?_)) (fun _ _=>trivial) ?_
 rintro y hs ⟨rfl,rfl⟩
 have hni:ns[j] ∉ ns.take j:=by
  intro hc
  obtain ⟨i,hi,he⟩:=List.mem_iff_getElem.1 hc
  rw [List.length_take] at hi
  rw [List.getElem_take] at he
  exact List.pairwise_iff_getElem.1 hnd i j (by omega) hj (by omega) he
 have hh:=hasS_U8 ns[j] (ns.take j)
 rw [decide_eq_false hni] at hh
 have hput:putL' (U8 ns[j]) ((ns.take j).map U8)=(ns.take (j+1)).map U8:=by
  unfold putL'; rw [hh,List.take_add_one,List.getElem?_eq_getElem hj,Option.toList_some,List.map_append]; rfl
 (repeat show _∧_;first|refine yr ?_|refine yt ?_|refine yf ?_|refine yt ?_ (by first|decide|(rw[hh];decide))|refine yf ?_ (by first|decide|(rw[hh];decide))|refine yo ?_)
 rw [hput]
 refine ⟨j+1,[0,1],⟨⟨rfl,rfl,rfl⟩,?_⟩,hj,by dsimp only; omega⟩
 (repeat first|exact trivial|refine ent1 ?_)
def ChkC (d depth:Nat):Prop:=∀ (W:World) (ms:List Nat) (v:JT) (x:JC),Tabs W ms→TAt W ms d v x→norm d v→(put d v).length≤70368744177664 →
 FnR Tryd.prog tds 46 1 [[.past W ms],[.one (.slc none 0 0)]] [.c (.p 1 0 0),.agg (jvS v x),.c (.int .i64 (depth:Int))] (fun _=>True) (fun y hs=>y=.a (.c (.int .i64 0))∧hs=[[.past W ms],[.one (.slc none 0 0)]])
theorem fn_nests (k:BitVec 8):Fn Tryd.prog tds 64 [] [.c (.w8 k)] (fun _=>True) (fun y hs=>y=.a (.c (.bool (decide (k=5#8∨k=6#8))))∧hs=[]):=by
 refine fn_of_body tds_ok follows_ Tryd.func64 rfl (t:=.a (.c (.w8 k))::anys (Tryd.f64.ntmps-1)) rfl (fun w r0 hr0 _=>?_)
 obtain rfl:r0=[]:=List.eq_nil_of_length_eq_zero hr0
 by_cases h5:k=5#8
 ·have e5:decide (k=5#8)=true:=decide_eq_true h5
  rw [decide_eq_true (Or.inl h5)]
  (repeat show _∧_;first|refine yr ?_|refine yt ?_|refine yf ?_|refine yt ?_ (by first|decide|(rw[e5];decide))|refine yf ?_ (by first|decide|(rw[e5];decide))|refine yo ?_)
  exact ⟨.a (.c (.bool true)),_,⟨[],⟨rfl,rfl,rfl⟩,by (repeat first|exact trivial|refine ent1 ?_)⟩,rfl,rfl⟩
 have e5:decide (k=5#8)=false:=decide_eq_false h5
 have e6:decide (k=5#8∨k=6#8)=decide (k=6#8):=decide_eq_decide.2 ⟨fun h=>h.resolve_left h5,.inr⟩
 rw [e6]
 (repeat show _∧_;first|refine yr ?_|refine yt ?_|refine yf ?_|refine yt ?_ (by first|decide|(rw[e5];decide))|refine yf ?_ (by first|decide|(rw[e5];decide))|refine yo ?_)
 exact ⟨.a (.c (.bool (decide (k=6#8)))),_,⟨[],⟨rfl,rfl,rfl⟩,by (repeat first|exact trivial|refine ent1 ?_)⟩,rfl,rfl⟩
set_option maxRecDepth 20000 in
set_option maxHeartbeats 16000000 in
theorem fn_chk1 (d depth:Nat) (hdd:depth+d≤8) (hrec:∀ d',d=d'+1→ChkC d' (depth+1)):ChkC d depth:=by
 intro W ms v x hT hx hn hl
 refine fn_of_body tds_ok follows_ Tryd.func46 rfl (t:=.a (.c (.p 1 0 0))::.a (.agg (jvS v x))::.a (.c (.int .i64 (depth:Int)))::anys (Tryd.f46.ntmps-3)) rfl (fun w r0 hr0 _=>?_)
 obtain ⟨x0,x1,rfl⟩:=len2' hr0
 have hk6:v.k.toNat≤6:=by
  cases d with
  | zero=>have:=hn.2.2.2.2.1; omega
  | succ d =>
   rcases hn with hlf|⟨_,_,_,h5|h6⟩
   ·have:=hlf.2.2.2.2.1; omega
   ·rw [h5.1]; decide
   ·rw [h6.1]; decide
 have hU:Utf v.s:=by
  cases d with
  | zero=>exact hn.2.2.2.2.2
  | succ d =>
   rcases hn with hlf|⟨_,h2,_⟩
   ·exact hlf.2.2.2.2.2
   ·rw [h2]; exact ⟨[],by simp,rfl⟩
 have f0:decide (6#8<v.k)=false:=decide_eq_false (by rw [BitVec.lt_def]; show ¬ 6<v.k.toNat; omega)
 have hsl:v.s.length≤9223372036854775807:=by
  have h1:v.k=4#8∨v.s=[]:=by
   cases d with
   | zero=>exact hn.2.2.2.1
   | succ d =>
    rcases hn with hlf|⟨_,h2,_⟩
    ·exact hlf.2.2.2.1
    ·exact .inr h2
  rcases h1 with h1|h1
  ·have h2:put d v=quote v.s:=by cases d <;> (unfold put put1; rw [if_neg (by rw [h1]; decide),if_neg (by rw [h1]; decide),if_neg (by rw [h1]; decide),if_neg (by rw [h1]; decide),if_pos h1])
   have h3:=quote_len hU
   rw [h2] at hl; omega
  ·rw [h1]; exact Nat.zero_le _
 have hxl:=hx.len
 have hxn:=hx.ns
 by_cases kn:v.k=5#8∨v.k=6#8
 rotate_left
 ·have en:decide (v.k=5#8∨v.k=6#8)=false:=decide_eq_false kn
  have e6:decide (v.k=6#8)=false:=decide_eq_false fun h=>kn (.inr h)
  have hlf:leaf v:=by
   cases d with
   | zero=>exact hn
   | succ d =>
    rcases hn with hlf|⟨_,_,_,h5|h6⟩
    ·exact hlf
    ·exact absurd (.inl h5.1) kn
    ·exact absurd (.inr h6.1) kn
  have em:decide ((x.m:Int)=0)=true:=decide_eq_true (by rw [hlf.1] at hxl; simp at hxl; omega)
  (repeat show _∧_;first|refine yr ?_|refine yt ?_|refine yf ?_|refine yt ?_ (by first|decide|(rw[f0];decide))|refine yf ?_ (by first|decide|(rw[f0];decide))|refine yo ?_)
  refine call_same (fn_nests v.k) [] rfl (by exact And.intro rfl trivial) trivial (fun _ _=>trivial) ?_
  rintro y hs ⟨rfl,rfl⟩
  (repeat show _∧_;first|refine yr ?_|refine yt ?_|refine yf ?_|refine yt ?_ (by first|decide|(rw[en];decide))|refine yf ?_ (by first|decide|(rw[en];decide))|refine yo ?_)
  refine call_same (fn_valid hT hU hsl) [0] rfl (by exact And.intro rfl trivial) (by (repeat first|exact trivial|refine ent1 ?_)) (fun _ _=>trivial) ?_
  rintro y hs ⟨rfl,rfl⟩
  (repeat show _∧_;first|refine yr ?_|refine yt ?_|refine yf ?_|refine yt ?_ (by first|decide|(rw[e6];decide))|refine yf ?_ (by first|decide|(rw[e6];decide))|refine yo ?_)
  refine call_same (fn_jnames hT hxn (by rw [hlf.2.1]; simp) (by rw [hlf.2.1]; simp) (by rw [hlf.2.1]; simp)) [0] rfl (by exact And.intro rfl trivial) (by (repeat first|exact trivial|refine ent1 ?_)) (fun _ _=>trivial) ?_
  rintro y hs ⟨rfl,rfl⟩
  (repeat show _∧_;first|refine yr ?_|refine yt ?_|refine yf ?_|refine yt ?_ (by first|decide|(rw[em];decide))|refine yf ?_ (by first|decide|(rw[em];decide))|refine yo ?_)
  exact ⟨.a (.c (.int .i64 0)),_,⟨[0,1],⟨rfl,rfl,rfl⟩,by (repeat first|exact trivial|refine ent1 ?_)⟩,rfl,rfl⟩
 have en:decide (v.k=5#8∨v.k=6#8)=true:=decide_eq_true kn
 obtain ⟨d',rfl,hv3,hk⟩:∃ d',d=d'+1∧(∀ x∈v.l,norm d' x)∧((v.k=5#8∧v.ns=[])∨(v.k=6#8∧v.ns.length=v.l.length∧v.ns.Nodup∧∀ s∈v.ns,Utf s)):=by
  have hno:¬ leaf v:=fun hlf=>by
   have:=hlf.2.2.2.2.1
   rcases kn with h|h <;> rw [h] at this <;> exact absurd this (by decide)
  cases d with
  | zero=>exact absurd hn hno
  | succ d=>exact ⟨d,rfl,(hn.resolve_left hno).2.2⟩
 have hput:(∀ x∈v.l,(put d' x).length≤70368744177664)∧∀ s∈v.ns,s.length≤9223372036854775807:=by
  rcases hk with ⟨h5,h6⟩|⟨h6,hnl,_,hu⟩
  ·have h2:put (d'+1) v=91#8::(putL (put d') v.l++[93#8])  :=by show put1 _ _ v=_; unfold put1; rw [if_neg (by rw [h5]; decide),if_neg (by rw [h5]; decide),if_neg (by rw [h5]; decide),if_neg (by rw [h5]; decide),if_neg (by rw [h5]; decide),if_pos h5]
   rw [h2] at hl
   simp only [List.length_cons,List.length_append,List.length_nil] at hl
   exact ⟨fun x hx=>by have:=Js.putL_mem (put d') v.l x hx; omega,by rw [h6]; simp⟩
  ·have h2:put (d'+1) v=123#8::(putO (put d') v.ns v.l++[125#8])  :=by show put1 _ _ v=_; unfold put1; rw [if_neg (by rw [h6]; decide),if_neg (by rw [h6]; decide),if_neg (by rw [h6]; decide),if_neg (by rw [h6]; decide),if_neg (by rw [h6]; decide),if_neg (by rw [h6]; decide)]
   rw [h2] at hl
   simp only [List.length_cons,List.length_append,List.length_nil] at hl
   obtain ⟨q1,q2⟩:=putO_mem (put d') v.ns v.l hnl
   exact ⟨fun x hx=>by have:=q1 x hx; omega,fun s hs=>by have:=q2 s hs; have:=quote_len (hu s hs); omega⟩
 obtain ⟨hput,hnlen⟩:=hput
 have hnu:∀ s∈v.ns,Utf s:=by
  rcases hk with ⟨_,h6⟩|⟨_,_,_,hu⟩
  ·rw [h6]; simp
  ·exact hu
 have hnd:v.ns.Nodup:=by
  rcases hk with ⟨_,h6⟩|⟨_,_,hd,_⟩
  ·rw [h6]; simp
  ·exact hd
 have e8:decide ((8:Int)≤(depth:Int))=false:=decide_eq_false (by omega)
 obtain ⟨⟨g1,g2,g3,g4,g5⟩,hns⟩:=hx
 obtain ⟨xa,xm,xc,xb,xp,xq⟩:=x
 dsimp only at g1 g2 g3 g4 g5 hns
 have e6:(decide (v.k=6#8)=true∧decide ((xp:Int)≠(xm:Int))=false)∨decide (v.k=6#8)=false:=by
  rcases hk with ⟨h5,_⟩|⟨h6,hnl,_⟩
  ·exact .inr (decide_eq_false (by rw [h5]; decide))
  ·refine .inl ⟨decide_eq_true h6,decide_eq_false (not_not_intro ?_)⟩
   have h1:=hns.len
   simp only [List.length_map] at h1
   omega
 (repeat show _∧_;first|refine yr ?_|refine yt ?_|refine yf ?_|refine yt ?_ (by first|decide|(rw[f0];decide))|refine yf ?_ (by first|decide|(rw[f0];decide))|refine yo ?_)
 refine call_same (fn_nests v.k) [] rfl (by exact And.intro rfl trivial) trivial (fun _ _=>trivial) ?_
 rintro y hs ⟨rfl,rfl⟩
 (repeat show _∧_;first|refine yr ?_|refine yt ?_|refine yf ?_|refine yt ?_ (by first|decide|(rw[en];decide)|(rw[e8];decide))|refine yf ?_ (by first|decide|(rw[en];decide)|(rw[e8];decide))|refine yo ?_)
 refine call_same (fn_valid hT hU hsl) [0] rfl (by exact And.intro rfl trivial) (by (repeat first|exact trivial|refine ent1 ?_)) (fun _ _=>trivial) ?_
 rintro y hs ⟨rfl,rfl⟩
 rcases e6 with ⟨e6,e7⟩|e6
 ·(repeat show _∧_;first|refine yr ?_|refine yt ?_|refine yf ?_|refine yt ?_ (by first|decide|(rw[e6];decide)|(rw[e7];decide))|refine yf ?_ (by first|decide|(rw[e6];decide)|(rw[e7];decide))|refine yo ?_)
  refine call_same (fn_jnames hT hns hnu hnd hnlen) [0] rfl (by exact And.intro rfl trivial) (by (repeat first|exact trivial|refine ent1 ?_)) (fun _ _=>trivial) ?_
  rintro y hs ⟨rfl,rfl⟩
  by_cases hm0:xm=0
  ·have em:decide ((xm:Int)=0)=true:=decide_eq_true (by omega)
   (repeat show _∧_;first|refine yr ?_|refine yt ?_|refine yf ?_|refine yt ?_ (by first|decide|(rw[em];decide))|refine yf ?_ (by first|decide|(rw[em];decide))|refine yo ?_)
   exact ⟨.a (.c (.int .i64 0)),_,⟨[0,1],⟨rfl,rfl,rfl⟩,by (repeat first|exact trivial|refine ent1 ?_)⟩,rfl,rfl⟩
  have em:decide ((xm:Int)=0)=false:=decide_eq_false (by omega)
  (repeat show _∧_;first|refine yr ?_|refine yt ?_|refine yf ?_|refine yt ?_ (by first|decide|(rw[em];decide))|refine yf ?_ (by first|decide|(rw[em];decide))|refine yo ?_)
  refine call_same (fn_nests v.k) [] rfl (by exact And.intro rfl trivial) trivial (fun _ _=>trivial) ?_
  rintro y hs ⟨rfl,rfl⟩
  (repeat show _∧_;first|refine yr ?_|refine yt ?_|refine yf ?_|refine yt ?_ (by first|decide|(rw[en];decide))|refine yf ?_ (by first|decide|(rw[en];decide))|refine yo ?_)
  refine .inl ⟨Nat,fun j=>⟨[.a (.c (.p 1 0 0)),.any,.a (.c (.int .i64 ((((depth+1:Nat)):Int)))),.any,.any,.any,.a (.c (.int .i64 (0))),.any,.any,.any,.any,.any,.any,.any,.any,.any,.any,.any,.any,.any,.any,.any,.any,.any,.any,.any,.any,.any,.any,.any,.any,.any,.any,.any,.any,.any,.any,.any,.any,.any,.any,.any,.any,.any,.any,.any,.any,.any,.any,.any,.any,.any,.any,.any,.any,.any,.any,.any,.any,.any,.any,.any,.any,.any,.any,.any,.any,.any,.any,.any,.any,.any,.any,.any,.any,.any,.any,.any,.any,.any,.any,.any,.a (.c (.slc xa xm xc)),.a (.c (.int .i64 (xm))),.a (.c (.int .i64 (((j:Nat):Int)))),.any,.any,.any,.any,.any,.any,.any,.any,.any,.any,.any],[[.past W ms],[.one (.slc none 0 0)]]⟩,
   fun j=>j≤v.l.length,fun j=>v.l.length-j,⟨0,[0,1],⟨⟨rfl,rfl,rfl⟩,?_⟩,Nat.zero_le _⟩,fun j hj0=>?_⟩
  ·(repeat first|exact trivial|refine ent1 ?_)
  by_cases hj:j<v.l.length
  rotate_left
  ·have e1:decide ((j:Int)<(xm:Int))=false:=decide_eq_false (by omega)
   (repeat show _∧_;first|refine yr ?_|refine yt ?_|refine yf ?_|refine yt ?_ (by first|decide|(rw[e1];decide))|refine yf ?_ (by first|decide|(rw[e1];decide))|refine yo ?_)
   exact ⟨.a (.c (.int .i64 0)),_,⟨[0,1],⟨rfl,rfl,rfl⟩,by (repeat first|exact trivial|refine ent1 ?_)⟩,rfl,rfl⟩
  have e1:decide ((j:Int)<(xm:Int))=true:=decide_eq_true (by omega)
  obtain ⟨A,rfl⟩:∃ A,xa=some A:=by
   cases xa with
   | none=>exact absurd (g4 rfl) (by omega)
   | some A=>exact ⟨A,rfl⟩
  obtain ⟨y,y1,y2⟩:=(g5 A rfl (by omega)).2 j v.l[j] (List.getElem?_eq_getElem hj)
  (repeat show _∧_;first|refine yr ?_|refine yt ?_|refine yf ?_|refine yt ?_ (by first|decide|(rw[e1];decide))|refine yf ?_ (by first|decide|(rw[e1];decide))|refine yo ?_)
  refine ⟨jvS v.l[j] y,⟨.past (i:=0) rfl (by exact y1),rfl⟩,?_⟩
  (repeat show _∧_;first|refine yr ?_|refine yt ?_|refine yf ?_|refine yo ?_)
  refine call_same (hrec d' rfl W ms v.l[j] y hT y2 (hv3 _ (List.getElem_mem hj)) (hput _ (List.getElem_mem hj))) [0,1] rfl (by (repeat first|exact trivial|refine ent1 ?_)) (by (repeat first|exact trivial|refine ent1 ?_)) (fun _ _=>trivial) ?_
  rintro y' hs ⟨rfl,rfl⟩
  (repeat show _∧_;first|refine yr ?_|refine yt ?_|refine yf ?_|refine yo ?_)
  refine ⟨j+1,[0,1],⟨⟨rfl,rfl,rfl⟩,?_⟩,hj,by dsimp only; omega⟩
  (repeat first|exact trivial|refine ent1 ?_)
 ·(repeat show _∧_;first|refine yr ?_|refine yt ?_|refine yf ?_|refine yt ?_ (by first|decide|(rw[e6];decide))|refine yf ?_ (by first|decide|(rw[e6];decide))|refine yo ?_)
  refine call_same (fn_jnames hT hns hnu hnd hnlen) [0] rfl (by exact And.intro rfl trivial) (by (repeat first|exact trivial|refine ent1 ?_)) (fun _ _=>trivial) ?_
  rintro y hs ⟨rfl,rfl⟩
  by_cases hm0:xm=0
  ·have em:decide ((xm:Int)=0)=true:=decide_eq_true (by omega)
   (repeat show _∧_;first|refine yr ?_|refine yt ?_|refine yf ?_|refine yt ?_ (by first|decide|(rw[em];decide))|refine yf ?_ (by first|decide|(rw[em];decide))|refine yo ?_)
   exact ⟨.a (.c (.int .i64 0)),_,⟨[0,1],⟨rfl,rfl,rfl⟩,by (repeat first|exact trivial|refine ent1 ?_)⟩,rfl,rfl⟩
  have em:decide ((xm:Int)=0)=false:=decide_eq_false (by omega)
  (repeat show _∧_;first|refine yr ?_|refine yt ?_|refine yf ?_|refine yt ?_ (by first|decide|(rw[em];decide))|refine yf ?_ (by first|decide|(rw[em];decide))|refine yo ?_)
  refine call_same (fn_nests v.k) [] rfl (by exact And.intro rfl trivial) trivial (fun _ _=>trivial) ?_
  rintro y hs ⟨rfl,rfl⟩
  (repeat show _∧_;first|refine yr ?_|refine yt ?_|refine yf ?_|refine yt ?_ (by first|decide|(rw[en];decide))|refine yf ?_ (by first|decide|(rw[en];decide))|refine yo ?_)
  refine .inl ⟨Nat,fun j=>⟨[.a (.c (.p 1 0 0)),.any,.a (.c (.int .i64 ((((depth+1:Nat)):Int)))),.any,.any,.any,.a (.c (.int .i64 (0))),.any,.any,.any,.any,.any,.any,.any,.any,.any,.any,.any,.any,.any,.any,.any,.any,.any,.any,.any,.any,.any,.any,.any,.any,.any,.any,.any,.any,.any,.any,.any,.any,.any,.any,.any,.any,.any,.any,.any,.any,.any,.any,.any,.any,.any,.any,.any,.any,.any,.any,.any,.any,.any,.any,.any,.any,.any,.any,.any,.any,.any,.any,.any,.any,.any,.any,.any,.any,.any,.any,.any,.any,.any,.any,.any,.a (.c (.slc xa xm xc)),.a (.c (.int .i64 (xm))),.a (.c (.int .i64 (((j:Nat):Int)))),.any,.any,.any,.any,.any,.any,.any,.any,.any,.any,.any],[[.past W ms],[.one (.slc none 0 0)]]⟩,
   fun j=>j≤v.l.length,fun j=>v.l.length-j,⟨0,[0,1],⟨⟨rfl,rfl,rfl⟩,?_⟩,Nat.zero_le _⟩,fun j hj0=>?_⟩
  ·(repeat first|exact trivial|refine ent1 ?_)
  by_cases hj:j<v.l.length
  rotate_left
  ·have e1:decide ((j:Int)<(xm:Int))=false:=decide_eq_false (by omega)
   (repeat show _∧_;first|refine yr ?_|refine yt ?_|refine yf ?_|refine yt ?_ (by first|decide|(rw[e1];decide))|refine yf ?_ (by first|decide|(rw[e1];decide))|refine yo ?_)
   exact ⟨.a (.c (.int .i64 0)),_,⟨[0,1],⟨rfl,rfl,rfl⟩,by (repeat first|exact trivial|refine ent1 ?_)⟩,rfl,rfl⟩
  have e1:decide ((j:Int)<(xm:Int))=true:=decide_eq_true (by omega)
  obtain ⟨A,rfl⟩:∃ A,xa=some A:=by
   cases xa with
   | none=>exact absurd (g4 rfl) (by omega)
   | some A=>exact ⟨A,rfl⟩
  obtain ⟨y,y1,y2⟩:=(g5 A rfl (by omega)).2 j v.l[j] (List.getElem?_eq_getElem hj)
  (repeat show _∧_;first|refine yr ?_|refine yt ?_|refine yf ?_|refine yt ?_ (by first|decide|(rw[e1];decide))|refine yf ?_ (by first|decide|(rw[e1];decide))|refine yo ?_)
  refine ⟨jvS v.l[j] y,⟨.past (i:=0) rfl (by exact y1),rfl⟩,?_⟩
  (repeat show _∧_;first|refine yr ?_|refine yt ?_|refine yf ?_|refine yo ?_)
  refine call_same (hrec d' rfl W ms v.l[j] y hT y2 (hv3 _ (List.getElem_mem hj)) (hput _ (List.getElem_mem hj))) [0,1] rfl (by (repeat first|exact trivial|refine ent1 ?_)) (by (repeat first|exact trivial|refine ent1 ?_)) (fun _ _=>trivial) ?_
  rintro y' hs ⟨rfl,rfl⟩
  (repeat show _∧_;first|refine yr ?_|refine yt ?_|refine yf ?_|refine yo ?_)
  refine ⟨j+1,[0,1],⟨⟨rfl,rfl,rfl⟩,?_⟩,hj,by dsimp only; omega⟩
  (repeat first|exact trivial|refine ent1 ?_)
end Sx
end
section
namespace Sx
open Go.RowKit Sha Vi Js

theorem fn_chk:∀ (d depth:Nat),depth+d≤8→ChkC d depth
 | 0,depth,h=>fn_chk1 0 depth h (fun d' e=>by cases e)
 | d+1,depth,h=>fn_chk1 (d+1) depth h (fun d' e=>by
  injection e with e
  subst e
  exact fn_chk d (depth+1) (by omega))
set_option maxRecDepth 20000 in
theorem fn_check {d:Nat} (hd:d≤8) {W:World} {ms:List Nat} {v:JT} {x:JC} (hT:Tabs W ms) (hx:TAt W ms d v x) (hn:norm d v) (hl:(put d v).length≤70368744177664) :
  FnR Tryd.prog tds 20 1 [[.past W ms]] [.agg (jvS v x)] (fun _=>True) (fun y hs=>y=.a (.c (.int .i64 0))∧hs=[[.past W ms]]):=by
 refine fn_of_body tds_ok follows_ Tryd.func20 rfl (t:=.a (.agg (jvS v x))::anys (Tryd.f20.ntmps-1)) rfl (fun w r0 hr0 _=>?_)
 obtain ⟨x0,rfl⟩:=len1' hr0
 (repeat show _∧_;first|refine yr ?_|refine yt ?_|refine yf ?_|refine yo ?_)
 refine call_same (fn_chk d 0 (by omega) W ms v x hT hx hn hl) [0,2] rfl (by (repeat first|exact trivial|refine ent1 ?_)) (by (repeat first|exact trivial|refine ent1 ?_)) (fun _ _=>trivial) ?_
 rintro y hs ⟨rfl,rfl⟩
 exact ⟨.a (.c (.int .i64 0)),_,⟨[0],⟨rfl,rfl,rfl⟩,by (repeat first|exact trivial|refine ent1 ?_)⟩,rfl,rfl⟩
set_option maxRecDepth 20000 in
theorem fn_print {d:Nat} (hd:d≤8) {W:World} {ms:List Nat} {v:JT} {x:JC} (hT:Tabs W ms) (hx:TAt W ms d v x) (hn:norm d v) (hl:(put d v).length≤70368744177664) :
  FnR Tryd.prog tds 19 1 [[.past W ms]] [.agg (jvS v x)] (fun _=>True) (fun y hs=>y=.tup [.c (.str (U8 (put d v))),.c (.int .i64 0)]∧hs=[[.past W ms]]):=by
 refine fn_of_body tds_ok follows_ Tryd.func19 rfl (t:=.a (.agg (jvS v x))::anys (Tryd.f19.ntmps-1)) rfl (fun w r0 hr0 _=>?_)
 obtain ⟨x0,rfl⟩:=len1' hr0
 (repeat show _∧_;first|refine yr ?_|refine yt ?_|refine yf ?_|refine yo ?_)
 refine call_same (fn_check hd hT hx hn hl) [0] rfl (by (repeat first|exact trivial|refine ent1 ?_)) (by (repeat first|exact trivial|refine ent1 ?_)) (fun _ _=>trivial) ?_
 rintro y hs ⟨rfl,rfl⟩
 (repeat show _∧_;first|refine yr ?_|refine yt ?_|refine yf ?_|refine yo ?_)
 refine call_same (fn_putN d hT hx hn hl) [0] rfl (by (repeat first|exact trivial|refine ent1 ?_)) (by (repeat first|exact trivial|refine ent1 ?_)) (fun _ _=>trivial) ?_
 rintro y hs ⟨c',hc',rfl,rfl⟩
 (repeat show _∧_;first|refine yr ?_|refine yt ?_|refine yf ?_|refine yo ?_)
 refine And.intro (by simp only [scale]; omega) ?_
 refine ⟨U8 (put d v),⟨U8_len _,fun q hq=>by show SC.mp _ (bytesF (put d v).length (L (put d v)) (q+0))=_; rw [Nat.add_zero,bytesF_lt hq,U8_get _ q hq]; rfl⟩,?_⟩
 exact ⟨.tup [.c (.str (U8 (put d v))),.c (.int .i64 0)],_,⟨[0],⟨rfl,rfl,rfl⟩,by (repeat first|exact trivial|refine ent1 ?_)⟩,rfl,rfl⟩
end Sx
end
section
namespace Sx
open Go.RowKit Sha Vi Js

theorem StAt.elt {W:World} {ms:List Nat} {a:Option Addr} {m c:Nat} {ns:List Bs} (h:StAt W ms a m c (ns.map U8)) {j:Nat} (hj:j<ns.length):∃ A,a=some A∧ImAt W ms (A.add (j*1)) [.str (U8 ns[j])]:=by
 have h1:=h.len
 simp only [List.length_map] at h1
 have h2:=h.le
 cases a with
 | none=>exact absurd (h.nil rfl) (by omega)
 | some A=>exact ⟨A,rfl,by rw [Nat.mul_one]; exact (h.im A rfl (by omega)).one (by simp [hj])⟩
end Sx
end
section
namespace Sx
open Go.RowKit Sha Vi Js Ev Qj

theorem fn_qnum (n:BitVec 64):Fn Tryd.prog tds 32 [] [.c (.w64 n)] (fun _=>True) (fun y hs=>y=.a (.agg (jvS (tNum n) jc0))∧hs=[]):=by
 refine fn_of_body tds_ok follows_ Tryd.func32 rfl (t:=.a (.c (.w64 n))::anys (Tryd.f32.ntmps-1)) rfl (fun w r0 hr0 _=>?_)
 obtain rfl:r0=[]:=List.eq_nil_of_length_eq_zero hr0
 (repeat show _∧_;first|refine yr ?_|refine yt ?_|refine yf ?_|refine yo ?_)
 exact ⟨.a (.agg (jvS (tNum n) jc0)),_,⟨[],⟨rfl,rfl,rfl⟩,by (repeat first|exact trivial|refine ent1 ?_)⟩,rfl,rfl⟩
theorem fn_qtext (s:Bs):Fn Tryd.prog tds 34 [] [.c (.str (U8 s))] (fun _=>True) (fun y hs=>y=.a (.agg (jvS (tText s) jc0))∧hs=[]):=by
 refine fn_of_body tds_ok follows_ Tryd.func34 rfl (t:=.a (.c (.str (U8 s)))::anys (Tryd.f34.ntmps-1)) rfl (fun w r0 hr0 _=>?_)
 obtain rfl:r0=[]:=List.eq_nil_of_length_eq_zero hr0
 (repeat show _∧_;first|refine yr ?_|refine yt ?_|refine yf ?_|refine yo ?_)
 exact ⟨.a (.agg (jvS (tText s) jc0)),_,⟨[],⟨rfl,rfl,rfl⟩,by (repeat first|exact trivial|refine ent1 ?_)⟩,rfl,rfl⟩
set_option maxRecDepth 20000 in
theorem fn_qdigit (c:BitVec 8):Fn Tryd.prog tds 68 [] [.c (.w8 c)] (fun _=>True) (fun y hs=>y=.tup [.c (.w8 ((dig1 c).getD 0#8)),.c (.bool (dig1 c).isSome)]∧hs=[]):=by
 refine fn_of_body tds_ok follows_ Tryd.func68 rfl (t:=.a (.c (.w8 c))::anys (Tryd.f68.ntmps-1)) rfl (fun w r0 hr0 _=>?_)
 obtain rfl:r0=[]:=List.eq_nil_of_length_eq_zero hr0
 by_cases h1:48≤c.toNat∧c.toNat≤57
 ·have e1:decide (48#8≤c)=true:=decide_eq_true h1.1
  have e2:decide (c≤57#8)=true:=decide_eq_true h1.2
  have hd:dig1 c=some (c-48#8):=by unfold dig1; rw [if_pos h1]
  rw [hd]
  (repeat show _∧_;first|refine yr ?_|refine yt ?_|refine yf ?_|refine yt ?_ (by first|decide|(rw[e1];decide)|(rw[e2];decide))|refine yf ?_ (by first|decide|(rw[e1];decide)|(rw[e2];decide))|refine yo ?_)
  exact ⟨.tup [.c (.w8 (c-48#8)),.c (.bool true)],_,⟨[],⟨rfl,rfl,rfl⟩,by (repeat first|exact trivial|refine ent1 ?_)⟩,rfl,rfl⟩
 have hF:∀ {P:Prop},((decide (48#8≤c)=true∧decide (c≤57#8)=false)∨decide (48#8≤c)=false→P)→P:=fun k=>k (by
  by_cases h:48#8≤c
  ·exact .inl ⟨decide_eq_true h,decide_eq_false fun h2=>h1 ⟨h,h2⟩⟩
  ·exact .inr (decide_eq_false h))
 by_cases h2:97≤c.toNat∧c.toNat≤102
 ·have f1:decide (97#8≤c)=true:=decide_eq_true h2.1
  have f2:decide (c≤102#8)=true:=decide_eq_true h2.2
  have hd:dig1 c=some (c-97#8+10#8):=by unfold dig1; rw [if_neg h1,if_pos h2]
  have e1:decide (48#8≤c)=true:=decide_eq_true (show 48≤c.toNat by omega)
  have e2:decide (c≤57#8)=false:=decide_eq_false (show ¬ c.toNat≤57 by omega)
  rw [hd]
  (repeat show _∧_;first|refine yr ?_|refine yt ?_|refine yf ?_|refine yt ?_ (by first|decide|(rw[e1];decide)|(rw[e2];decide)|(rw[f1];decide)|(rw[f2];decide))|refine yf ?_ (by first|decide|(rw[e1];decide)|(rw[e2];decide)|(rw[f1];decide)|(rw[f2];decide))|refine yo ?_)
  exact ⟨.tup [.c (.w8 (c-97#8+10#8)),.c (.bool true)],_,⟨[],⟨rfl,rfl,rfl⟩,by (repeat first|exact trivial|refine ent1 ?_)⟩,rfl,rfl⟩
 have hd:dig1 c=none:=by unfold dig1; rw [if_neg h1,if_neg h2]
 rw [hd]
 have hG:(decide (97#8≤c)=true∧decide (c≤102#8)=false)∨decide (97#8≤c)=false:=by
  by_cases h:97#8≤c
  ·exact .inl ⟨decide_eq_true h,decide_eq_false fun h3=>h2 ⟨h,h3⟩⟩
  ·exact .inr (decide_eq_false h)
 apply hF
 rintro (⟨e1,e2⟩|e1)
 ·rcases hG with ⟨f1,f2⟩|f1
  ·(repeat show _∧_;first|refine yr ?_|refine yt ?_|refine yf ?_|refine yt ?_ (by first|decide|(rw[e1];decide)|(rw[e2];decide)|(rw[f1];decide)|(rw[f2];decide))|refine yf ?_ (by first|decide|(rw[e1];decide)|(rw[e2];decide)|(rw[f1];decide)|(rw[f2];decide))|refine yo ?_)
   exact ⟨.tup [.c (.w8 0#8),.c (.bool false)],_,⟨[],⟨rfl,rfl,rfl⟩,by (repeat first|exact trivial|refine ent1 ?_)⟩,rfl,rfl⟩
  ·(repeat show _∧_;first|refine yr ?_|refine yt ?_|refine yf ?_|refine yt ?_ (by first|decide|(rw[e1];decide)|(rw[e2];decide)|(rw[f1];decide))|refine yf ?_ (by first|decide|(rw[e1];decide)|(rw[e2];decide)|(rw[f1];decide))|refine yo ?_)
   exact ⟨.tup [.c (.w8 0#8),.c (.bool false)],_,⟨[],⟨rfl,rfl,rfl⟩,by (repeat first|exact trivial|refine ent1 ?_)⟩,rfl,rfl⟩
 ·rcases hG with ⟨f1,f2⟩|f1
  ·(repeat show _∧_;first|refine yr ?_|refine yt ?_|refine yf ?_|refine yt ?_ (by first|decide|(rw[e1];decide)|(rw[f1];decide)|(rw[f2];decide))|refine yf ?_ (by first|decide|(rw[e1];decide)|(rw[f1];decide)|(rw[f2];decide))|refine yo ?_)
   exact ⟨.tup [.c (.w8 0#8),.c (.bool false)],_,⟨[],⟨rfl,rfl,rfl⟩,by (repeat first|exact trivial|refine ent1 ?_)⟩,rfl,rfl⟩
  ·(repeat show _∧_;first|refine yr ?_|refine yt ?_|refine yf ?_|refine yt ?_ (by first|decide|(rw[e1];decide)|(rw[f1];decide))|refine yf ?_ (by first|decide|(rw[e1];decide)|(rw[f1];decide))|refine yo ?_)
   exact ⟨.tup [.c (.w8 0#8),.c (.bool false)],_,⟨[],⟨rfl,rfl,rfl⟩,by (repeat first|exact trivial|refine ent1 ?_)⟩,rfl,rfl⟩
theorem fn_qhas {d:Nat} {W:World} {ms:List Nat} {v:JT} {x:JC} (hx:TAt W ms d v x) (m:Nat):FnR Tryd.prog tds 37 1 [[.past W ms]] [.agg (jvS v x),.c (.int .i64 (m:Int))] (fun _=>True) (fun y hs=>y=.a (.c (.bool (hasJ v m)))∧hs=[[.past W ms]]):=by
 refine fn_of_body tds_ok follows_ Tryd.func37 rfl (t:=.a (.agg (jvS v x))::.a (.c (.int .i64 (m:Int)))::anys (Tryd.f37.ntmps-2)) rfl (fun w r0 hr0 _=>?_)
 obtain ⟨x0,rfl⟩:=len1' hr0
 have hl:=hx.len
 have hn:v.ns.length=x.p:=by have h1:=hx.ns.len; simp only [List.length_map] at h1; omega
 unfold hasJ
 by_cases k6:v.k=6#8
 ·have e6:decide (v.k=6#8)=true:=decide_eq_true k6
  by_cases h1:v.ns.length=m
  ·have e1:decide ((x.p:Int)=(m:Int))=true:=decide_eq_true (by omega)
   have e2:decide ((x.m:Int)=(m:Int))=decide (v.l.length=m):=decide_eq_decide.2 (by omega)
   rw [e6,decide_eq_true h1,Bool.true_and,Bool.true_and,← e2]
   (repeat show _∧_;first|refine yr ?_|refine yt ?_|refine yf ?_|refine yt ?_ (by first|decide|(rw[e6];decide)|(rw[e1];decide))|refine yf ?_ (by first|decide|(rw[e6];decide)|(rw[e1];decide))|refine yo ?_)
   exact ⟨.a (.c (.bool (decide ((x.m:Int)=(m:Int))))),_,⟨[0],⟨rfl,rfl,rfl⟩,by (repeat first|exact trivial|refine ent1 ?_)⟩,rfl,rfl⟩
  ·have e1:decide ((x.p:Int)=(m:Int))=false:=decide_eq_false (by omega)
   rw [decide_eq_false h1,Bool.false_and,Bool.and_false]
   (repeat show _∧_;first|refine yr ?_|refine yt ?_|refine yf ?_|refine yt ?_ (by first|decide|(rw[e6];decide)|(rw[e1];decide))|refine yf ?_ (by first|decide|(rw[e6];decide)|(rw[e1];decide))|refine yo ?_)
   exact ⟨.a (.c (.bool false)),_,⟨[0],⟨rfl,rfl,rfl⟩,by (repeat first|exact trivial|refine ent1 ?_)⟩,rfl,rfl⟩
 ·have e6:decide (v.k=6#8)=false:=decide_eq_false k6
  rw [e6,Bool.false_and]
  (repeat show _∧_;first|refine yr ?_|refine yt ?_|refine yf ?_|refine yt ?_ (by first|decide|(rw[e6];decide))|refine yf ?_ (by first|decide|(rw[e6];decide))|refine yo ?_)
  exact ⟨.a (.c (.bool false)),_,⟨[0],⟨rfl,rfl,rfl⟩,by (repeat first|exact trivial|refine ent1 ?_)⟩,rfl,rfl⟩
def idxI (o:Option Nat):Int:=match o with
 | none=>-1
 | some i=>(i:Int)
theorem idxN_lt {s:Bs}:∀ {l:List Bs} {i:Nat},idxN s l=some i→i<l.length
 | [],i,h=>by cases h
 | x::l,i,h=>by
  unfold idxN at h
  split at h
  ·injection h with h; subst h; simp
  ·obtain ⟨j,hj,rfl⟩:=Option.map_eq_some_iff.1 h
   have:=idxN_lt hj
   simp; omega
theorem idxN_drop (s:Bs):∀ (l:List Bs) (j:Nat),(∀ i,i<j→∀ x,l[i]?=some x→s≠x)→j≤l.length→idxN s l=(idxN s (l.drop j)).map (·+j)
 | l,0,_,_=>by simp
 | [],j+1,_,h=>by simp at h
 | x::l,j+1,h,hl=>by
  have h0:s≠x:=h 0 (by omega) x rfl
  rw [idxN,if_neg h0,idxN_drop s l j (fun i hi y hy=>h (i+1) (by omega) y hy) (by simpa using hl),List.drop_succ_cons,Option.map_map]
  congr 1
set_option maxRecDepth 20000 in
theorem fn_index {W:World} {ms:List Nat} {a:Option Addr} {m c:Nat} {ns:List Bs} (h:StAt W ms a m c (ns.map U8)) (s:Bs):FnR Tryd.prog tds 48 1 [[.past W ms]] [.c (.slc a m c),.c (.str (U8 s))] (fun _=>True) (fun y hs=>y=.a (.c (.int .i64 (idxI (idxN s ns))))∧hs=[[.past W ms]]):=by
 refine fn_of_body tds_ok follows_ Tryd.func48 rfl (t:=.a (.c (.slc a m c))::.a (.c (.str (U8 s)))::anys (Tryd.f48.ntmps-2)) rfl (fun w r0 hr0 _=>?_)
 obtain ⟨x0,rfl⟩:=len1' hr0
 have hm:ns.length=m:=by have h1:=h.len; simp only [List.length_map] at h1; omega
 have hcap:=h.cap
 (repeat show _∧_;first|refine yr ?_|refine yt ?_|refine yf ?_|refine yo ?_)
 refine .inl ⟨Nat,fun j=>⟨[.a (.c (.slc a m c)),.a (.c (.str ((U8 s)))),.any,.any,.any,.any,.any,.a (.c (.int .i64 (m))),.a (.c (.int .i64 (((j:Nat):Int)))),.any,.any,.any,.any,.any,.any,.any,.any,.any,.any],[[.past W ms]]⟩,
  fun j=>j≤ns.length∧∀ i,i<j→∀ x,ns[i]?=some x→s≠x,fun j=>ns.length-j,⟨0,[0],⟨⟨rfl,rfl,rfl⟩,by (repeat first|exact trivial|refine ent1 ?_)⟩,Nat.zero_le _,fun i hi=>absurd hi (Nat.not_lt_zero _)⟩,fun j hx=>?_⟩
 obtain ⟨hj0,hno⟩:=hx
 dsimp only
 by_cases hj:j<ns.length
 rotate_left
 ·have e1:decide ((j:Int)<(m:Int))=false:=decide_eq_false (by omega)
  obtain rfl:j=ns.length:=by omega
  have hI:idxN s ns=none:=by rw [idxN_drop s ns _ hno (Nat.le_refl _),List.drop_length]; rfl
  rw [hI]
  (repeat show _∧_;first|refine yr ?_|refine yt ?_|refine yf ?_|refine yt ?_ (by first|decide|(rw[e1];decide))|refine yf ?_ (by first|decide|(rw[e1];decide))|refine yo ?_)
  exact ⟨.a (.c (.int .i64 (-1))),_,⟨[0],⟨rfl,rfl,rfl⟩,by (repeat first|exact trivial|refine ent1 ?_)⟩,rfl,rfl⟩
 have e1:decide ((j:Int)<(m:Int))=true:=decide_eq_true (by omega)
 obtain ⟨A,rfl,h2⟩:=h.elt hj
 (repeat show _∧_;first|refine yr ?_|refine yt ?_|refine yf ?_|refine yt ?_ (by first|decide|(rw[e1];decide))|refine yf ?_ (by first|decide|(rw[e1];decide))|refine yo ?_)
 refine ⟨[.one (.str (U8 ns[j]))],⟨.past (i:=0) rfl (by exact h2),rfl⟩,?_⟩
 by_cases hs:s=ns[j]
 ·have e3:decide (U8 s=U8 ns[j])=true:=decide_eq_true (by rw [← hs])
  have hI:idxN s ns=some j:=by
   rw [idxN_drop s ns j hno (by omega),List.drop_eq_getElem_cons hj,idxN,if_pos hs]; simp
  rw [hI]
  (repeat show _∧_;first|refine yr ?_|refine yt ?_|refine yf ?_|refine yt ?_ (by first|decide|(rw[e3];decide))|refine yf ?_ (by first|decide|(rw[e3];decide))|refine yo ?_)
  exact ⟨.a (.c (.int .i64 (j:Int))),_,⟨[0],⟨rfl,rfl,rfl⟩,by (repeat first|exact trivial|refine ent1 ?_)⟩,rfl,rfl⟩
 ·have e3:decide (U8 s=U8 ns[j])=false:=decide_eq_false (fun e=>hs (U8_inj e))
  (repeat show _∧_;first|refine yr ?_|refine yt ?_|refine yf ?_|refine yt ?_ (by first|decide|(rw[e3];decide))|refine yf ?_ (by first|decide|(rw[e3];decide))|refine yo ?_)
  refine ⟨j+1,[0],⟨⟨rfl,rfl,rfl⟩,by (repeat first|exact trivial|refine ent1 ?_)⟩,⟨hj,fun i hi x hx=>?_⟩,by omega⟩
  by_cases hij:i=j
  ·subst hij
   rw [List.getElem?_eq_getElem hj] at hx
   injection hx with hx
   rw [← hx]; exact hs
  ·exact hno i (by omega) x hx
theorem TAt.elt {W:World} {ms:List Nat} {d:Nat} {v:JT} {x:JC} (h:TAt W ms (d+1) v x) {i:Nat} (hi:i<v.l.length):∃ A y,x.a=some A∧i<x.m∧ImAt W ms (A.add (i*5)) (flat (jvS v.l[i] y))∧TAt W ms d v.l[i] y:=by
 obtain ⟨⟨g1,g2,g3,g4,g5⟩,_⟩:=h
 obtain ⟨xa,xm,xc,xb,xp,xq⟩:=x
 dsimp only at g1 g2 g3 g4 g5
 cases xa with
 | none=>exact absurd (g4 rfl) (by omega)
 | some A =>
  obtain ⟨y,y1,y2⟩:=(g5 A rfl (by omega)).2 i v.l[i] (List.getElem?_eq_getElem hi)
  exact ⟨A,y,rfl,by show i<xm; omega,y1,y2⟩
def MemA (W:World) (ms:List Nat) (d:Nat) (o:Option JT) (y:SV) (hs:List (List Seg)):Prop :=
 hs=[[.past W ms]]∧match o with
  | none=>y=.tup [.agg (jvS jt0 jc0),.c (.bool false)]
  | some v=>∃ x,TAt W ms d v x∧y=.tup [.agg (jvS v x),.c (.bool true)]
set_option maxRecDepth 20000 in
set_option maxHeartbeats 4000000 in
theorem fn_qmember {d:Nat} {W:World} {ms:List Nat} {v:JT} {x:JC} (hx:TAt W ms (d+1) v x) (s:Bs) (k:BitVec 8):FnR Tryd.prog tds 36 1 [[.past W ms]] [.agg (jvS v x),.c (.str (U8 s)),.c (.w8 k)] (fun _=>True) (MemA W ms d (memJ v s k)):=by
 refine fn_of_body tds_ok follows_ Tryd.func36 rfl (t:=.a (.agg (jvS v x))::.a (.c (.str (U8 s)))::.a (.c (.w8 k))::anys (Tryd.f36.ntmps-3)) rfl (fun w r0 hr0 _=>?_)
 obtain ⟨x0,rfl⟩:=len1' hr0
 have hl:=hx.len
 (repeat show _∧_;first|refine yr ?_|refine yt ?_|refine yf ?_|refine yo ?_)
 refine call_same (fn_index hx.ns s) [0] rfl (by exact And.intro rfl (And.intro rfl trivial)) (by (repeat first|exact trivial|refine ent1 ?_)) (fun _ _=>trivial) ?_
 rintro y hs ⟨rfl,rfl⟩
 cases hI:idxN s v.ns with
 | none =>
  have hM:memJ v s k=none:=by unfold memJ; rw [hI]
  rw [hM]
  (repeat show _∧_;first|refine yr ?_|refine yt ?_|refine yf ?_|refine yo ?_)
  exact ⟨.tup [.agg (jvS jt0 jc0),.c (.bool false)],_,⟨[0],⟨rfl,rfl,rfl⟩,by (repeat first|exact trivial|refine ent1 ?_)⟩,rfl,rfl⟩
 | some i =>
  rw [show idxI (some i)=(i:Int) from rfl]
  have e0:decide ((i:Int)<0)=false:=decide_eq_false (by omega)
  by_cases hi:i<v.l.length
  ·obtain ⟨A,y,hA,him,y1,y2⟩:=hx.elt hi
   obtain ⟨xa,xm,xc,xb,xp,xq⟩:=x
   dsimp only at hA him hl
   subst hA
   have e1:decide ((xm:Int)≤(i:Int))=false:=decide_eq_false (by omega)
   by_cases hk:v.l[i].k=k
   ·have e2:decide (v.l[i].k≠k)=false:=decide_eq_false (not_not_intro hk)
    have hM:memJ v s k=some v.l[i]:=by unfold memJ; rw [hI]; dsimp only; rw [List.getElem?_eq_getElem hi]; dsimp only; rw [if_pos hk]
    rw [hM]
    (repeat show _∧_;first|refine yr ?_|refine yt ?_|refine yf ?_|refine yt ?_ (by first|decide|(rw[e0];decide)|(rw[e1];decide))|refine yf ?_ (by first|decide|(rw[e0];decide)|(rw[e1];decide))|refine yo ?_)
    refine And.intro (show (0:Int)≤(i:Int)∧(i:Int)<(xm:Int) by omega) ?_
    (repeat show _∧_;first|refine yr ?_|refine yt ?_|refine yf ?_|refine yt ?_ (by first|decide|(rw[e0];decide)|(rw[e1];decide))|refine yf ?_ (by first|decide|(rw[e0];decide)|(rw[e1];decide))|refine yo ?_)
    refine ⟨[.one (.w8 v.l[i].k)],⟨.past (i:=0) rfl (by exact y1.sub 0 1),rfl⟩,?_⟩
    (repeat show _∧_;first|refine yr ?_|refine yt ?_|refine yf ?_|refine yt ?_ (by first|decide|(rw[e0];decide)|(rw[e1];decide)|(rw[e2];decide))|refine yf ?_ (by first|decide|(rw[e0];decide)|(rw[e1];decide)|(rw[e2];decide))|refine yo ?_)
    refine And.intro (show (0:Int)≤(i:Int)∧(i:Int)<(xm:Int) by omega) ?_
    refine ⟨jvS v.l[i] y,⟨.past (i:=0) rfl (by exact y1),rfl⟩,?_⟩
    (repeat show _∧_;first|refine yr ?_|refine yt ?_|refine yf ?_|refine yo ?_)
    exact ⟨.tup [.agg (jvS v.l[i] y),.c (.bool true)],_,⟨[0],⟨rfl,rfl,rfl⟩,by (repeat first|exact trivial|refine ent1 ?_)⟩,rfl,y,y2,rfl⟩
   ·have e2:decide (v.l[i].k≠k)=true:=decide_eq_true hk
    have hM:memJ v s k=none:=by unfold memJ; rw [hI]; dsimp only; rw [List.getElem?_eq_getElem hi]; dsimp only; rw [if_neg hk]
    rw [hM]
    (repeat show _∧_;first|refine yr ?_|refine yt ?_|refine yf ?_|refine yt ?_ (by first|decide|(rw[e0];decide)|(rw[e1];decide))|refine yf ?_ (by first|decide|(rw[e0];decide)|(rw[e1];decide))|refine yo ?_)
    refine And.intro (show (0:Int)≤(i:Int)∧(i:Int)<(xm:Int) by omega) ?_
    (repeat show _∧_;first|refine yr ?_|refine yt ?_|refine yf ?_|refine yt ?_ (by first|decide|(rw[e0];decide)|(rw[e1];decide))|refine yf ?_ (by first|decide|(rw[e0];decide)|(rw[e1];decide))|refine yo ?_)
    refine ⟨[.one (.w8 v.l[i].k)],⟨.past (i:=0) rfl (by exact y1.sub 0 1),rfl⟩,?_⟩
    (repeat show _∧_;first|refine yr ?_|refine yt ?_|refine yf ?_|refine yt ?_ (by first|decide|(rw[e0];decide)|(rw[e1];decide)|(rw[e2];decide))|refine yf ?_ (by first|decide|(rw[e0];decide)|(rw[e1];decide)|(rw[e2];decide))|refine yo ?_)
    exact ⟨.tup [.agg (jvS jt0 jc0),.c (.bool false)],_,⟨[0],⟨rfl,rfl,rfl⟩,by (repeat first|exact trivial|refine ent1 ?_)⟩,rfl,rfl⟩
  ·have e1:decide ((x.m:Int)≤(i:Int))=true:=decide_eq_true (by omega)
   have hM:memJ v s k=none:=by unfold memJ; rw [hI]; dsimp only; rw [List.getElem?_eq_none (by omega)]
   rw [hM]
   (repeat show _∧_;first|refine yr ?_|refine yt ?_|refine yf ?_|refine yt ?_ (by first|decide|(rw[e0];decide)|(rw[e1];decide))|refine yf ?_ (by first|decide|(rw[e0];decide)|(rw[e1];decide))|refine yo ?_)
   exact ⟨.tup [.agg (jvS jt0 jc0),.c (.bool false)],_,⟨[0],⟨rfl,rfl,rfl⟩,by (repeat first|exact trivial|refine ent1 ?_)⟩,rfl,rfl⟩
end Sx
end
section
namespace Qj
open Sha Js Ev
theorem hexB_snoc (D:Bs) (c:BitVec 8):hexB (D++[c])=hexB D++[hexd (c.toNat / 16),hexd (c.toNat % 16)]:=by
 unfold hexB; simp
theorem hexB_len (D:Bs):(hexB D).length=2*D.length:=by
 induction D with
 | nil=>rfl
 | cons c D ih=>unfold hexB at ih ⊢; rw [List.flatMap_cons,List.length_append,ih]; simp; omega
theorem hex_lo:∀ c:BitVec 8,(hexS.getD (c &&& 15#8).toNat 0).toBitVec=hexd (c.toNat % 16):=by decide +kernel
theorem hex_hi2:∀ c:BitVec 8,(hexS.getD (c >>> 4).toNat 0).toBitVec=hexd (c.toNat / 16):=by decide +kernel
theorem hi16 (c:BitVec 8):(0:Int)≤((c >>> 4).toNat:Int)∧((c >>> 4).toNat:Int)<((16:Nat):Int):=by
 have:∀ c:BitVec 8,(c >>> 4).toNat<16:=by decide +kernel
 have:=this c
 omega
theorem lo16 (c:BitVec 8):(0:Int)≤((c &&& 15#8).toNat:Int)∧((c &&& 15#8).toNat:Int)<((16:Nat):Int):=by
 have:∀ c:BitVec 8,(c &&& 15#8).toNat<16:=by decide +kernel
 have:=this c
 omega
end Qj
namespace Sx
open Go.RowKit Sha Vi Js Ev Qj

set_option maxRecDepth 20000 in
theorem fn_qfoll {W:World} {ms:List Nat} {x:EvC} {e:Ev} (t:BitVec 64) (l:Bool):FnR Tryd.prog tds 47 1 [[.past W ms]] [.agg (evS e x),.c (.w64 t),.c (.bool l)] (fun _=>True) (fun y hs=>y=.a (.c (.int .i64 (follM e t l)))∧hs=[[.past W ms]]):=by
 refine fn_of_body tds_ok follows_ Tryd.func47 rfl (t:=.a (.agg (evS e x))::.a (.c (.w64 t))::.a (.c (.bool l))::anys (Tryd.f47.ntmps-3)) rfl (fun w r0 hr0 _=>?_)
 obtain ⟨x0,rfl⟩:=len1' hr0
 unfold follM
 by_cases h1:e.t<t
 ·have e1:decide (e.t<t)=true:=decide_eq_true h1
  rw [if_pos h1]
  (repeat show _∧_;first|refine yr ?_|refine yt ?_|refine yf ?_|refine yt ?_ (by first|decide|(rw[e1];decide))|refine yf ?_ (by first|decide|(rw[e1];decide))|refine yo ?_)
  exact ⟨.a (.c (.int .i64 21)),_,⟨[0],⟨rfl,rfl,rfl⟩,by (repeat first|exact trivial|refine ent1 ?_)⟩,rfl,rfl⟩
 have e1:decide (e.t<t)=false:=decide_eq_false h1
 rw [if_neg h1]
 by_cases h2:e.k=19#8
 ·have e2:decide (e.k=19#8)=true:=decide_eq_true h2
  cases l
  ·rw [if_pos ⟨h2,rfl⟩]
   (repeat show _∧_;first|refine yr ?_|refine yt ?_|refine yf ?_|refine yt ?_ (by first|decide|(rw[e1];decide)|(rw[e2];decide))|refine yf ?_ (by first|decide|(rw[e1];decide)|(rw[e2];decide))|refine yo ?_)
   exact ⟨.a (.c (.int .i64 10)),_,⟨[0],⟨rfl,rfl,rfl⟩,by (repeat first|exact trivial|refine ent1 ?_)⟩,rfl,rfl⟩
  ·rw [if_neg (fun h=>Bool.noConfusion h.2)]
   (repeat show _∧_;first|refine yr ?_|refine yt ?_|refine yf ?_|refine yt ?_ (by first|decide|(rw[e1];decide)|(rw[e2];decide))|refine yf ?_ (by first|decide|(rw[e1];decide)|(rw[e2];decide))|refine yo ?_)
   exact ⟨.a (.c (.int .i64 0)),_,⟨[0],⟨rfl,rfl,rfl⟩,by (repeat first|exact trivial|refine ent1 ?_)⟩,rfl,rfl⟩
 ·have e2:decide (e.k=19#8)=false:=decide_eq_false h2
  rw [if_neg (fun h=>h2 h.1)]
  (repeat show _∧_;first|refine yr ?_|refine yt ?_|refine yf ?_|refine yt ?_ (by first|decide|(rw[e1];decide)|(rw[e2];decide))|refine yf ?_ (by first|decide|(rw[e1];decide)|(rw[e2];decide))|refine yo ?_)
  exact ⟨.a (.c (.int .i64 0)),_,⟨[0],⟨rfl,rfl,rfl⟩,by (repeat first|exact trivial|refine ent1 ?_)⟩,rfl,rfl⟩
set_option maxRecDepth 20000 in
theorem fn_qnum1 {W:World} {ms:List Nat} {x:EvC} {e:Ev} (h:EvAt W ms x e) (i:Nat) (hi:i<e.N.length):FnR Tryd.prog tds 33 1 [[.past W ms]] [.agg (evS e x),.c (.int .i64 (i:Int))] (fun _=>True) (fun y hs=>y=.a (.c (.w64 e.N[i]))∧hs=[[.past W ms]]):=by
 have hN:=h.N
 have hn1:=h.nN
 have hNc:=h.N.le
 obtain ⟨aN,nN,cN,aD,nD,cD⟩:=x
 dsimp only at hN hn1 hNc
 refine fn_of_body tds_ok follows_ Tryd.func33 rfl (t:=.a (.agg (evS e ⟨aN,nN,cN,aD,nD,cD⟩))::.a (.c (.int .i64 (i:Int)))::anys (Tryd.f33.ntmps-2)) rfl (fun w r0 hr0 _=>?_)
 obtain ⟨x0,rfl⟩:=len1' hr0
 have e1:decide ((i:Int)<0)=false:=decide_eq_false (by omega)
 have e2:decide ((nN:Int)≤(i:Int))=false:=decide_eq_false (by omega)
 obtain ⟨A,rfl⟩:∃ A,aN=some A:=by
  cases aN with
  | none=>exact absurd (hN.nil rfl) (by omega)
  | some A=>exact ⟨A,rfl⟩
 have him:=(hN.im A rfl (by omega)).one (show (e.N.map SC.w64)[i]?=some (.w64 e.N[i]) by rw [List.getElem?_map,List.getElem?_eq_getElem hi]; rfl)
 (repeat show _∧_;first|refine yr ?_|refine yt ?_|refine yf ?_|refine yt ?_ (by first|decide|(rw[e1];decide)|(rw[e2];decide))|refine yf ?_ (by first|decide|(rw[e1];decide)|(rw[e2];decide))|refine yo ?_)
 (repeat show _∧_;first|refine yr ?_|refine yt ?_|refine yf ?_|refine yt ?_ (by first|decide|(rw[e1];decide)|(rw[e2];decide))|refine yf ?_ (by first|decide|(rw[e1];decide)|(rw[e2];decide))|refine yo ?_)
 refine And.intro (show (0:Int)≤(i:Int)∧(i:Int)<(nN:Int) by omega) ?_
 refine ⟨[.one (.w64 e.N[i])],⟨.past (i:=0) rfl (by show ImAt W ms (A.add (i*1)) _; rw [Nat.mul_one]; exact him),rfl⟩,?_⟩
 (repeat show _∧_;first|refine yr ?_|refine yt ?_|refine yf ?_|refine yo ?_)
 exact ⟨.a (.c (.w64 e.N[i])),_,⟨[0],⟨rfl,rfl,rfl⟩,by (repeat first|exact trivial|refine ent1 ?_)⟩,rfl,rfl⟩
set_option maxRecDepth 20000 in
set_option maxHeartbeats 4000000 in
theorem fn_qdigits {W:World} {ms:List Nat} {a:Option Addr} {n c:Nat} {D:Bs} (h:BsAt W ms a n c D) (hD:D.length≤1000000):FnR Tryd.prog tds 35 1 [[.past W ms]] [.c (.slc a n c)] (fun _=>True) (fun y hs=>y=.a (.c (.str (U8 (hexB D))))∧hs=[[.past W ms]]):=by
 refine fn_of_body tds_ok follows_ Tryd.func35 rfl (t:=.a (.c (.slc a n c))::anys (Tryd.f35.ntmps-1)) rfl (fun w r0 hr0 _=>?_)
 obtain ⟨x0,rfl⟩:=len1' hr0
 have hn:D.length=n:=by have h1:=h.len; simp at h1; omega
 have hle:=h.le
 (repeat show _∧_;first|refine yr ?_|refine yt ?_|refine yf ?_|refine yo ?_)
 refine .inl ⟨Nat × Bs × Option Nat,fun x=>match x with
  | (j,b,none)=>⟨[.any,.any,.a (.c (.str ([]))),.a (.c (.slc none 0 0)),.any,.any,.a (.c (.slc a n c)),.a (.c (.int .i64 (n))),.a (.c (.int .i64 (((j:Nat):Int)))),.any,.any,.any,.any,.any,.any,.any,.any,.any,.any,.any,.any,.any,.any,.any],[[.past W ms]]⟩
  | (j,b,some cc)=>⟨[.any,.any,.a (.c (.str ([]))),.a (.c (.sl 1 0 0 b.length cc)),.any,.any,.a (.c (.slc a n c)),.a (.c (.int .i64 (n))),.a (.c (.int .i64 (((j:Nat):Int)))),.any,.any,.any,.any,.any,.any,.any,.any,.any,.any,.any,.any,.any,.any,.any],[[.past W ms],lsC b cc]⟩,
  fun x=>match x with
  | (j,b,none)=>j=0
  | (j,b,some cc)=>j≤n∧b=hexB (D.take j)∧b.length≤cc,fun x=>n-x.1,⟨(0,[],none),[0],⟨⟨rfl,rfl,rfl⟩,by (repeat first|exact trivial|refine ent1 ?_)⟩,rfl⟩,fun x hx=>?_⟩
 rcases x with ⟨j,b,_|cc⟩
 ·obtain rfl:j=0:=hx
  dsimp only
  by_cases hj:0<n
  rotate_left
  ·have e1:decide (((0:Nat):Int)<(n:Int))=false:=decide_eq_false (by omega)
   have hD0:D=[]:=List.eq_nil_of_length_eq_zero (by omega)
   rw [hD0]
   (repeat show _∧_;first|refine yr ?_|refine yt ?_|refine yf ?_|refine yt ?_ (by first|decide|(rw[e1];decide))|refine yf ?_ (by first|decide|(rw[e1];decide))|refine yo ?_)
   refine ⟨U8 [],⟨rfl,fun q hq=>absurd hq (Nat.not_lt_zero _)⟩,?_⟩
   exact ⟨.a (.c (.str (U8 (hexB [])))),_,⟨[0],⟨rfl,rfl,rfl⟩,by (repeat first|exact trivial|refine ent1 ?_)⟩,rfl,rfl⟩
  have e1:decide (((0:Nat):Int)<(n:Int))=true:=decide_eq_true (by omega)
  obtain ⟨A,rfl⟩:∃ A,a=some A:=by
   cases a with
   | none=>exact absurd (h.nil rfl) (by omega)
   | some A=>exact ⟨A,rfl⟩
  have him:=(h.im A rfl (by omega)).one (show (D.map SC.w8)[0]?=some (.w8 (D[0]'(by omega))) by rw [List.getElem?_map,List.getElem?_eq_getElem (by omega)]; rfl)
  have hst:hexB (D.take (0+1))=[]++[hexd ((D[0]'(by omega)).toNat / 16),hexd ((D[0]'(by omega)).toNat % 16)]:=by
   rw [List.take_add_one,List.getElem?_eq_getElem (by omega),Option.toList_some,hexB_snoc]
   rfl
  generalize (D[0]'(by omega))=ch at him hst
  (repeat show _∧_;first|refine yr ?_|refine yt ?_|refine yf ?_|refine yt ?_ (by first|decide|(rw[e1];decide))|refine yf ?_ (by first|decide|(rw[e1];decide))|refine yo ?_)
  refine ⟨[.one (.w8 ch)],⟨.past (i:=0) rfl (by show ImAt W ms (A.add (0*1)) _; rw [Nat.mul_one]; exact him),rfl⟩,?_⟩
  (repeat show _∧_;first|refine yr ?_|refine yt ?_|refine yf ?_|refine yo ?_)
  refine ⟨none,[],[(0,true),(1,true),(2,true),(3,true),(4,true),(5,true),(6,true),(7,false)],[8,9],by kernel_rfl,?_⟩
  (repeat show _∧_;first|refine yr ?_|refine yt ?_|refine yf ?_|refine yo ?_)
  refine And.intro (show (0:Int)≤((ch >>> 4).toNat:Int)∧((ch >>> 4).toNat:Int)<((16:Nat):Int) from hi16 ch) ?_
  (repeat show _∧_;first|refine yr ?_|refine yt ?_|refine yf ?_|refine yo ?_)
  refine And.intro (show (0:Int)≤((ch &&& 15#8).toNat:Int)∧((ch &&& 15#8).toNat:Int)<((16:Nat):Int) from lo16 ch) ?_
  (repeat show _∧_;first|refine yr ?_|refine yt ?_|refine yf ?_|refine yo ?_)
  intro c1 hc1
  (repeat show _∧_;first|refine yr ?_|refine yt ?_|refine yf ?_|refine yo ?_)
  refine ⟨(1,[hexd (ch.toNat / 16),hexd (ch.toNat % 16)],some c1),[0,2],⟨⟨rfl,rfl,rfl⟩,?_⟩,⟨by omega,hst.symm,hc1⟩,by dsimp only; omega⟩
  dsimp only
  (repeat first|exact trivial|refine ent1 ?_)
  refine ⟨fun j hj=>eqC_bytes (fun i hi=>?_) j,by (repeat first|exact trivial|refine ent1 ?_)⟩
  rw [← hex_hi2 ch,← hex_lo ch] at hi ⊢
  exact new_row (fun i hi=>nthC_w8 _ i hi) i hi
 ·obtain ⟨hj0,hb,hc⟩:=hx
  dsimp only
  by_cases hj:j<n
  rotate_left
  ·have e1:decide (((j:Nat):Int)<(n:Int))=false:=decide_eq_false (by omega)
   have hbD:hexB D=b:=by rw [hb,List.take_of_length_le (by omega)]
   rw [hbD]
   (repeat show _∧_;first|refine yr ?_|refine yt ?_|refine yf ?_|refine yt ?_ (by first|decide|(rw[e1];decide))|refine yf ?_ (by first|decide|(rw[e1];decide))|refine yo ?_)
   refine And.intro (by simp only [scale]; omega) ?_
   refine ⟨U8 b,⟨U8_len b,fun q hq=>by show bytesF b.length (L b) (q+0)=_; rw [Nat.add_zero,bytesF_lt hq,U8_get b q hq]⟩,?_⟩
   exact ⟨.a (.c (.str (U8 b))),_,⟨[0],⟨rfl,rfl,rfl⟩,by (repeat first|exact trivial|refine ent1 ?_)⟩,rfl,rfl⟩
  have e1:decide (((j:Nat):Int)<(n:Int))=true:=decide_eq_true (by omega)
  obtain ⟨A,rfl⟩:∃ A,a=some A:=by
   cases a with
   | none=>exact absurd (h.nil rfl) (by omega)
   | some A=>exact ⟨A,rfl⟩
  have him:=(h.im A rfl (by omega)).one (show (D.map SC.w8)[j]?=some (.w8 (D[j]'(by omega))) by rw [List.getElem?_map,List.getElem?_eq_getElem (by omega)]; rfl)
  have hst:hexB (D.take (j+1))=b++[hexd ((D[j]'(by omega)).toNat / 16),hexd ((D[j]'(by omega)).toNat % 16)]:=by
   rw [List.take_add_one,List.getElem?_eq_getElem (by omega),Option.toList_some,hexB_snoc,hb]
  have hbl:b.length≤2000000:=by rw [hb,hexB_len,List.length_take]; omega
  generalize (D[j]'(by omega))=ch at him hst
  (repeat show _∧_;first|refine yr ?_|refine yt ?_|refine yf ?_|refine yt ?_ (by first|decide|(rw[e1];decide))|refine yf ?_ (by first|decide|(rw[e1];decide))|refine yo ?_)
  refine ⟨[.one (.w8 ch)],⟨.past (i:=0) rfl (by show ImAt W ms (A.add (j*1)) _; rw [Nat.mul_one]; exact him),rfl⟩,?_⟩
  (repeat show _∧_;first|refine yr ?_|refine yt ?_|refine yf ?_|refine yo ?_)
  refine ⟨none,[],[(0,true),(1,true),(2,true),(3,true),(4,true),(5,true),(6,true),(7,false)],[8,9],by kernel_rfl,?_⟩
  (repeat show _∧_;first|refine yr ?_|refine yt ?_|refine yf ?_|refine yo ?_)
  refine And.intro (show (0:Int)≤((ch >>> 4).toNat:Int)∧((ch >>> 4).toNat:Int)<((16:Nat):Int) from hi16 ch) ?_
  (repeat show _∧_;first|refine yr ?_|refine yt ?_|refine yf ?_|refine yo ?_)
  refine And.intro (show (0:Int)≤((ch &&& 15#8).toNat:Int)∧((ch &&& 15#8).toNat:Int)<((16:Nat):Int) from lo16 ch) ?_
  (repeat show _∧_;first|refine yr ?_|refine yt ?_|refine yf ?_|refine yo ?_)
  refine And.intro ⟨hc,by simp only [scale]; omega,by show (b.length+2)*1≤140737488355328; omega⟩ ?_
  intro c1 hc1
  (repeat show _∧_;first|refine yr ?_|refine yt ?_|refine yf ?_|refine yo ?_)
  refine ⟨(j+1,b++[hexd (ch.toNat / 16),hexd (ch.toNat % 16)],some c1),[0,3],⟨⟨rfl,rfl,rfl⟩,?_⟩,⟨hj,hst.symm,by rw [List.length_append]; exact hc1⟩,by dsimp only; omega⟩
  dsimp only
  (repeat first|exact trivial|refine ent1 ?_)
  refine And.intro (show b.length+2=_ by rw [List.length_append]; rfl) ?_
  (repeat first|exact trivial|refine ent1 ?_)
  refine ⟨fun j hj=>eqC_bytes (fun i hi=>?_) j,by (repeat first|exact trivial|refine ent1 ?_)⟩
  have hi':i<b.length+2:=by rw [List.length_append] at hi; exact hi
  rw [← hex_hi2 ch,← hex_lo ch]
  refine app_row (l:=b) (n:=b.length) (k:=2) rfl ?_ (fun i hi=>bytesF_lt hi) (fun i hi=>?_) i hi'
  ·rfl
  ·exact rowl i (by exact hi) rfl
def HexA (o:Option Bs) (y:SV) (hs:List (List Seg)):Prop:=match o with
 | none=>y=.tup [.c (.slc none 0 0),.c (.bool false)]∧hs=[]
 | some []=>y=.tup [.c (.slc none 0 0),.c (.bool true)]∧hs=[]
 | some (d::D)=>∃ c',(d::D).length≤c'∧y=.tup [.c (.sl 0 0 0 (d::D).length c'),.c (.bool true)]∧hs=[lsC (d::D) c']
theorem unhex_odd:∀ {s:Bs},s.length % 2=1→unhex s=none
 | [],h=>by simp at h
 | [_],_=>rfl
 | a::b::l,h=>by
  have ih:=unhex_odd (s:=l) (by simp at h; omega)
  unfold unhex
  rw [ih]
  cases dig1 a <;> cases dig1 b <;> rfl
theorem unhex_step {s:Bs} {j:Nat} (h:j+1<s.length):unhex (s.drop j)=match dig1 (L s j),dig1 (L s (j+1)) with
  | some x,some y=>(unhex (s.drop (j+2))).map ((x <<< 4 ||| y)::·)
  | _,_=>none:=by
 rw [drop_cons s j (by omega),drop_cons s (j+1) h]
 rfl
set_option maxRecDepth 20000 in
set_option maxHeartbeats 8000000 in
theorem fn_qbytes (s:Bs) (hs:s.length≤4611686018427387904) (hs2:s.length≤70368744177664):Fn Tryd.prog tds 52 [] [.c (.str (U8 s))] (fun _=>True) (HexA (unhex s)):=by
 refine fn_of_body tds_ok follows_ Tryd.func52 rfl (t:=.a (.c (.str (U8 s)))::anys (Tryd.f52.ntmps-1)) rfl (fun w r0 hr0 _=>?_)
 obtain rfl:r0=[]:=List.eq_nil_of_length_eq_zero hr0
 by_cases h2:s.length % 2=1
 ·have e0:decide ((((U8 s).length:Nat):Int) % 2≠0)=true:=decide_eq_true (by rw [U8_len]; omega)
  rw [unhex_odd h2]
  (repeat show _∧_;first|refine yr ?_|refine yt ?_|refine yf ?_|refine yt ?_ (by first|decide|(rw[e0];decide))|refine yf ?_ (by first|decide|(rw[e0];decide))|refine yo ?_)
  exact ⟨.tup [.c (.slc none 0 0),.c (.bool false)],_,⟨[],⟨rfl,rfl,rfl⟩,by (repeat first|exact trivial|refine ent1 ?_)⟩,rfl,rfl⟩
 have e0:decide ((((U8 s).length:Nat):Int) % 2≠0)=false:=decide_eq_false (not_not_intro (by rw [U8_len]; omega))
 (repeat show _∧_;first|refine yr ?_|refine yt ?_|refine yf ?_|refine yt ?_ (by first|decide|(rw[e0];decide))|refine yf ?_ (by first|decide|(rw[e0];decide))|refine yo ?_)
 refine .inl ⟨Nat × Bs × Option Nat,fun x=>match x with
  | (j,b,none)=>⟨[.a (.c (.str ((U8 s)))),.any,.any,.any,.a (.c (.slc none 0 0)),.a (.c (.int .i64 (((j:Nat):Int)))),.any,.any,.any,.any,.any,.any,.any,.any,.any,.any,.any,.any,.any,.any,.any,.any,.any,.any,.any,.any,.any,.any,.any,.any,.any,.any,.any,.any,.any,.any,.any,.any,.any,.any,.any,.any,.any,.any,.any,.any,.any,.any,.any],[]⟩
  | (j,b,some cc)=>⟨[.a (.c (.str ((U8 s)))),.any,.any,.any,.a (.c (.sl 0 0 0 b.length cc)),.a (.c (.int .i64 (((j:Nat):Int)))),.any,.any,.any,.any,.any,.any,.any,.any,.any,.any,.any,.any,.any,.any,.any,.any,.any,.any,.any,.any,.any,.any,.any,.any,.any,.any,.any,.any,.any,.any,.any,.any,.any,.any,.any,.any,.any,.any,.any,.any,.any,.any,.any],[lsC b cc]⟩,
  fun x=>match x with
  | (j,b,none)=>j=0
  | (j,b,some cc)=>j≤s.length∧j=2*b.length∧0<j∧unhex s=(unhex (s.drop j)).map (b++·)∧b.length≤cc,fun x=>s.length-x.1,⟨(0,[],none),[],⟨⟨rfl,rfl,rfl⟩,by (repeat first|exact trivial|refine ent1 ?_)⟩,rfl⟩,fun x hx=>?_⟩
 rcases x with ⟨j,b,_|cc⟩
 ·obtain rfl:j=0:=hx
  dsimp only
  by_cases hj:0<s.length
  rotate_left
  ·have e1:decide (((0:Nat):Int)<(((U8 s).length:Nat):Int))=false:=decide_eq_false (by rw [U8_len]; omega)
   have hs0:s=[]:=List.eq_nil_of_length_eq_zero (by omega)
   rw [show unhex s=some [] by rw [hs0]; rfl]
   (repeat show _∧_;first|refine yr ?_|refine yt ?_|refine yf ?_|refine yt ?_ (by first|decide|(rw[e1];decide))|refine yf ?_ (by first|decide|(rw[e1];decide))|refine yo ?_)
   exact ⟨.tup [.c (.slc none 0 0),.c (.bool true)],_,⟨[],⟨rfl,rfl,rfl⟩,by (repeat first|exact trivial|refine ent1 ?_)⟩,rfl,rfl⟩
  have e1:decide (((0:Nat):Int)<(((U8 s).length:Nat):Int))=true:=decide_eq_true (by rw [U8_len]; omega)
  have hj1:0+1<s.length:=by omega
  have hst:=unhex_step hj1
  (repeat show _∧_;first|refine yr ?_|refine yt ?_|refine yf ?_|refine yt ?_ (by first|decide|(rw[e1];decide))|refine yf ?_ (by first|decide|(rw[e1];decide))|refine yo ?_)
  refine And.intro ⟨by omega,by rw [U8_len]; omega⟩ ?_
  rw [show ((U8 s).getD ((0:Nat):Int).toNat 0).toBitVec=L s 0 from U8_get s 0 hj]
  (repeat show _∧_;first|refine yr ?_|refine yt ?_|refine yf ?_|refine yo ?_)
  refine call_same (fn_qdigit (L s 0)) [] rfl (by (repeat first|exact trivial|refine ent1 ?_)) trivial (fun _ _=>trivial) ?_
  rintro y hs9 ⟨rfl,rfl⟩
  (repeat show _∧_;first|refine yr ?_|refine yt ?_|refine yf ?_|refine yo ?_)
  refine And.intro ⟨by omega,by rw [U8_len]; omega⟩ ?_
  rw [show ((U8 s).getD (((0:Nat):Int)+1).toNat 0).toBitVec=L s (0+1) from by rw [show ((((0:Nat):Int)+1).toNat)=0+1 by omega]; exact U8_get s (0+1) hj1]
  (repeat show _∧_;first|refine yr ?_|refine yt ?_|refine yf ?_|refine yo ?_)
  refine call_same (fn_qdigit (L s (0+1))) [] rfl (by (repeat first|exact trivial|refine ent1 ?_)) trivial (fun _ _=>trivial) ?_
  rintro y hs9 ⟨rfl,rfl⟩
  cases ho1:dig1 (L s 0) with
  | none =>
   rw [ho1] at hst
   rw [show unhex s=none from hst]
   (repeat show _∧_;first|refine yr ?_|refine yt ?_|refine yf ?_|refine yo ?_)
   (repeat show _∧_;first|refine yr ?_|refine yt ?_|refine yf ?_|refine yo ?_)
   exact ⟨.tup [.c (.slc none 0 0),.c (.bool false)],_,⟨[],⟨rfl,rfl,rfl⟩,by (repeat first|exact trivial|refine ent1 ?_)⟩,rfl,rfl⟩
  | some x1 =>
  have q1:(!(some x1:Option (BitVec 8)).isSome)=false:=rfl
  cases ho2:dig1 (L s (0+1)) with
  | none =>
   rw [ho1,ho2] at hst
   rw [show unhex s=none from hst]
   (repeat show _∧_;first|refine yr ?_|refine yt ?_|refine yf ?_|refine yt ?_ (by first|decide|(rw[q1];decide))|refine yf ?_ (by first|decide|(rw[q1];decide))|refine yo ?_)
   (repeat show _∧_;first|refine yr ?_|refine yt ?_|refine yf ?_|refine yt ?_ (by first|decide|(rw[q1];decide))|refine yf ?_ (by first|decide|(rw[q1];decide))|refine yo ?_)
   exact ⟨.tup [.c (.slc none 0 0),.c (.bool false)],_,⟨[],⟨rfl,rfl,rfl⟩,by (repeat first|exact trivial|refine ent1 ?_)⟩,rfl,rfl⟩
  | some y1 =>
  have q2:(!(some y1:Option (BitVec 8)).isSome)=false:=rfl
  rw [ho1,ho2] at hst
  dsimp only at hst
  (repeat show _∧_;first|refine yr ?_|refine yt ?_|refine yf ?_|refine yt ?_ (by first|decide|(rw[q1];decide)|(rw[q2];decide))|refine yf ?_ (by first|decide|(rw[q1];decide)|(rw[q2];decide))|refine yo ?_)
  (repeat show _∧_;first|refine yr ?_|refine yt ?_|refine yf ?_|refine yt ?_ (by first|decide|(rw[q1];decide)|(rw[q2];decide))|refine yf ?_ (by first|decide|(rw[q1];decide)|(rw[q2];decide))|refine yo ?_)
  intro c1 hc1
  (repeat show _∧_;first|refine yr ?_|refine yt ?_|refine yf ?_|refine yo ?_)
  refine ⟨(2,[x1 <<< 4 ||| y1],some c1),[1],⟨⟨rfl,rfl,rfl⟩,?_⟩,⟨by omega,rfl,by omega,hst,hc1⟩,by dsimp only; omega⟩
  dsimp only
  (repeat first|exact trivial|refine ent1 ?_)
  refine ⟨fun j hj=>eqC_bytes (fun i hi=>?_) j,by (repeat first|exact trivial|refine ent1 ?_)⟩
  exact new_row (m:=[x1 <<< 4 ||| y1]) (fun i hi=>one_row rfl i hi) i hi
 ·obtain ⟨hj0,hjb,hjp,hu,hc⟩:=hx
  dsimp only
  by_cases hj:j<s.length
  rotate_left
  ·have e1:decide (((j:Nat):Int)<(((U8 s).length:Nat):Int))=false:=decide_eq_false (by rw [U8_len]; omega)
   have hub:unhex s=some b:=by rw [hu,List.drop_eq_nil_of_le (by omega)]; show some (b++[])=some b; rw [List.append_nil]
   obtain ⟨d,D,rfl⟩:∃ d D,b=d::D:=by
    cases b with
    | nil=>simp at hjb; omega
    | cons d D=>exact ⟨d,D,rfl⟩
   rw [hub]
   (repeat show _∧_;first|refine yr ?_|refine yt ?_|refine yf ?_|refine yt ?_ (by first|decide|(rw[e1];decide))|refine yf ?_ (by first|decide|(rw[e1];decide))|refine yo ?_)
   exact ⟨.tup [.c (.sl 0 0 0 (d::D).length cc),.c (.bool true)],_,⟨[0],⟨rfl,rfl,rfl⟩,by (repeat first|exact trivial|refine ent1 ?_)⟩,cc,hc,rfl,rfl⟩
  have e1:decide (((j:Nat):Int)<(((U8 s).length:Nat):Int))=true:=decide_eq_true (by rw [U8_len]; omega)
  have hj1:j+1<s.length:=by omega
  have hst:=unhex_step hj1
  (repeat show _∧_;first|refine yr ?_|refine yt ?_|refine yf ?_|refine yt ?_ (by first|decide|(rw[e1];decide))|refine yf ?_ (by first|decide|(rw[e1];decide))|refine yo ?_)
  refine And.intro ⟨by omega,by rw [U8_len]; omega⟩ ?_
  rw [show ((U8 s).getD ((j:Nat):Int).toNat 0).toBitVec=L s j from U8_get s j hj]
  (repeat show _∧_;first|refine yr ?_|refine yt ?_|refine yf ?_|refine yo ?_)
  refine call_same (fn_qdigit (L s j)) [] rfl (by (repeat first|exact trivial|refine ent1 ?_)) trivial (fun _ _=>trivial) ?_
  rintro y hs9 ⟨rfl,rfl⟩
  (repeat show _∧_;first|refine yr ?_|refine yt ?_|refine yf ?_|refine yo ?_)
  refine And.intro ⟨by omega,by rw [U8_len]; omega⟩ ?_
  rw [show ((U8 s).getD (((j:Nat):Int)+1).toNat 0).toBitVec=L s (j+1) from by rw [show ((((j:Nat):Int)+1).toNat)=j+1 by omega]; exact U8_get s (j+1) hj1]
  (repeat show _∧_;first|refine yr ?_|refine yt ?_|refine yf ?_|refine yo ?_)
  refine call_same (fn_qdigit (L s (j+1))) [] rfl (by (repeat first|exact trivial|refine ent1 ?_)) trivial (fun _ _=>trivial) ?_
  rintro y hs9 ⟨rfl,rfl⟩
  cases ho1:dig1 (L s j) with
  | none =>
   rw [ho1] at hst
   rw [show unhex s=none by rw [hu,hst]; rfl]
   (repeat show _∧_;first|refine yr ?_|refine yt ?_|refine yf ?_|refine yo ?_)
   (repeat show _∧_;first|refine yr ?_|refine yt ?_|refine yf ?_|refine yo ?_)
   exact ⟨.tup [.c (.slc none 0 0),.c (.bool false)],_,⟨[],⟨rfl,rfl,rfl⟩,by (repeat first|exact trivial|refine ent1 ?_)⟩,rfl,rfl⟩
  | some x1 =>
  have q1:(!(some x1:Option (BitVec 8)).isSome)=false:=rfl
  cases ho2:dig1 (L s (j+1)) with
  | none =>
   rw [ho1,ho2] at hst
   rw [show unhex s=none by rw [hu,hst]; rfl]
   (repeat show _∧_;first|refine yr ?_|refine yt ?_|refine yf ?_|refine yt ?_ (by first|decide|(rw[q1];decide))|refine yf ?_ (by first|decide|(rw[q1];decide))|refine yo ?_)
   (repeat show _∧_;first|refine yr ?_|refine yt ?_|refine yf ?_|refine yt ?_ (by first|decide|(rw[q1];decide))|refine yf ?_ (by first|decide|(rw[q1];decide))|refine yo ?_)
   exact ⟨.tup [.c (.slc none 0 0),.c (.bool false)],_,⟨[],⟨rfl,rfl,rfl⟩,by (repeat first|exact trivial|refine ent1 ?_)⟩,rfl,rfl⟩
  | some y1 =>
  have q2:(!(some y1:Option (BitVec 8)).isSome)=false:=rfl
  rw [ho1,ho2] at hst
  dsimp only at hst
  (repeat show _∧_;first|refine yr ?_|refine yt ?_|refine yf ?_|refine yt ?_ (by first|decide|(rw[q1];decide)|(rw[q2];decide))|refine yf ?_ (by first|decide|(rw[q1];decide)|(rw[q2];decide))|refine yo ?_)
  (repeat show _∧_;first|refine yr ?_|refine yt ?_|refine yf ?_|refine yt ?_ (by first|decide|(rw[q1];decide)|(rw[q2];decide))|refine yf ?_ (by first|decide|(rw[q1];decide)|(rw[q2];decide))|refine yo ?_)
  refine And.intro ⟨hc,by simp only [scale]; omega,by show (b.length+1)*1≤140737488355328; omega⟩ ?_
  intro c1 hc1
  (repeat show _∧_;first|refine yr ?_|refine yt ?_|refine yf ?_|refine yo ?_)
  refine ⟨(j+2,b++[x1 <<< 4 ||| y1],some c1),[2],⟨⟨rfl,rfl,rfl⟩,?_⟩,⟨by omega,by rw [List.length_append,List.length_singleton]; omega,by omega,by rw [hu,hst,Option.map_map]; congr 1; funext l; simp,by rw [List.length_append]; exact hc1⟩,by dsimp only; omega⟩
  dsimp only
  (repeat first|exact trivial|refine ent1 ?_)
  refine And.intro (show b.length+1=_ by rw [List.length_append]; rfl) ?_
  (repeat first|exact trivial|refine ent1 ?_)
  refine ⟨fun j hj=>eqC_bytes (fun i hi=>?_) j,by (repeat first|exact trivial|refine ent1 ?_)⟩
  have hi':i<b.length+1:=by rw [List.length_append] at hi; exact hi
  refine app_row (l:=b) (n:=b.length) (k:=1) rfl ?_ (fun i hi=>bytesF_lt hi) (fun i hi=>?_) i hi'
  ·rfl
  ·exact rowl i (by exact hi) rfl
end Sx
end
section
namespace Sx
open Go.RowKit Sha Vi Js Ev Qj

theorem evNm_dec (k:BitVec 8) (s:Bs):decide (evName k=U8 s)=decide (evNm k=s):=decide_eq_decide.2 ⟨fun h=>by
 unfold evNm; rw [h]; exact U8_inj (U8_nsB _),fun h=>by rw [← h]; exact (U8_nsB _).symm⟩
set_option maxRecDepth 20000 in
set_option maxHeartbeats 4000000 in
theorem fn_enamed (s:Bs):Fn Tryd.prog tds 38 [] [.c (.str (U8 s))] (fun _=>True) (fun y hs=>y=.tup [.c (.w8 ((namedM s).getD 0#8)),.c (.bool (namedM s).isSome)]∧hs=[]):=by
 refine fn_of_body tds_ok follows_ Tryd.func38 rfl (t:=.a (.c (.str (U8 s)))::anys (Tryd.f38.ntmps-1)) rfl (fun w r0 hr0 _=>?_)
 obtain rfl:r0=[]:=List.eq_nil_of_length_eq_zero hr0
 (repeat show _∧_;first|refine yr ?_|refine yt ?_|refine yf ?_|refine yo ?_)
 refine .inl ⟨Nat,fun k=>⟨[.a (.c (.str ((U8 s)))),.any,.any,.any,.a (.c (.w8 ((BitVec.ofNat 8 k)))),.any,.any,.any,.any,.any,.any,.any,.any,.any,.any,.any,.any,.any,.any,.any,.any],[]⟩,
  fun k=>1≤k∧k≤20∧namedM s=namedF s (20-k) k,fun k=>20-k,⟨1,[],⟨⟨rfl,rfl,rfl⟩,by (repeat first|exact trivial|refine ent1 ?_)⟩,Nat.le_refl _,by decide,rfl⟩,fun k hk=>?_⟩
 obtain ⟨h1,h2,h3⟩:=hk
 have hkn:(BitVec.ofNat 8 k).toNat=k:=by rw [BitVec.toNat_ofNat]; omega
 by_cases hk20:k=20
 ·subst hk20
  rw [h3]
  (repeat show _∧_;first|refine yr ?_|refine yt ?_|refine yf ?_|refine yo ?_)
  exact ⟨.tup [.c (.w8 0#8),.c (.bool false)],_,⟨[],⟨rfl,rfl,rfl⟩,by (repeat first|exact trivial|refine ent1 ?_)⟩,rfl,rfl⟩
 have e1:decide (BitVec.ofNat 8 k≤19#8)=true:=decide_eq_true (by rw [BitVec.le_def,hkn]; show k≤19; omega)
 have hf:namedF s (20-k) k=if evNm (BitVec.ofNat 8 k)=s then some (BitVec.ofNat 8 k) else namedF s (20-(k+1)) (k+1):=by
  rw [show 20-k=(20-(k+1))+1 by omega]; rfl
 rw [hf] at h3
 (repeat show _∧_;first|refine yr ?_|refine yt ?_|refine yf ?_|refine ya e1 ?_|refine yb e1 ?_|refine yo ?_)
 refine call_same (fn_eof (BitVec.ofNat 8 k)) [] rfl (by (repeat first|exact trivial|refine ent1 ?_)) trivial (fun _ _=>trivial) ?_
 rintro y hs ⟨rfl,rfl⟩
 have hd:=evNm_dec (BitVec.ofNat 8 k) s
 by_cases hs:evNm (BitVec.ofNat 8 k)=s
 ·rw [decide_eq_true hs] at hd
  rw [if_pos hs] at h3
  rw [h3]
  (repeat show _∧_;first|refine yr ?_|refine yt ?_|refine yf ?_|refine ya hd ?_|refine yb hd ?_|refine yo ?_)
  exact ⟨.tup [.c (.w8 (BitVec.ofNat 8 k)),.c (.bool true)],_,⟨[],⟨rfl,rfl,rfl⟩,by (repeat first|exact trivial|refine ent1 ?_)⟩,rfl,rfl⟩
 ·rw [decide_eq_false hs] at hd
  rw [if_neg hs] at h3
  (repeat show _∧_;first|refine yr ?_|refine yt ?_|refine yf ?_|refine ya hd ?_|refine yb hd ?_|refine yo ?_)
  refine ⟨k+1,[],⟨⟨rfl,rfl,rfl⟩,?_⟩,⟨by omega,by omega,h3⟩,by dsimp only; omega⟩
  (repeat first|exact trivial|refine ent1 ?_)
  refine And.intro (show BitVec.ofNat 8 k+1#8=BitVec.ofNat 8 (k+1) by apply BitVec.eq_of_toNat_eq; simp) ?_
  (repeat first|exact trivial|refine ent1 ?_)
end Sx
end
section
namespace Qj
open Sha Js Ev
theorem nums_bad {v:JT} {s:Bs} {l:List Bs} (h:memJ v s 3#8=none):nums v (s::l)=none:=by unfold nums; rw [h]
theorem nums_ok {v x:JT} {s:Bs} {l:List Bs} (h:memJ v s 3#8=some x):nums v (s::l)=(nums v l).map (x.n::·):=by rw [nums,h]
theorem memJ_mem {v x:JT} {s:Bs} {k:BitVec 8} (h:memJ v s k=some x):x∈v.l:=by
 unfold memJ at h
 split at h
 ·cases h
 split at h
 ·cases h
 ·rename_i y hy
  split at h
  ·injection h with h; subst h; exact List.mem_of_getElem? hy
  ·cases h
theorem unhex_len:∀ {s D:Bs},unhex s=some D→D.length≤s.length
 | [],D,h=>by injection h with h; subst h; exact Nat.le_refl _
 | [_],D,h=>by cases h
 | a::b::l,D,h=>by
  unfold unhex at h
  split at h
  ·obtain ⟨E,h1,rfl⟩:=Option.map_eq_some_iff.1 h
   have:=unhex_len h1
   simp; omega
  ·cases h
end Qj
namespace Sx
open Go.RowKit Sha Vi Js Ev Qj

def FillA (W:World) (ms:List Nat) (k:BitVec 8) (t:BitVec 64) (o:Option (List (BitVec 64) × Bs)) (y:SV) (hs:List (List Seg)):Prop:=match o with
 | none=>y=.a (.c (.bool false))∧hs=[[.past W ms],[.one (.w8 k),.one (.w64 t),.one .any,.one .any]]
 | some (N,D)=>y=.a (.c (.bool true))∧∃ x' W' ms',Later W ms W' ms'∧EvAt W' ms' x' ⟨k,t,N,D⟩∧hs=[[.past W' ms'],evS ⟨k,t,N,D⟩ x']
set_option maxRecDepth 20000 in
set_option maxHeartbeats 32000000 in
theorem fn_qfill {d:Nat} {W:World} {ms:List Nat} {v:JT} {x:JC} (hx:TAt W ms (d+1) v x) (hS:∀ y∈v.l,y.s.length≤4194304) (k:BitVec 8) (t:BitVec 64):FnR Tryd.prog tds 39 1 [[.past W ms],[.one (.w8 k),.one (.w64 t),.one (.slc none 0 0),.one (.slc none 0 0)]] [.c (.p 1 0 0),.agg (jvS v x)] (fun _=>True) (FillA W ms k t (fillM k v)):=by
 refine fn_of_bodyW tds_ok follows_ Tryd.func39 rfl (t:=.a (.c (.p 1 0 0))::.a (.agg (jvS v x))::anys (Tryd.f39.ntmps-2)) rfl (fun w r0 hr0 _=>?_)
 obtain ⟨x0,x1,rfl⟩:=len2' hr0
 (repeat show _∧_;first|refine yr ?_|refine yt ?_|refine yf ?_|refine yo ?_)
 refine call_same (fn_eof k) [] rfl (by (repeat first|exact trivial|refine ent1 ?_)) trivial (fun _ _=>trivial) ?_
 rintro y hs ⟨rfl,rfl⟩
 have hdn:(dataNs k).length=(evNames k).length+if evData k=true then 1 else 0:=by unfold dataNs evNs; rw [List.length_append,List.length_map]; split <;> rfl
 have hfm:fillM k v=if hasJ v (dataNs k).length=false then none else match nums v (evNs k) with
  | none=>none
  | some N=>if evData k=true then match memJ v idB 4#8 with
    | none=>none
    | some x=>(unhex x.s).map fun D=>(N,D)
   else some (N,[]):=rfl
 have hle9:(evNames k).length≤9:=by
  have:∀ k:BitVec 8,(evNames k).length≤9:=by decide +kernel
  exact this k
 obtain ⟨l,hl⟩:∃ l,evNames k=l:=⟨_,rfl⟩
 have hns:evNs k=l.map nsB:=by unfold evNs; rw [hl]
 rw [hl] at hle9 hdn ⊢
 rw [hns] at hfm
 clear hns hl
 cases hd:evData k
 ·rw [hd] at hdn hfm
  have hm9:(dataNs k).length=l.length+0:=by rw [hdn,if_neg (by decide)]
  (repeat show _∧_;first|refine yr ?_|refine yt ?_|refine yf ?_|refine yo ?_)
  refine call_same (fn_qhas hx (l.length+0)) [0] rfl (by (repeat first|exact trivial|refine ent1 ?_)) (by (repeat first|exact trivial|refine ent1 ?_)) (fun _ _=>trivial) ?_
  rintro y hs ⟨rfl,rfl⟩
  rw [hm9] at hfm
  cases hh:hasJ v (l.length+0)
  ·rw [hh,if_pos rfl] at hfm
   rw [hfm]
   (repeat show _∧_;first|refine yr ?_|refine yt ?_|refine yf ?_|refine yo ?_)
   exact FinW.of ⟨.a (.c (.bool false)),_,⟨[0,1],⟨rfl,rfl,rfl⟩,by (repeat first|exact trivial|refine ent1 ?_)⟩,rfl,rfl⟩
  rw [hh,if_neg (by decide)] at hfm
  cases l with
  | nil =>
   (repeat show _∧_;first|refine yr ?_|refine yt ?_|refine yf ?_|refine yo ?_)
   refine .inr ⟨1,?_⟩
   (repeat show _∧_;first|refine yr ?_|refine yt ?_|refine yf ?_|refine yo ?_)
   have hfm:fillM k v=(match (some []:Option (List (BitVec 64))) with
     | none=>none
     | some N=>if false=true then match memJ v idB 4#8 with
       | none=>none
       | some x=>(unhex x.s).map fun D=>(N,D)
      else some (N,[])):=hfm
   dsimp only at hfm
   rw [if_neg (by decide)] at hfm
   rw [hfm]
   (repeat show _∧_;first|refine yr ?_|refine yt ?_|refine yf ?_|refine yo ?_)
   refine finW_frz [0,1] rfl (Nat.zero_lt_one) cx0_m rfl (fun W' ms' α hL hI=>?_)
   refine ⟨.a (.c (.bool true)),[evS ⟨k,t,[],[]⟩ ⟨none,0,0,none,0,0⟩],⟨⟨rfl,rfl,rfl⟩,?_⟩,rfl,⟨none,0,0,none,0,0⟩,W',ms',hL,⟨SlAt.nul,SlAt.nul⟩,rfl⟩
   (repeat first|exact trivial|refine ent1 ?_)
  | cons nm0 l0 =>
  obtain ⟨l,hl⟩:∃ l,nm0::l0=l:=⟨_,rfl⟩
  have hl0:0<l.length:=by rw [← hl]; simp
  have hstB:stB (nm0::l0)=[.row l.length (strsF l)]:=by rw [← hl]; rfl
  have hstC:∀ i,stC i (nm0::l0)=.sn false i 0 0 l.length l.length:=by intro i; rw [← hl]; rfl
  rw [hstB,hstC,hl]
  rw [hl] at hfm hle9 hh hdn hm9
  clear hstB hstC hl
  (repeat show _∧_;first|refine yr ?_|refine yt ?_|refine yf ?_|refine yo ?_)
  refine .inl ⟨Nat × List (BitVec 64) × Option Nat,fun y=>match y with
   | (j,N,none)=>⟨[.a (.c (.p 1 0 0)),.any,.any,.a (.c (.p 2 0 0)),.a (.c (.bool (false))),.a (.c (.p 4 0 0)),.any,.any,.any,.any,.any,.any,.any,.any,.any,.any,.any,.any,.any,.any,.any,.any,.any,.any,.any,.any,.any,.any,.any,.any,.any,.any,.any,.any,.a (.c (.sn false 3 0 0 l.length l.length)),.a (.c (.int .i64 (l.length))),.a (.c (.int .i64 (((j:Nat):Int)))),.any,.any,.any,.any,.any,.any,.any,.any,.any,.any,.any,.any,.any,.any,.any,.any,.any,.any,.any,.any,.any,.any,.any,.any,.any,.any,.any,.any,.any,.any,.any,.any,.any,.any,.any,.any,.any,.any,.any,.any,.any,.any],[[.past W ms],[.one (.w8 k),.one (.w64 t),.one (.slc none 0 0),.one (.slc none 0 0)],jvS v x,[.row l.length (strsF l)],[.one (.str (evName k)),.one (.sn false 3 0 0 l.length l.length),.one (.bool false)]]⟩
   | (j,N,some c)=>⟨[.a (.c (.p 1 0 0)),.any,.any,.a (.c (.p 2 0 0)),.a (.c (.bool (false))),.a (.c (.p 4 0 0)),.any,.any,.any,.any,.any,.any,.any,.any,.any,.any,.any,.any,.any,.any,.any,.any,.any,.any,.any,.any,.any,.any,.any,.any,.any,.any,.any,.any,.a (.c (.sn false 3 0 0 l.length l.length)),.a (.c (.int .i64 (l.length))),.a (.c (.int .i64 (((j:Nat):Int)))),.any,.any,.any,.any,.any,.any,.any,.any,.any,.any,.any,.any,.any,.any,.any,.any,.any,.any,.any,.any,.any,.any,.any,.any,.any,.any,.any,.any,.any,.any,.any,.any,.any,.any,.any,.any,.any,.any,.any,.any,.any,.any],[[.past W ms],[.one (.w8 k),.one (.w64 t),.one (.sl 5 0 0 N.length c),.one (.slc none 0 0)],jvS v x,[.row l.length (strsF l)],[.one (.str (evName k)),.one (.sn false 3 0 0 l.length l.length),.one (.bool false)],[.row c (numsF N)]]⟩,
   fun y=>match y with
   | (j,N,none)=>j=0∧N=[]
   | (j,N,some c)=>j≤l.length∧0<j∧N.length=j∧N.length≤c∧nums v (l.map nsB)=(nums v ((l.map nsB).drop j)).map (N++·),fun y=>l.length-y.1,⟨(0,[],none),[0,1,2,3,4],⟨⟨rfl,rfl,rfl⟩,?_⟩,rfl,rfl⟩,fun y hy=>?_⟩
  ·(repeat first|exact trivial|refine ent1 ?_)
   exact ⟨fun j hj=>eqC_strsM l hj,by (repeat first|exact trivial|refine ent1 ?_)⟩
  rcases y with ⟨j,N,_|c⟩
  ·obtain ⟨rfl,rfl⟩:=hy
   dsimp only
   have hj:0<l.length:=hl0
   have e1:decide (((0:Nat):Int)<(l.length:Int))=true:=decide_eq_true (by omega)
   have hdr:(l.map nsB).drop 0=nsB (l[0]'hj)::(l.map nsB).drop (0+1):=by rw [List.drop_eq_getElem_cons (by rw [List.length_map]; exact hj),List.getElem_map]
   have hsj:strsF l 0=.str (U8 (nsB (l[0]'hj))):=by rw [U8_nsB]; obtain ⟨s,h1,h2⟩:=nthC_str l 0 hj; rw [List.getElem?_eq_getElem hj] at h2; injection h2 with h2; rw [h2]; exact h1
   generalize (l[0]'hj)=nm at hdr hsj
   (repeat show _∧_;first|refine yr ?_|refine yt ?_|refine yf ?_|refine ya e1 ?_|refine yb e1 ?_|refine yo ?_)
   refine frc_atQ (y:=.str (U8 (nsB nm))) (by exact hsj) ?_
   (repeat show _∧_;first|refine yr ?_|refine yt ?_|refine yf ?_|refine yo ?_)
   refine call_same (fn_qmember hx (nsB nm) 3#8) [0] rfl (by (repeat first|exact trivial|refine ent1 ?_)) (by (repeat first|exact trivial|refine ent1 ?_)) (fun _ _=>trivial) ?_
   rintro y hs ⟨rfl,hm⟩
   have hnu:nums v (l.map nsB)=(nums v ((l.map nsB).drop 0)).map ([]++·):=by rw [List.drop_zero]; simp
   rw [hdr] at hnu
   cases hz:memJ v (nsB nm) 3#8 with
   | none =>
    rw [hz] at hm
    obtain rfl:y=_:=hm
    rw [nums_bad hz] at hnu
    rw [show nums v (l.map nsB)=none from hnu] at hfm
    rw [show fillM k v=none from hfm]
    (repeat show _∧_;first|refine yr ?_|refine yt ?_|refine yf ?_|refine yo ?_)
    exact FinW.of ⟨.a (.c (.bool false)),_,⟨[0,1],⟨rfl,rfl,rfl⟩,by (repeat first|exact trivial|refine ent1 ?_)⟩,rfl,rfl⟩
   | some z =>
   rw [hz] at hm
   obtain ⟨xz,hxz,rfl⟩:=hm
   rw [nums_ok hz,Option.map_map] at hnu
   (repeat show _∧_;first|refine yr ?_|refine yt ?_|refine yf ?_|refine yo ?_)
   refine ⟨none,[],[(0,true),(1,true),(2,true),(3,true),(4,true),(5,true),(6,true),(7,false)],[8,9,10,11],by kernel_rfl,?_⟩
   (repeat show _∧_;first|refine yr ?_|refine yt ?_|refine yf ?_|refine yo ?_)
   intro c1 hc1
   (repeat show _∧_;first|refine yr ?_|refine yt ?_|refine yf ?_|refine yo ?_)
   refine ⟨(1,[z.n],some c1),[0,1,2,3,4,7],⟨⟨rfl,rfl,rfl⟩,?_⟩,⟨hl0,Nat.zero_lt_one,rfl,hc1,hnu⟩,by dsimp only; omega⟩
   dsimp only
   (repeat first|exact trivial|refine ent1 ?_)
   refine ⟨fun j hj=>eqC_strs l hj,?_⟩
   (repeat first|exact trivial|refine ent1 ?_)
   exact ⟨fun j hj=>eqC_nums (fun j x h=>new_nums rfl j x h) j,by (repeat first|exact trivial|refine ent1 ?_)⟩
  ·obtain ⟨hj0,hjp,hNl,hc,hnu⟩:=hy
   dsimp only
   by_cases hj:j<l.length
   rotate_left
   ·have e1:decide ((j:Int)<(l.length:Int))=false:=decide_eq_false (by omega)
    rw [List.drop_eq_nil_of_le (by rw [List.length_map]; omega)] at hnu
    have hnu:nums v (l.map nsB)=some N:=by rw [hnu]; show some (N++[])=some N; rw [List.append_nil]
    rw [hnu] at hfm
    dsimp only at hfm
    (repeat show _∧_;first|refine yr ?_|refine yt ?_|refine yf ?_|refine ya e1 ?_|refine yb e1 ?_|refine yo ?_)
    rw [if_neg (by decide)] at hfm
    rw [hfm]
    (repeat show _∧_;first|refine yr ?_|refine yt ?_|refine yf ?_|refine yo ?_)
    refine finW_frz [0,1] rfl (Nat.zero_lt_one) cx0_m rfl (fun W' ms' α hL hI=>?_)
    refine ⟨.a (.c (.bool true)),[evS ⟨k,t,N,[]⟩ ⟨some ((α 5).add (0+0)),N.length,c,none,0,0⟩],⟨⟨rfl,rfl,rfl⟩,?_⟩,rfl,⟨some ((α 5).add (0+0)),N.length,c,none,0,0⟩,W',ms',hL,⟨SlAt.frz (F:=fun j=>!memB j [0,1]) (hI 5 rfl) rfl hc (show N.length≤9223372036854775807 by omega) (by decide) (by simp) nums_fin (rz_w64 _),SlAt.nul⟩,rfl⟩
    (repeat first|exact trivial|refine ent1 ?_)
   have e1:decide (((j:Nat):Int)<(l.length:Int))=true:=decide_eq_true (by omega)
   have hdr:(l.map nsB).drop j=nsB (l[j]'hj)::(l.map nsB).drop (j+1):=by rw [List.drop_eq_getElem_cons (by rw [List.length_map]; exact hj),List.getElem_map]
   have hsj:strsF l j=.str (U8 (nsB (l[j]'hj))):=by rw [U8_nsB]; obtain ⟨s,h1,h2⟩:=nthC_str l j hj; rw [List.getElem?_eq_getElem hj] at h2; injection h2 with h2; rw [h2]; exact h1
   generalize (l[j]'hj)=nm at hdr hsj
   (repeat show _∧_;first|refine yr ?_|refine yt ?_|refine yf ?_|refine ya e1 ?_|refine yb e1 ?_|refine yo ?_)
   refine frc_atQ (y:=.str (U8 (nsB nm))) (by exact hsj) ?_
   (repeat show _∧_;first|refine yr ?_|refine yt ?_|refine yf ?_|refine yo ?_)
   refine call_same (fn_qmember hx (nsB nm) 3#8) [0] rfl (by (repeat first|exact trivial|refine ent1 ?_)) (by (repeat first|exact trivial|refine ent1 ?_)) (fun _ _=>trivial) ?_
   rintro y hs ⟨rfl,hm⟩
   rw [hdr] at hnu
   cases hz:memJ v (nsB nm) 3#8 with
   | none =>
    rw [hz] at hm
    obtain rfl:y=_:=hm
    rw [nums_bad hz] at hnu
    rw [show nums v (l.map nsB)=none from hnu] at hfm
    rw [show fillM k v=none from hfm]
    (repeat show _∧_;first|refine yr ?_|refine yt ?_|refine yf ?_|refine yo ?_)
    exact FinW.of ⟨.a (.c (.bool false)),_,⟨[0,1],⟨rfl,rfl,rfl⟩,by (repeat first|exact trivial|refine ent1 ?_)⟩,rfl,rfl⟩
   | some z =>
   rw [hz] at hm
   obtain ⟨xz,hxz,rfl⟩:=hm
   rw [nums_ok hz,Option.map_map] at hnu
   (repeat show _∧_;first|refine yr ?_|refine yt ?_|refine yf ?_|refine yo ?_)
   refine ⟨none,[],[(0,true),(1,true),(2,true),(3,true),(4,true),(5,true),(6,true),(7,false)],[8,9,10,11],by kernel_rfl,?_⟩
   (repeat show _∧_;first|refine yr ?_|refine yt ?_|refine yf ?_|refine yo ?_)
   refine And.intro ⟨hc,by simp only [scale]; omega,by show (N.length+1)*8≤140737488355328; omega⟩ ?_
   intro c1 hc1
   (repeat show _∧_;first|refine yr ?_|refine yt ?_|refine yf ?_|refine yo ?_)
   refine ⟨(j+1,N++[z.n],some c1),[0,1,2,3,4,8],⟨⟨rfl,rfl,rfl⟩,?_⟩,⟨hj,by omega,by rw [List.length_append,hNl]; rfl,by rw [List.length_append]; exact hc1,by rw [hnu]; congr 1; funext l; simp⟩,by dsimp only; omega⟩
   dsimp only
   (repeat first|exact trivial|refine ent1 ?_)
   refine And.intro (show N.length+1=_ by rw [List.length_append]; rfl) ?_
   (repeat first|exact trivial|refine ent1 ?_)
   refine ⟨fun j hj=>eqC_strs l hj,?_⟩
   (repeat first|exact trivial|refine ent1 ?_)
   exact ⟨fun j hj=>eqC_nums (fun j x h=>app_nums rfl (fun j x h=>nums_get h) rfl j x h) j,by (repeat first|exact trivial|refine ent1 ?_)⟩
 ·rw [hd] at hdn hfm
  have hm9:(dataNs k).length=l.length+1:=by rw [hdn,if_pos rfl]
  (repeat show _∧_;first|refine yr ?_|refine yt ?_|refine yf ?_|refine yo ?_)
  refine call_same (fn_qhas hx (l.length+1)) [0] rfl (by (repeat first|exact trivial|refine ent1 ?_)) (by (repeat first|exact trivial|refine ent1 ?_)) (fun _ _=>trivial) ?_
  rintro y hs ⟨rfl,rfl⟩
  rw [hm9] at hfm
  cases hh:hasJ v (l.length+1)
  ·rw [hh,if_pos rfl] at hfm
   rw [hfm]
   (repeat show _∧_;first|refine yr ?_|refine yt ?_|refine yf ?_|refine yo ?_)
   exact FinW.of ⟨.a (.c (.bool false)),_,⟨[0,1],⟨rfl,rfl,rfl⟩,by (repeat first|exact trivial|refine ent1 ?_)⟩,rfl,rfl⟩
  rw [hh,if_neg (by decide)] at hfm
  cases l with
  | nil =>
   (repeat show _∧_;first|refine yr ?_|refine yt ?_|refine yf ?_|refine yo ?_)
   refine .inr ⟨1,?_⟩
   (repeat show _∧_;first|refine yr ?_|refine yt ?_|refine yf ?_|refine yo ?_)
   have hfm:fillM k v=(match (some []:Option (List (BitVec 64))) with
     | none=>none
     | some N=>if true=true then match memJ v idB 4#8 with
       | none=>none
       | some x=>(unhex x.s).map fun D=>(N,D)
      else some (N,[])):=hfm
   dsimp only at hfm
   rw [if_pos rfl] at hfm
   (repeat show _∧_;first|refine yr ?_|refine yt ?_|refine yf ?_|refine yo ?_)
   refine call_same (fn_qmember hx idB 4#8) [0] rfl (by (repeat first|exact trivial|refine ent1 ?_)) (by (repeat first|exact trivial|refine ent1 ?_)) (fun _ _=>trivial) ?_
   rintro y hs ⟨rfl,hm⟩
   cases hz:memJ v idB 4#8 with
   | none =>
    rw [hz] at hm hfm
    obtain rfl:y=_:=hm
    rw [show fillM k v=none from hfm]
    (repeat show _∧_;first|refine yr ?_|refine yt ?_|refine yf ?_|refine yo ?_)
    exact FinW.of ⟨.a (.c (.bool false)),_,⟨[0,1],⟨rfl,rfl,rfl⟩,by (repeat first|exact trivial|refine ent1 ?_)⟩,rfl,rfl⟩
   | some z =>
   rw [hz] at hm hfm
   obtain ⟨xz,hxz,rfl⟩:=hm
   dsimp only at hfm
   have hzs:=hS z (memJ_mem hz)
   (repeat show _∧_;first|refine yr ?_|refine yt ?_|refine yf ?_|refine yo ?_)
   refine call_same (fn_qbytes z.s (by omega) (by omega)) [] rfl (by (repeat first|exact trivial|refine ent1 ?_)) trivial (fun _ _=>trivial) ?_
   intro y hs hH
   rcases hu:unhex z.s with _|_|⟨b0,D0⟩
   ·rw [hu] at hH hfm
    obtain ⟨rfl,rfl⟩:=hH
    rw [show fillM k v=none from hfm]
    (repeat show _∧_;first|refine yr ?_|refine yt ?_|refine yf ?_|refine yo ?_)
    exact FinW.of ⟨.a (.c (.bool false)),_,⟨[0,1],⟨rfl,rfl,rfl⟩,by (repeat first|exact trivial|refine ent1 ?_)⟩,rfl,rfl⟩
   ·rw [hu] at hH hfm
    obtain ⟨rfl,rfl⟩:=hH
    rw [show fillM k v=some ([],[]) from hfm]
    (repeat show _∧_;first|refine yr ?_|refine yt ?_|refine yf ?_|refine yo ?_)
    refine finW_frz [0,1] rfl (Nat.zero_lt_one) cx0_m rfl (fun W' ms' α hL hI=>?_)
    refine ⟨.a (.c (.bool true)),[evS ⟨k,t,[],[]⟩ ⟨none,0,0,none,0,0⟩],⟨⟨rfl,rfl,rfl⟩,?_⟩,rfl,⟨none,0,0,none,0,0⟩,W',ms',hL,⟨SlAt.nul,SlAt.nul⟩,rfl⟩
    (repeat first|exact trivial|refine ent1 ?_)
   ·rw [hu] at hH hfm
    obtain ⟨c2,hc2,rfl,rfl⟩:=hH
    rw [show fillM k v=some ([],b0::D0) from hfm]
    have hDl:=unhex_len hu
    (repeat show _∧_;first|refine yr ?_|refine yt ?_|refine yf ?_|refine yo ?_)
    refine finW_frz [0,1] rfl (Nat.zero_lt_one) cx0_m rfl (fun W' ms' α hL hI=>?_)
    refine ⟨.a (.c (.bool true)),[evS ⟨k,t,[],b0::D0⟩ ⟨none,0,0,some ((α 6).add (0+0)),(b0::D0).length,c2⟩],⟨⟨rfl,rfl,rfl⟩,?_⟩,rfl,⟨none,0,0,some ((α 6).add (0+0)),(b0::D0).length,c2⟩,W',ms',hL,⟨SlAt.nul,SlAt.frz (F:=fun j=>!memB j [0,1]) (hI 6 rfl) rfl hc2 (show (b0::D0).length≤9223372036854775807 by omega) (by decide) (by simp) bytes_finM (rz_w8 _)⟩,rfl⟩
    (repeat first|exact trivial|refine ent1 ?_)
  | cons nm0 l0 =>
  obtain ⟨l,hl⟩:∃ l,nm0::l0=l:=⟨_,rfl⟩
  have hl0:0<l.length:=by rw [← hl]; simp
  have hstB:stB (nm0::l0)=[.row l.length (strsF l)]:=by rw [← hl]; rfl
  have hstC:∀ i,stC i (nm0::l0)=.sn false i 0 0 l.length l.length:=by intro i; rw [← hl]; rfl
  rw [hstB,hstC,hl]
  rw [hl] at hfm hle9 hh hdn hm9
  clear hstB hstC hl
  (repeat show _∧_;first|refine yr ?_|refine yt ?_|refine yf ?_|refine yo ?_)
  refine .inl ⟨Nat × List (BitVec 64) × Option Nat,fun y=>match y with
   | (j,N,none)=>⟨[.a (.c (.p 1 0 0)),.any,.any,.a (.c (.p 2 0 0)),.a (.c (.bool (false))),.a (.c (.p 4 0 0)),.any,.any,.any,.any,.any,.any,.any,.any,.any,.any,.any,.any,.any,.any,.any,.any,.any,.any,.any,.any,.any,.any,.any,.any,.any,.any,.any,.any,.a (.c (.sn false 3 0 0 l.length l.length)),.a (.c (.int .i64 (l.length))),.a (.c (.int .i64 (((j:Nat):Int)))),.any,.any,.any,.any,.any,.any,.any,.any,.any,.any,.any,.any,.any,.any,.any,.any,.any,.any,.any,.any,.any,.any,.any,.any,.any,.any,.any,.any,.any,.any,.any,.any,.any,.any,.any,.any,.any,.any,.any,.any,.any,.any],[[.past W ms],[.one (.w8 k),.one (.w64 t),.one (.slc none 0 0),.one (.slc none 0 0)],jvS v x,[.row l.length (strsF l)],[.one (.str (evName k)),.one (.sn false 3 0 0 l.length l.length),.one (.bool true)]]⟩
   | (j,N,some c)=>⟨[.a (.c (.p 1 0 0)),.any,.any,.a (.c (.p 2 0 0)),.a (.c (.bool (false))),.a (.c (.p 4 0 0)),.any,.any,.any,.any,.any,.any,.any,.any,.any,.any,.any,.any,.any,.any,.any,.any,.any,.any,.any,.any,.any,.any,.any,.any,.any,.any,.any,.any,.a (.c (.sn false 3 0 0 l.length l.length)),.a (.c (.int .i64 (l.length))),.a (.c (.int .i64 (((j:Nat):Int)))),.any,.any,.any,.any,.any,.any,.any,.any,.any,.any,.any,.any,.any,.any,.any,.any,.any,.any,.any,.any,.any,.any,.any,.any,.any,.any,.any,.any,.any,.any,.any,.any,.any,.any,.any,.any,.any,.any,.any,.any,.any,.any],[[.past W ms],[.one (.w8 k),.one (.w64 t),.one (.sl 5 0 0 N.length c),.one (.slc none 0 0)],jvS v x,[.row l.length (strsF l)],[.one (.str (evName k)),.one (.sn false 3 0 0 l.length l.length),.one (.bool true)],[.row c (numsF N)]]⟩,
   fun y=>match y with
   | (j,N,none)=>j=0∧N=[]
   | (j,N,some c)=>j≤l.length∧0<j∧N.length=j∧N.length≤c∧nums v (l.map nsB)=(nums v ((l.map nsB).drop j)).map (N++·),fun y=>l.length-y.1,⟨(0,[],none),[0,1,2,3,4],⟨⟨rfl,rfl,rfl⟩,?_⟩,rfl,rfl⟩,fun y hy=>?_⟩
  ·(repeat first|exact trivial|refine ent1 ?_)
   exact ⟨fun j hj=>eqC_strsM l hj,by (repeat first|exact trivial|refine ent1 ?_)⟩
  rcases y with ⟨j,N,_|c⟩
  ·obtain ⟨rfl,rfl⟩:=hy
   dsimp only
   have hj:0<l.length:=hl0
   have e1:decide (((0:Nat):Int)<(l.length:Int))=true:=decide_eq_true (by omega)
   have hdr:(l.map nsB).drop 0=nsB (l[0]'hj)::(l.map nsB).drop (0+1):=by rw [List.drop_eq_getElem_cons (by rw [List.length_map]; exact hj),List.getElem_map]
   have hsj:strsF l 0=.str (U8 (nsB (l[0]'hj))):=by rw [U8_nsB]; obtain ⟨s,h1,h2⟩:=nthC_str l 0 hj; rw [List.getElem?_eq_getElem hj] at h2; injection h2 with h2; rw [h2]; exact h1
   generalize (l[0]'hj)=nm at hdr hsj
   (repeat show _∧_;first|refine yr ?_|refine yt ?_|refine yf ?_|refine ya e1 ?_|refine yb e1 ?_|refine yo ?_)
   refine frc_atQ (y:=.str (U8 (nsB nm))) (by exact hsj) ?_
   (repeat show _∧_;first|refine yr ?_|refine yt ?_|refine yf ?_|refine yo ?_)
   refine call_same (fn_qmember hx (nsB nm) 3#8) [0] rfl (by (repeat first|exact trivial|refine ent1 ?_)) (by (repeat first|exact trivial|refine ent1 ?_)) (fun _ _=>trivial) ?_
   rintro y hs ⟨rfl,hm⟩
   have hnu:nums v (l.map nsB)=(nums v ((l.map nsB).drop 0)).map ([]++·):=by rw [List.drop_zero]; simp
   rw [hdr] at hnu
   cases hz:memJ v (nsB nm) 3#8 with
   | none =>
    rw [hz] at hm
    obtain rfl:y=_:=hm
    rw [nums_bad hz] at hnu
    rw [show nums v (l.map nsB)=none from hnu] at hfm
    rw [show fillM k v=none from hfm]
    (repeat show _∧_;first|refine yr ?_|refine yt ?_|refine yf ?_|refine yo ?_)
    exact FinW.of ⟨.a (.c (.bool false)),_,⟨[0,1],⟨rfl,rfl,rfl⟩,by (repeat first|exact trivial|refine ent1 ?_)⟩,rfl,rfl⟩
   | some z =>
   rw [hz] at hm
   obtain ⟨xz,hxz,rfl⟩:=hm
   rw [nums_ok hz,Option.map_map] at hnu
   (repeat show _∧_;first|refine yr ?_|refine yt ?_|refine yf ?_|refine yo ?_)
   refine ⟨none,[],[(0,true),(1,true),(2,true),(3,true),(4,true),(5,true),(6,true),(7,false)],[8,9,10,11],by kernel_rfl,?_⟩
   (repeat show _∧_;first|refine yr ?_|refine yt ?_|refine yf ?_|refine yo ?_)
   intro c1 hc1
   (repeat show _∧_;first|refine yr ?_|refine yt ?_|refine yf ?_|refine yo ?_)
   refine ⟨(1,[z.n],some c1),[0,1,2,3,4,7],⟨⟨rfl,rfl,rfl⟩,?_⟩,⟨hl0,Nat.zero_lt_one,rfl,hc1,hnu⟩,by dsimp only; omega⟩
   dsimp only
   (repeat first|exact trivial|refine ent1 ?_)
   refine ⟨fun j hj=>eqC_strs l hj,?_⟩
   (repeat first|exact trivial|refine ent1 ?_)
   exact ⟨fun j hj=>eqC_nums (fun j x h=>new_nums rfl j x h) j,by (repeat first|exact trivial|refine ent1 ?_)⟩
  ·obtain ⟨hj0,hjp,hNl,hc,hnu⟩:=hy
   dsimp only
   by_cases hj:j<l.length
   rotate_left
   ·have e1:decide ((j:Int)<(l.length:Int))=false:=decide_eq_false (by omega)
    rw [List.drop_eq_nil_of_le (by rw [List.length_map]; omega)] at hnu
    have hnu:nums v (l.map nsB)=some N:=by rw [hnu]; show some (N++[])=some N; rw [List.append_nil]
    rw [hnu] at hfm
    dsimp only at hfm
    (repeat show _∧_;first|refine yr ?_|refine yt ?_|refine yf ?_|refine ya e1 ?_|refine yb e1 ?_|refine yo ?_)
    rw [if_pos rfl] at hfm
    (repeat show _∧_;first|refine yr ?_|refine yt ?_|refine yf ?_|refine yo ?_)
    refine call_same (fn_qmember hx idB 4#8) [0] rfl (by (repeat first|exact trivial|refine ent1 ?_)) (by (repeat first|exact trivial|refine ent1 ?_)) (fun _ _=>trivial) ?_
    rintro y hs ⟨rfl,hm⟩
    cases hz:memJ v idB 4#8 with
    | none =>
     rw [hz] at hm hfm
     obtain rfl:y=_:=hm
     rw [show fillM k v=none from hfm]
     (repeat show _∧_;first|refine yr ?_|refine yt ?_|refine yf ?_|refine yo ?_)
     exact FinW.of ⟨.a (.c (.bool false)),_,⟨[0,1],⟨rfl,rfl,rfl⟩,by (repeat first|exact trivial|refine ent1 ?_)⟩,rfl,rfl⟩
    | some z =>
    rw [hz] at hm hfm
    obtain ⟨xz,hxz,rfl⟩:=hm
    dsimp only at hfm
    have hzs:=hS z (memJ_mem hz)
    (repeat show _∧_;first|refine yr ?_|refine yt ?_|refine yf ?_|refine yo ?_)
    refine call_same (fn_qbytes z.s (by omega) (by omega)) [] rfl (by (repeat first|exact trivial|refine ent1 ?_)) trivial (fun _ _=>trivial) ?_
    intro y hs hH
    rcases hu:unhex z.s with _|_|⟨b0,D0⟩
    ·rw [hu] at hH hfm
     obtain ⟨rfl,rfl⟩:=hH
     rw [show fillM k v=none from hfm]
     (repeat show _∧_;first|refine yr ?_|refine yt ?_|refine yf ?_|refine yo ?_)
     exact FinW.of ⟨.a (.c (.bool false)),_,⟨[0,1],⟨rfl,rfl,rfl⟩,by (repeat first|exact trivial|refine ent1 ?_)⟩,rfl,rfl⟩
    ·rw [hu] at hH hfm
     obtain ⟨rfl,rfl⟩:=hH
     rw [show fillM k v=some (N,[]) from hfm]
     (repeat show _∧_;first|refine yr ?_|refine yt ?_|refine yf ?_|refine yo ?_)
     refine finW_frz [0,1] rfl (Nat.zero_lt_one) cx0_m rfl (fun W' ms' α hL hI=>?_)
     refine ⟨.a (.c (.bool true)),[evS ⟨k,t,N,[]⟩ ⟨some ((α 5).add (0+0)),N.length,c,none,0,0⟩],⟨⟨rfl,rfl,rfl⟩,?_⟩,rfl,⟨some ((α 5).add (0+0)),N.length,c,none,0,0⟩,W',ms',hL,⟨SlAt.frz (F:=fun j=>!memB j [0,1]) (hI 5 rfl) rfl hc (show N.length≤9223372036854775807 by omega) (by decide) (by simp) nums_fin (rz_w64 _),SlAt.nul⟩,rfl⟩
     (repeat first|exact trivial|refine ent1 ?_)
    ·rw [hu] at hH hfm
     obtain ⟨c2,hc2,rfl,rfl⟩:=hH
     rw [show fillM k v=some (N,b0::D0) from hfm]
     have hDl:=unhex_len hu
     (repeat show _∧_;first|refine yr ?_|refine yt ?_|refine yf ?_|refine yo ?_)
     refine finW_frz [0,1] rfl (Nat.zero_lt_one) cx0_m rfl (fun W' ms' α hL hI=>?_)
     refine ⟨.a (.c (.bool true)),[evS ⟨k,t,N,b0::D0⟩ ⟨some ((α 5).add (0+0)),N.length,c,some ((α 7).add (0+0)),(b0::D0).length,c2⟩],⟨⟨rfl,rfl,rfl⟩,?_⟩,rfl,⟨some ((α 5).add (0+0)),N.length,c,some ((α 7).add (0+0)),(b0::D0).length,c2⟩,W',ms',hL,⟨SlAt.frz (F:=fun j=>!memB j [0,1]) (hI 5 rfl) rfl hc (show N.length≤9223372036854775807 by omega) (by decide) (by simp) nums_fin (rz_w64 _),SlAt.frz (F:=fun j=>!memB j [0,1]) (hI 7 rfl) rfl hc2 (show (b0::D0).length≤9223372036854775807 by omega) (by decide) (by simp) bytes_finM (rz_w8 _)⟩,rfl⟩
     (repeat first|exact trivial|refine ent1 ?_)
   have e1:decide (((j:Nat):Int)<(l.length:Int))=true:=decide_eq_true (by omega)
   have hdr:(l.map nsB).drop j=nsB (l[j]'hj)::(l.map nsB).drop (j+1):=by rw [List.drop_eq_getElem_cons (by rw [List.length_map]; exact hj),List.getElem_map]
   have hsj:strsF l j=.str (U8 (nsB (l[j]'hj))):=by rw [U8_nsB]; obtain ⟨s,h1,h2⟩:=nthC_str l j hj; rw [List.getElem?_eq_getElem hj] at h2; injection h2 with h2; rw [h2]; exact h1
   generalize (l[j]'hj)=nm at hdr hsj
   (repeat show _∧_;first|refine yr ?_|refine yt ?_|refine yf ?_|refine ya e1 ?_|refine yb e1 ?_|refine yo ?_)
   refine frc_atQ (y:=.str (U8 (nsB nm))) (by exact hsj) ?_
   (repeat show _∧_;first|refine yr ?_|refine yt ?_|refine yf ?_|refine yo ?_)
   refine call_same (fn_qmember hx (nsB nm) 3#8) [0] rfl (by (repeat first|exact trivial|refine ent1 ?_)) (by (repeat first|exact trivial|refine ent1 ?_)) (fun _ _=>trivial) ?_
   rintro y hs ⟨rfl,hm⟩
   rw [hdr] at hnu
   cases hz:memJ v (nsB nm) 3#8 with
   | none =>
    rw [hz] at hm
    obtain rfl:y=_:=hm
    rw [nums_bad hz] at hnu
    rw [show nums v (l.map nsB)=none from hnu] at hfm
    rw [show fillM k v=none from hfm]
    (repeat show _∧_;first|refine yr ?_|refine yt ?_|refine yf ?_|refine yo ?_)
    exact FinW.of ⟨.a (.c (.bool false)),_,⟨[0,1],⟨rfl,rfl,rfl⟩,by (repeat first|exact trivial|refine ent1 ?_)⟩,rfl,rfl⟩
   | some z =>
   rw [hz] at hm
   obtain ⟨xz,hxz,rfl⟩:=hm
   rw [nums_ok hz,Option.map_map] at hnu
   (repeat show _∧_;first|refine yr ?_|refine yt ?_|refine yf ?_|refine yo ?_)
   refine ⟨none,[],[(0,true),(1,true),(2,true),(3,true),(4,true),(5,true),(6,true),(7,false)],[8,9,10,11],by kernel_rfl,?_⟩
   (repeat show _∧_;first|refine yr ?_|refine yt ?_|refine yf ?_|refine yo ?_)
   refine And.intro ⟨hc,by simp only [scale]; omega,by show (N.length+1)*8≤140737488355328; omega⟩ ?_
   intro c1 hc1
   (repeat show _∧_;first|refine yr ?_|refine yt ?_|refine yf ?_|refine yo ?_)
   refine ⟨(j+1,N++[z.n],some c1),[0,1,2,3,4,8],⟨⟨rfl,rfl,rfl⟩,?_⟩,⟨hj,by omega,by rw [List.length_append,hNl]; rfl,by rw [List.length_append]; exact hc1,by rw [hnu]; congr 1; funext l; simp⟩,by dsimp only; omega⟩
   dsimp only
   (repeat first|exact trivial|refine ent1 ?_)
   refine And.intro (show N.length+1=_ by rw [List.length_append]; rfl) ?_
   (repeat first|exact trivial|refine ent1 ?_)
   refine ⟨fun j hj=>eqC_strs l hj,?_⟩
   (repeat first|exact trivial|refine ent1 ?_)
   exact ⟨fun j hj=>eqC_nums (fun j x h=>app_nums rfl (fun j x h=>nums_get h) rfl j x h) j,by (repeat first|exact trivial|refine ent1 ?_)⟩
end Sx
end
section
namespace Sx
open Go.RowKit Sha Vi Js Ev Qj

def ev0:Ev:=⟨0#8,0#64,[],[]⟩
def ec0:EvC:=⟨none,0,0,none,0,0⟩
def EvA (W:World) (ms:List Nat) (o:Ev ⊕ Int) (y:SV) (hs:List (List Seg)):Prop:=match o with
 | .inr c=>c≠0∧∃ W' ms',Later W ms W' ms'∧y=.tup [.agg (evS ev0 ec0),.c (.int .i64 c)]∧hs=[[.past W' ms']]
 | .inl e=>∃ x W' ms',Later W ms W' ms'∧EvAt W' ms' x e∧y=.tup [.agg (evS e x),.c (.int .i64 0)]∧hs=[[.past W' ms']]
theorem MemA.gen {W:World} {ms:List Nat} {d:Nat} {o:Option JT} {y:SV} {hs:List (List Seg)} (h:MemA W ms d o y hs):hs=[[.past W ms]]∧∃ v x b,y=.tup [.agg (jvS v x),.c (.bool b)]∧(b=true→o=some v∧TAt W ms d v x)∧(b=false→o=none):=by
 obtain ⟨h1,h2⟩:=h
 refine ⟨h1,?_⟩
 cases o with
 | none=>exact ⟨_,_,false,h2,fun h=>Bool.noConfusion h,fun _=>rfl⟩
 | some v =>
  obtain ⟨x,hx,hy⟩:=h2
  exact ⟨v,x,true,hy,fun _=>⟨rfl,hx⟩,fun h=>Bool.noConfusion h⟩
def Shrt (n:Nat):Nat→JT→Prop
 | 0,v=>v.s.length≤n
 | d+1,v=>v.s.length≤n∧∀ x∈v.l,Shrt n d x
theorem Shrt.s {n:Nat}:∀ {d:Nat} {v:JT},Shrt n d v→v.s.length≤n
 | 0,_,h=>h
 | _+1,_,h=>h.1
theorem evOf_no {v:JT} (h:hasJ v 3=false∨memJ v timeB 3#8=none∨memJ v nameB 4#8=none∨memJ v dataB 6#8=none):evOf v=.inr 4:=by
 unfold evOf
 rcases h with h|h|h|h
 ·split
  ·rw [if_pos h]
  ·rfl
 ·rw [h]
 ·rw [h]; cases memJ v timeB 3#8 <;> rfl
 ·rw [h]; cases memJ v timeB 3#8 <;> cases memJ v nameB 4#8 <;> rfl
set_option maxRecDepth 20000 in
set_option maxHeartbeats 16000000 in
theorem fn_qevent {d:Nat} {W:World} {ms:List Nat} {v:JT} {x:JC} (hx:TAt W ms (d+2) v x) (hS:Shrt 4194304 2 v):FnR Tryd.prog tds 14 1 [[.past W ms]] [.agg (jvS v x)] (fun _=>True) (EvA W ms (evOf v)):=by
 refine fn_of_bodyW tds_ok follows_ Tryd.func14 rfl (t:=.a (.agg (jvS v x))::anys (Tryd.f14.ntmps-1)) rfl (fun w r0 hr0 _=>?_)
 obtain ⟨x0,rfl⟩:=len1' hr0
 (repeat show _∧_;first|refine yr ?_|refine yt ?_|refine yf ?_|refine yo ?_)
 refine call_same (fn_qmember hx timeB 3#8) [0] rfl (by (repeat first|exact trivial|refine ent1 ?_)) (by (repeat first|exact trivial|refine ent1 ?_)) (fun _ _=>trivial) ?_
 intro y hs h
 obtain ⟨rfl,v1,x1,b1,rfl,h1,h1'⟩:=h.gen
 clear h
 (repeat show _∧_;first|refine yr ?_|refine yt ?_|refine yf ?_|refine yo ?_)
 refine call_same (fn_qmember hx nameB 4#8) [0] rfl (by (repeat first|exact trivial|refine ent1 ?_)) (by (repeat first|exact trivial|refine ent1 ?_)) (fun _ _=>trivial) ?_
 intro y hs h
 obtain ⟨rfl,v2,x2,b2,rfl,h2,h2'⟩:=h.gen
 clear h
 (repeat show _∧_;first|refine yr ?_|refine yt ?_|refine yf ?_|refine yo ?_)
 refine call_same (fn_qmember hx dataB 6#8) [0] rfl (by (repeat first|exact trivial|refine ent1 ?_)) (by (repeat first|exact trivial|refine ent1 ?_)) (fun _ _=>trivial) ?_
 intro y hs h
 obtain ⟨rfl,v3,x3,b3,rfl,h3,h3'⟩:=h.gen
 clear h
 (repeat show _∧_;first|refine yr ?_|refine yt ?_|refine yf ?_|refine yo ?_)
 refine call_same (fn_qhas hx 3) [0] rfl (by (repeat first|exact trivial|refine ent1 ?_)) (by (repeat first|exact trivial|refine ent1 ?_)) (fun _ _=>trivial) ?_
 rintro y hs ⟨rfl,rfl⟩
 cases hh:hasJ v 3
 ·rw [evOf_no (.inl hh)]
  (repeat show _∧_;first|refine yr ?_|refine yt ?_|refine yf ?_|refine yo ?_)
  (repeat show _∧_;first|refine yr ?_|refine yt ?_|refine yf ?_|refine yo ?_)
  exact FinW.of ⟨.tup [.agg (evS ev0 ec0),.c (.int .i64 4)],_,⟨[0],⟨rfl,rfl,rfl⟩,by (repeat first|exact trivial|refine ent1 ?_)⟩,by decide,W,ms,Later.refl _ _,rfl,rfl⟩
 cases b1
 ·rw [evOf_no (.inr (.inl (h1' rfl)))]
  (repeat show _∧_;first|refine yr ?_|refine yt ?_|refine yf ?_|refine yo ?_)
  (repeat show _∧_;first|refine yr ?_|refine yt ?_|refine yf ?_|refine yo ?_)
  exact FinW.of ⟨.tup [.agg (evS ev0 ec0),.c (.int .i64 4)],_,⟨[0],⟨rfl,rfl,rfl⟩,by (repeat first|exact trivial|refine ent1 ?_)⟩,by decide,W,ms,Later.refl _ _,rfl,rfl⟩
 cases b2
 ·rw [evOf_no (.inr (.inr (.inl (h2' rfl))))]
  (repeat show _∧_;first|refine yr ?_|refine yt ?_|refine yf ?_|refine yo ?_)
  (repeat show _∧_;first|refine yr ?_|refine yt ?_|refine yf ?_|refine yo ?_)
  exact FinW.of ⟨.tup [.agg (evS ev0 ec0),.c (.int .i64 4)],_,⟨[0],⟨rfl,rfl,rfl⟩,by (repeat first|exact trivial|refine ent1 ?_)⟩,by decide,W,ms,Later.refl _ _,rfl,rfl⟩
 cases b3
 ·rw [evOf_no (.inr (.inr (.inr (h3' rfl))))]
  (repeat show _∧_;first|refine yr ?_|refine yt ?_|refine yf ?_|refine yo ?_)
  (repeat show _∧_;first|refine yr ?_|refine yt ?_|refine yf ?_|refine yo ?_)
  exact FinW.of ⟨.tup [.agg (evS ev0 ec0),.c (.int .i64 4)],_,⟨[0],⟨rfl,rfl,rfl⟩,by (repeat first|exact trivial|refine ent1 ?_)⟩,by decide,W,ms,Later.refl _ _,rfl,rfl⟩
 obtain ⟨m1,t1⟩:=h1 rfl
 obtain ⟨m2,t2⟩:=h2 rfl
 obtain ⟨m3,t3⟩:=h3 rfl
 have hE:evOf v=match namedM v2.s with
   | none=>.inr 5
   | some k=>match fillM k v3 with
    | none=>.inr 4
    | some (N,D)=>if checkM ⟨k,v1.n,N,D⟩=0 then .inl ⟨k,v1.n,N,D⟩ else .inr (checkM ⟨k,v1.n,N,D⟩):=by
  unfold evOf
  rw [m1,m2,m3]
  dsimp only
  rw [hh,if_neg (by decide)]
  rfl
 (repeat show _∧_;first|refine yr ?_|refine yt ?_|refine yf ?_|refine yo ?_)
 (repeat show _∧_;first|refine yr ?_|refine yt ?_|refine yf ?_|refine yo ?_)
 refine call_same (fn_enamed v2.s) [] rfl (by (repeat first|exact trivial|refine ent1 ?_)) trivial (fun _ _=>trivial) ?_
 rintro y hs ⟨rfl,rfl⟩
 cases hn:namedM v2.s with
 | none =>
  rw [hn] at hE
  rw [hE]
  (repeat show _∧_;first|refine yr ?_|refine yt ?_|refine yf ?_|refine yo ?_)
  (repeat show _∧_;first|refine yr ?_|refine yt ?_|refine yf ?_|refine yo ?_)
  exact FinW.of ⟨.tup [.agg (evS ev0 ec0),.c (.int .i64 5)],_,⟨[0],⟨rfl,rfl,rfl⟩,by (repeat first|exact trivial|refine ent1 ?_)⟩,by decide,W,ms,Later.refl _ _,rfl,rfl⟩
 | some k =>
 rw [hn] at hE
 dsimp only at hE
 have q1:(!(some k:Option (BitVec 8)).isSome)=false:=rfl
 (repeat show _∧_;first|refine yr ?_|refine yt ?_|refine yf ?_|refine ya q1 ?_|refine yb q1 ?_|refine yo ?_)
 (repeat show _∧_;first|refine yr ?_|refine yt ?_|refine yf ?_|refine ya q1 ?_|refine yb q1 ?_|refine yo ?_)
 have hv3:v3∈v.l:=memJ_mem m3
 cases hF:fillM k v3 with
 | none =>
  rw [hF] at hE
  rw [hE]
  refine call_past (fn_qfill t3 (fun y hy=>((hS.2 v3 hv3).2 y hy).s) k v1.n) 0 [6] rfl rfl (by (repeat first|exact trivial|refine ent1 ?_)) (by (repeat first|exact trivial|refine ent1 ?_)) (fun _ _=>trivial) (fun x hs hr=>?_) ?_
  ·rw [hF] at hr
   obtain ⟨_,rfl⟩:=hr
   exact ⟨W,ms,rfl,Later.refl _ _⟩
  intro y hs hr
  rw [hF] at hr
  obtain ⟨rfl,rfl⟩:=hr
  (repeat show _∧_;first|refine yr ?_|refine yt ?_|refine yf ?_|refine yo ?_)
  (repeat show _∧_;first|refine yr ?_|refine yt ?_|refine yf ?_|refine yo ?_)
  exact FinW.of ⟨.tup [.agg (evS ev0 ec0),.c (.int .i64 4)],_,⟨[0],⟨rfl,rfl,rfl⟩,by (repeat first|exact trivial|refine ent1 ?_)⟩,by decide,W,ms,Later.refl _ _,rfl,rfl⟩
 | some ND =>
 obtain ⟨N,D⟩:=ND
 rw [hF] at hE
 dsimp only at hE
 refine call_past (fn_qfill t3 (fun y hy=>((hS.2 v3 hv3).2 y hy).s) k v1.n) 0 [6] rfl rfl (by (repeat first|exact trivial|refine ent1 ?_)) (by (repeat first|exact trivial|refine ent1 ?_)) (fun _ _=>trivial) (fun x hs hr=>?_) ?_
 ·rw [hF] at hr
  obtain ⟨_,x',W',ms',hL,_,rfl⟩:=hr
  exact ⟨W',ms',rfl,hL⟩
 intro y hs hr
 rw [hF] at hr
 obtain ⟨rfl,x',W',ms',hL,hev,rfl⟩:=hr
 (repeat show _∧_;first|refine yr ?_|refine yt ?_|refine yf ?_|refine yo ?_)
 (repeat show _∧_;first|refine yr ?_|refine yt ?_|refine yf ?_|refine yo ?_)
 refine call_same (fn_echeck hev) [0] rfl (by (repeat first|exact trivial|refine ent1 ?_)) (by (repeat first|exact trivial|refine ent1 ?_)) (fun _ _=>trivial) ?_
 rintro y hs ⟨rfl,rfl⟩
 by_cases hc:checkM ⟨k,v1.n,N,D⟩=0
 ·rw [if_pos hc] at hE
  rw [hE,hc]
  (repeat show _∧_;first|refine yr ?_|refine yt ?_|refine yf ?_|refine yo ?_)
  exact FinW.of ⟨.tup [.agg (evS ⟨k,v1.n,N,D⟩ x'),.c (.int .i64 0)],_,⟨[0],⟨rfl,rfl,rfl⟩,by (repeat first|exact trivial|refine ent1 ?_)⟩,x',W',ms',hL,hev,rfl,rfl⟩
 ·rw [if_neg hc] at hE
  rw [hE]
  have f1:decide (checkM ⟨k,v1.n,N,D⟩≠0)=true:=decide_eq_true hc
  (repeat show _∧_;first|refine yr ?_|refine yt ?_|refine yf ?_|refine ya f1 ?_|refine yb f1 ?_|refine yo ?_)
  exact FinW.of ⟨.tup [.agg (evS ev0 ec0),.c (.int .i64 (checkM ⟨k,v1.n,N,D⟩))],_,⟨[0],⟨rfl,rfl,rfl⟩,by (repeat first|exact trivial|refine ent1 ?_)⟩,hc,W',ms',hL,rfl,rfl⟩
end Sx
end
section
namespace Sx
open Go.RowKit Sha Vi Js Ev Qj

theorem jv_raw (v:JT) (x:JC):∀ y∈flat (jvS v x),y.raw=y:=fun y hy=>by
 rw [flat_jvS] at hy
 simp only [List.mem_cons,List.not_mem_nil,or_false] at hy
 rcases hy with rfl|rfl|rfl|rfl|rfl <;> rfl
theorem eqJ_app {q:List Nat} {cs D:List SC} (hr:∀ x∈cs,x.raw=x) {f:Nat→SC} (hf:∀ j,j<(cs++D).length→f j=nthC (cs++D) j) (hD:∀ i,i<D.length→eqC q (nthC D i) (nthC D i) True) (j:Nat):eqC q (f j) (nthC (cs++D) j) True:=by
 rcases Nat.lt_or_ge j (cs++D).length with hj|hj
 ·rw [hf j hj]
  rcases Nat.lt_or_ge j cs.length with h|h
  ·rw [nthJ_l h]; exact eqJ_raw (hr _ (nthJ_mem h))
  ·rw [nthJ_r h]; exact hD _ (by rw [List.length_append] at hj; omega)
 ·rw [nthJ_out hj]; trivial
set_option maxRecDepth 20000 in
set_option maxHeartbeats 8000000 in
theorem fn_qadd0 (v:JT) (x:JC) (s:Bs):Fn Tryd.prog tds 31 [vo0] [.c (.p 0 0 0),.c (.str (U8 s)),.agg (jvS v x)] (fun _=>True)
  (fun y hs=>∃ c e,1≤c∧1≤e∧y=.tup []∧hs=[vo1 1 1 c 2 1 e,[.row (scale c (4+1)) (nthC (flat (jvS v x)))],[.row (scale e (0+1)) (nthC (nmJ [s]))]]):=by
 refine fn_of_body tds_ok follows_ Tryd.func31 rfl (t:=.a (.c (.p 0 0 0))::.a (.c (.str (U8 s)))::.a (.agg (jvS v x))::anys (Tryd.f31.ntmps-3)) rfl (fun w r0 hr0 _=>?_)
 obtain ⟨x0,rfl⟩:∃ x0,r0=[x0]:=by
  match r0,hr0 with
  | [y0],_=>exact ⟨_,rfl⟩
 (repeat show _∧_;first|refine yr ?_|refine yt ?_|refine yf ?_|refine yo ?_)
 refine ⟨some [0,1],[1001,1000,1001,1002,1003,1004,1005,1006,1009,1010,1011,1012,1013,3,7,14,3,8,14,2014,2015,0,2008,2015,0,2007,2008,2015,0],[(0,true),(1,true),(2,true),(3,true),(4,true),(5,true),(6,true),(7,false),(8,false),(9,true),(10,true),(11,true),(12,true),(13,true),(14,false),(15,false)],[16,17,18,19,20,21],by kernel_rfl,?_⟩
 (repeat show _∧_;first|refine yr ?_|refine yt ?_|refine yf ?_|refine yo ?_)
 refine And.intro (And.intro ?_ ?_) ?_
 ·(repeat show _∧_;first|refine yr ?_|refine yt ?_|refine yf ?_|refine yo ?_)
  intro e2 he2
  refine And.intro rfl ?_
  refine And.intro (show 0+5≤5 by decide) ?_
  (repeat show _∧_;first|refine yr ?_|refine yt ?_|refine yf ?_|refine yo ?_)
  intro c2 hc2
  (repeat show _∧_;first|refine yr ?_|refine yt ?_|refine yf ?_|refine yo ?_)
  refine ⟨.tup [],_,⟨[0,5,3],⟨rfl,rfl,rfl⟩,?_⟩,c2,e2,hc2,he2,rfl,rfl⟩
  (repeat first|exact trivial|refine ent1 ?_)
  refine And.intro (fun j hj=>eqJ_cs (jv_raw v x) (newJ_cs (m:=1) (sz:=4) rfl fun j hj=>updJ_new hj) j) ?_
  (repeat first|exact trivial|refine ent1 ?_)
  exact ⟨fun j hj=>eqJ_cs (nmL_raw _) (fun j hj=>nmL_newrow j hj) j,by (repeat first|exact trivial|refine ent1 ?_)⟩
 ·refine And.intro rfl ?_
  refine And.intro (show 0+5≤5 by decide) ?_
  (repeat show _∧_;first|refine yr ?_|refine yt ?_|refine yf ?_|refine yo ?_)
  intro e2 he2
  (repeat show _∧_;first|refine yr ?_|refine yt ?_|refine yf ?_|refine yo ?_)
  intro c2 hc2
  (repeat show _∧_;first|refine yr ?_|refine yt ?_|refine yf ?_|refine yo ?_)
  refine ⟨.tup [],_,⟨[0,5,4],⟨rfl,rfl,rfl⟩,?_⟩,c2,e2,hc2,he2,rfl,rfl⟩
  (repeat first|exact trivial|refine ent1 ?_)
  refine And.intro (fun j hj=>eqJ_cs (jv_raw v x) (newJ_cs (m:=1) (sz:=4) rfl fun j hj=>updJ_new hj) j) ?_
  (repeat first|exact trivial|refine ent1 ?_)
  exact ⟨fun j hj=>eqJ_cs (nmL_raw _) (fun j hj=>nmL_newrow j hj) j,by (repeat first|exact trivial|refine ent1 ?_)⟩
 ·refine And.intro rfl ?_
  refine And.intro (show 0+5≤5 by decide) ?_
  (repeat show _∧_;first|refine yr ?_|refine yt ?_|refine yf ?_|refine yo ?_)
  intro e2 he2
  (repeat show _∧_;first|refine yr ?_|refine yt ?_|refine yf ?_|refine yo ?_)
  intro c2 hc2
  (repeat show _∧_;first|refine yr ?_|refine yt ?_|refine yf ?_|refine yo ?_)
  refine ⟨.tup [],_,⟨[0,5,4],⟨rfl,rfl,rfl⟩,?_⟩,c2,e2,hc2,he2,rfl,rfl⟩
  (repeat first|exact trivial|refine ent1 ?_)
  refine And.intro (fun j hj=>eqJ_cs (jv_raw v x) (newJ_cs (m:=1) (sz:=4) rfl fun j hj=>updJ_new hj) j) ?_
  (repeat first|exact trivial|refine ent1 ?_)
  exact ⟨fun j hj=>eqJ_cs (nmL_raw _) (fun j hj=>nmL_newrow j hj) j,by (repeat first|exact trivial|refine ent1 ?_)⟩
set_option maxRecDepth 20000 in
set_option maxHeartbeats 8000000 in
theorem fn_qadd1 (cs:List SC) (ns:List Bs) (m c e:Nat) (hr:∀ x∈cs,x.raw=x) (hl:cs.length=m*5) (hn:ns.length=m) (hc:m≤c) (he:m≤e) (hm:m≤1000000) (v:JT) (x:JC) (s:Bs):Fn Tryd.prog tds 31 [vo1 1 m c 2 m e,[.row (scale c (4+1)) (nthC cs)],[.row (scale e (0+1)) (nthC (nmJ ns))]] [.c (.p 0 0 0),.c (.str (U8 s)),.agg (jvS v x)] (fun _=>True)
  (fun y hs=>∃ c' e',m+1≤c'∧m+1≤e'∧y=.tup []∧hs=[vo1 3 (m+1) c' 4 (m+1) e',[],[],[.row (scale c' (4+1)) (nthC (cs++(flat (jvS v x))))],[.row (scale e' (0+1)) (nthC (nmJ (ns++[s])))]]):=by
 refine fn_of_body tds_ok follows_ Tryd.func31 rfl (t:=.a (.c (.p 0 0 0))::.a (.c (.str (U8 s)))::.a (.agg (jvS v x))::anys (Tryd.f31.ntmps-3)) rfl (fun w r0 hr0 _=>?_)
 obtain ⟨x0,x1,x2,rfl⟩:∃ x0 x1 x2,r0=[x0,x1,x2]:=by
  match r0,hr0 with
  | [y0,y1,y2],_=>exact ⟨_,_,_,rfl⟩
 (repeat show _∧_;first|refine yr ?_|refine yt ?_|refine yf ?_|refine yo ?_)
 refine ⟨some [0,3],[1001,1000,1001,1002,1003,1004,1005,1006,1009,1010,1011,1012,1013,3,7,14,3,8,14,2014,2015,0,2008,2015,0,2007,2008,2015,0],[(0,true),(1,true),(2,true),(3,true),(4,true),(5,true),(6,true),(7,false),(8,false),(9,true),(10,true),(11,true),(12,true),(13,true),(14,false),(15,false)],[16,17,18,19,20,21],by kernel_rfl,?_⟩
 (repeat show _∧_;first|refine yr ?_|refine yt ?_|refine yf ?_|refine yo ?_)
 refine And.intro (And.intro ?_ ?_) ?_
 ·refine And.intro (show 0+scale 1 (0+1)≤1 by decide) ?_
  refine And.intro ⟨he,by rw [sc1]; omega,show (m+1)*16≤140737488355328 by omega⟩ ?_
  intro e2 he2
  refine And.intro rfl ?_
  refine And.intro (show 0+5≤5 by decide) ?_
  refine And.intro (show 0+scale 1 (4+1)≤5 by decide) ?_
  refine And.intro ⟨hc,by rw [sc5]; omega,show (m+1)*80≤140737488355328 by omega⟩ ?_
  intro c2 hc2
  (repeat show _∧_;first|refine yr ?_|refine yt ?_|refine yf ?_|refine yo ?_)
  refine ⟨.tup [],_,⟨[0,1,2,7,5],⟨rfl,rfl,rfl⟩,?_⟩,c2,e2,hc2,he2,rfl,rfl⟩
  (repeat first|exact trivial|refine ent1 ?_)
  refine And.intro (fun j hj=>eqJ_cs (fun y hy=>(List.mem_append.1 hy).elim (hr y) ((jv_raw v x) y)) (appJ_cs (m:=1) (sz:=4) (by rw [hl]) (fun _ _=>rfl) rfl fun j hj=>updJ_new hj) j) ?_
  (repeat first|exact trivial|refine ent1 ?_)
  exact ⟨fun j hj=>eqJ_cs (nmL_raw _) (fun j hj=>nmL_approw hn j hj) j,by (repeat first|exact trivial|refine ent1 ?_)⟩
 ·refine And.intro rfl ?_
  refine And.intro (show 0+5≤5 by decide) ?_
  refine And.intro (show 0+scale 1 (0+1)≤1 by decide) ?_
  refine And.intro ⟨he,by rw [sc1]; omega,show (m+1)*16≤140737488355328 by omega⟩ ?_
  intro e2 he2
  refine And.intro (show 0+scale 1 (4+1)≤5 by decide) ?_
  refine And.intro ⟨hc,by rw [sc5]; omega,show (m+1)*80≤140737488355328 by omega⟩ ?_
  intro c2 hc2
  (repeat show _∧_;first|refine yr ?_|refine yt ?_|refine yf ?_|refine yo ?_)
  refine ⟨.tup [],_,⟨[0,1,2,7,6],⟨rfl,rfl,rfl⟩,?_⟩,c2,e2,hc2,he2,rfl,rfl⟩
  (repeat first|exact trivial|refine ent1 ?_)
  refine And.intro (fun j hj=>eqJ_cs (fun y hy=>(List.mem_append.1 hy).elim (hr y) ((jv_raw v x) y)) (appJ_cs (m:=1) (sz:=4) (by rw [hl]) (fun _ _=>rfl) rfl fun j hj=>updJ_new hj) j) ?_
  (repeat first|exact trivial|refine ent1 ?_)
  exact ⟨fun j hj=>eqJ_cs (nmL_raw _) (fun j hj=>nmL_approw hn j hj) j,by (repeat first|exact trivial|refine ent1 ?_)⟩
 ·refine And.intro rfl ?_
  refine And.intro (show 0+5≤5 by decide) ?_
  refine And.intro (show 0+scale 1 (0+1)≤1 by decide) ?_
  refine And.intro ⟨he,by rw [sc1]; omega,show (m+1)*16≤140737488355328 by omega⟩ ?_
  intro e2 he2
  refine And.intro (show 0+scale 1 (4+1)≤5 by decide) ?_
  refine And.intro ⟨hc,by rw [sc5]; omega,show (m+1)*80≤140737488355328 by omega⟩ ?_
  intro c2 hc2
  (repeat show _∧_;first|refine yr ?_|refine yt ?_|refine yf ?_|refine yo ?_)
  refine ⟨.tup [],_,⟨[0,1,2,7,6],⟨rfl,rfl,rfl⟩,?_⟩,c2,e2,hc2,he2,rfl,rfl⟩
  (repeat first|exact trivial|refine ent1 ?_)
  refine And.intro (fun j hj=>eqJ_cs (fun y hy=>(List.mem_append.1 hy).elim (hr y) ((jv_raw v x) y)) (appJ_cs (m:=1) (sz:=4) (by rw [hl]) (fun _ _=>rfl) rfl fun j hj=>updJ_new hj) j) ?_
  (repeat first|exact trivial|refine ent1 ?_)
  exact ⟨fun j hj=>eqJ_cs (nmL_raw _) (fun j hj=>nmL_approw hn j hj) j,by (repeat first|exact trivial|refine ent1 ?_)⟩
set_option maxRecDepth 20000 in
set_option maxHeartbeats 8000000 in
theorem fn_qadd2 (cs:List SC) (ns:List Bs) (m c e:Nat) (hr:∀ x∈cs,x.raw=x) (hl:cs.length=m*5) (hn:ns.length=m) (hc:m≤c) (he:m≤e) (hm:m≤1000000) (p pc r rc:Nat) (X Y:Nat→SC) (a1 a2:Nat) (hX:∀ q j,eqC q (X j) (X j) True) (hY:∀ q j,eqC q (Y j) (Y j) True) (s:Bs):Fn Tryd.prog tds 31 [vo1 1 m c 2 m e,[.row (scale c (4+1)) (nthC cs)],[.row (scale e (0+1)) (nthC (nmJ ns))],[.row a1 X],[.row a2 Y]] [.c (.p 0 0 0),.c (.str (U8 s)),.agg ([.one (.w8 6#8),.one (.w64 0#64),.one (.str []),.one (.sl 3 0 0 p pc),.one (.sl 4 0 0 r rc)])] (fun _=>True)
  (fun y hs=>∃ c' e',m+1≤c'∧m+1≤e'∧y=.tup []∧hs=[vo1 5 (m+1) c' 6 (m+1) e',[],[],[.row a1 X],[.row a2 Y],[.row (scale c' (4+1)) (nthC (cs++[.w8 6#8,.w64 0#64,.str [],.sl 3 0 0 p pc,.sl 4 0 0 r rc]))],[.row (scale e' (0+1)) (nthC (nmJ (ns++[s])))]]):=by
 refine fn_of_body tds_ok follows_ Tryd.func31 rfl (t:=.a (.c (.p 0 0 0))::.a (.c (.str (U8 s)))::.a (.agg ([.one (.w8 6#8),.one (.w64 0#64),.one (.str []),.one (.sl 3 0 0 p pc),.one (.sl 4 0 0 r rc)]))::anys (Tryd.f31.ntmps-3)) rfl (fun w r0 hr0 _=>?_)
 obtain ⟨x0,x1,x2,x3,x4,rfl⟩:∃ x0 x1 x2 x3 x4,r0=[x0,x1,x2,x3,x4]:=by
  match r0,hr0 with
  | [y0,y1,y2,y3,y4],_=>exact ⟨_,_,_,_,_,rfl⟩
 (repeat show _∧_;first|refine yr ?_|refine yt ?_|refine yf ?_|refine yo ?_)
 refine ⟨some [0,5],[1001,1000,1001,1002,1003,1004,1005,1006,1009,1010,1011,1012,1013,3,7,14,3,8,14,2014,2015,0,2008,2015,0,2007,2008,2015,0],[(0,true),(1,true),(2,true),(3,true),(4,true),(5,true),(6,true),(7,false),(8,false),(9,true),(10,true),(11,true),(12,true),(13,true),(14,false),(15,false)],[16,17,18,19,20,21],by kernel_rfl,?_⟩
 (repeat show _∧_;first|refine yr ?_|refine yt ?_|refine yf ?_|refine yo ?_)
 refine And.intro (And.intro ?_ ?_) ?_
 ·refine And.intro (show 0+scale 1 (0+1)≤1 by decide) ?_
  refine And.intro ⟨he,by rw [sc1]; omega,show (m+1)*16≤140737488355328 by omega⟩ ?_
  intro e2 he2
  refine And.intro rfl ?_
  refine And.intro (show 0+5≤5 by decide) ?_
  refine And.intro (show 0+scale 1 (4+1)≤5 by decide) ?_
  refine And.intro ⟨hc,by rw [sc5]; omega,show (m+1)*80≤140737488355328 by omega⟩ ?_
  intro c2 hc2
  (repeat show _∧_;first|refine yr ?_|refine yt ?_|refine yf ?_|refine yo ?_)
  refine ⟨.tup [],_,⟨[0,1,2,3,4,9,7],⟨rfl,rfl,rfl⟩,?_⟩,c2,e2,hc2,he2,rfl,rfl⟩
  (repeat first|exact trivial|refine ent1 ?_)
  refine And.intro (fun j hj=>hX _ j) ?_
  (repeat first|exact trivial|refine ent1 ?_)
  refine And.intro (fun j hj=>hY _ j) ?_
  (repeat first|exact trivial|refine ent1 ?_)
  refine And.intro (fun j hj=>eqJ_app hr (appJ_cs (new:=[.w8 6#8,.w64 0#64,.str [],.sl 3 0 0 p pc,.sl 4 0 0 r rc]) (m:=1) (sz:=4) (by rw [hl]) (fun _ _=>rfl) rfl fun j hj=>updJ_new hj) (fun i hi=>?_) j) ?_
  ·match i,hi with
   | 0,_=>(repeat first|exact trivial|refine ent1 ?_)
   | 1,_=>(repeat first|exact trivial|refine ent1 ?_)
   | 2,_=>(repeat first|exact trivial|refine ent1 ?_)
   | 3,_=>(repeat first|exact trivial|refine ent1 ?_)
   | 4,_=>(repeat first|exact trivial|refine ent1 ?_)
  (repeat first|exact trivial|refine ent1 ?_)
  exact ⟨fun j hj=>eqJ_cs (nmL_raw _) (fun j hj=>nmL_approw hn j hj) j,by (repeat first|exact trivial|refine ent1 ?_)⟩
 ·refine And.intro rfl ?_
  refine And.intro (show 0+5≤5 by decide) ?_
  refine And.intro (show 0+scale 1 (0+1)≤1 by decide) ?_
  refine And.intro ⟨he,by rw [sc1]; omega,show (m+1)*16≤140737488355328 by omega⟩ ?_
  intro e2 he2
  refine And.intro (show 0+scale 1 (4+1)≤5 by decide) ?_
  refine And.intro ⟨hc,by rw [sc5]; omega,show (m+1)*80≤140737488355328 by omega⟩ ?_
  intro c2 hc2
  (repeat show _∧_;first|refine yr ?_|refine yt ?_|refine yf ?_|refine yo ?_)
  refine ⟨.tup [],_,⟨[0,1,2,3,4,9,8],⟨rfl,rfl,rfl⟩,?_⟩,c2,e2,hc2,he2,rfl,rfl⟩
  (repeat first|exact trivial|refine ent1 ?_)
  refine And.intro (fun j hj=>hX _ j) ?_
  (repeat first|exact trivial|refine ent1 ?_)
  refine And.intro (fun j hj=>hY _ j) ?_
  (repeat first|exact trivial|refine ent1 ?_)
  refine And.intro (fun j hj=>eqJ_app hr (appJ_cs (new:=[.w8 6#8,.w64 0#64,.str [],.sl 3 0 0 p pc,.sl 4 0 0 r rc]) (m:=1) (sz:=4) (by rw [hl]) (fun _ _=>rfl) rfl fun j hj=>updJ_new hj) (fun i hi=>?_) j) ?_
  ·match i,hi with
   | 0,_=>(repeat first|exact trivial|refine ent1 ?_)
   | 1,_=>(repeat first|exact trivial|refine ent1 ?_)
   | 2,_=>(repeat first|exact trivial|refine ent1 ?_)
   | 3,_=>(repeat first|exact trivial|refine ent1 ?_)
   | 4,_=>(repeat first|exact trivial|refine ent1 ?_)
  (repeat first|exact trivial|refine ent1 ?_)
  exact ⟨fun j hj=>eqJ_cs (nmL_raw _) (fun j hj=>nmL_approw hn j hj) j,by (repeat first|exact trivial|refine ent1 ?_)⟩
 ·refine And.intro rfl ?_
  refine And.intro (show 0+5≤5 by decide) ?_
  refine And.intro (show 0+scale 1 (0+1)≤1 by decide) ?_
  refine And.intro ⟨he,by rw [sc1]; omega,show (m+1)*16≤140737488355328 by omega⟩ ?_
  intro e2 he2
  refine And.intro (show 0+scale 1 (4+1)≤5 by decide) ?_
  refine And.intro ⟨hc,by rw [sc5]; omega,show (m+1)*80≤140737488355328 by omega⟩ ?_
  intro c2 hc2
  (repeat show _∧_;first|refine yr ?_|refine yt ?_|refine yf ?_|refine yo ?_)
  refine ⟨.tup [],_,⟨[0,1,2,3,4,9,8],⟨rfl,rfl,rfl⟩,?_⟩,c2,e2,hc2,he2,rfl,rfl⟩
  (repeat first|exact trivial|refine ent1 ?_)
  refine And.intro (fun j hj=>hX _ j) ?_
  (repeat first|exact trivial|refine ent1 ?_)
  refine And.intro (fun j hj=>hY _ j) ?_
  (repeat first|exact trivial|refine ent1 ?_)
  refine And.intro (fun j hj=>eqJ_app hr (appJ_cs (new:=[.w8 6#8,.w64 0#64,.str [],.sl 3 0 0 p pc,.sl 4 0 0 r rc]) (m:=1) (sz:=4) (by rw [hl]) (fun _ _=>rfl) rfl fun j hj=>updJ_new hj) (fun i hi=>?_) j) ?_
  ·match i,hi with
   | 0,_=>(repeat first|exact trivial|refine ent1 ?_)
   | 1,_=>(repeat first|exact trivial|refine ent1 ?_)
   | 2,_=>(repeat first|exact trivial|refine ent1 ?_)
   | 3,_=>(repeat first|exact trivial|refine ent1 ?_)
   | 4,_=>(repeat first|exact trivial|refine ent1 ?_)
  (repeat first|exact trivial|refine ent1 ?_)
  exact ⟨fun j hj=>eqJ_cs (nmL_raw _) (fun j hj=>nmL_approw hn j hj) j,by (repeat first|exact trivial|refine ent1 ?_)⟩
set_option maxRecDepth 20000 in
set_option maxHeartbeats 8000000 in
theorem fn_qadd3 (cs:List SC) (ns:List Bs) (m c e:Nat) (hr:∀ x∈cs,x.raw=x) (hl:cs.length=m*5) (hn:ns.length=m) (hc:m≤c) (he:m≤e) (hm:m≤1000000) (p pc:Nat) (X:Nat→SC) (a1:Nat) (hX:∀ q j,eqC q (X j) (X j) True) (s:Bs):Fn Tryd.prog tds 31 [vo1 1 m c 2 m e,[.row (scale c (4+1)) (nthC cs)],[.row (scale e (0+1)) (nthC (nmJ ns))],[.row a1 X]] [.c (.p 0 0 0),.c (.str (U8 s)),.agg ([.one (.w8 5#8),.one (.w64 0#64),.one (.str []),.one (.sl 3 0 0 p pc),.one (.slc none 0 0)])] (fun _=>True)
  (fun y hs=>∃ c' e',m+1≤c'∧m+1≤e'∧y=.tup []∧hs=[vo1 4 (m+1) c' 5 (m+1) e',[],[],[.row a1 X],[.row (scale c' (4+1)) (nthC (cs++[.w8 5#8,.w64 0#64,.str [],.sl 3 0 0 p pc,.slc none 0 0]))],[.row (scale e' (0+1)) (nthC (nmJ (ns++[s])))]]):=by
 refine fn_of_body tds_ok follows_ Tryd.func31 rfl (t:=.a (.c (.p 0 0 0))::.a (.c (.str (U8 s)))::.a (.agg ([.one (.w8 5#8),.one (.w64 0#64),.one (.str []),.one (.sl 3 0 0 p pc),.one (.slc none 0 0)]))::anys (Tryd.f31.ntmps-3)) rfl (fun w r0 hr0 _=>?_)
 obtain ⟨x0,x1,x2,x3,rfl⟩:∃ x0 x1 x2 x3,r0=[x0,x1,x2,x3]:=by
  match r0,hr0 with
  | [y0,y1,y2,y3],_=>exact ⟨_,_,_,_,rfl⟩
 (repeat show _∧_;first|refine yr ?_|refine yt ?_|refine yf ?_|refine yo ?_)
 refine ⟨some [0,4],[1001,1000,1001,1002,1003,1004,1005,1006,1009,1010,1011,1012,1013,3,7,14,3,8,14,2014,2015,0,2008,2015,0,2007,2008,2015,0],[(0,true),(1,true),(2,true),(3,true),(4,true),(5,true),(6,true),(7,false),(8,false),(9,true),(10,true),(11,true),(12,true),(13,true),(14,false),(15,false)],[16,17,18,19,20,21],by kernel_rfl,?_⟩
 (repeat show _∧_;first|refine yr ?_|refine yt ?_|refine yf ?_|refine yo ?_)
 refine And.intro (And.intro ?_ ?_) ?_
 ·refine And.intro (show 0+scale 1 (0+1)≤1 by decide) ?_
  refine And.intro ⟨he,by rw [sc1]; omega,show (m+1)*16≤140737488355328 by omega⟩ ?_
  intro e2 he2
  refine And.intro rfl ?_
  refine And.intro (show 0+5≤5 by decide) ?_
  refine And.intro (show 0+scale 1 (4+1)≤5 by decide) ?_
  refine And.intro ⟨hc,by rw [sc5]; omega,show (m+1)*80≤140737488355328 by omega⟩ ?_
  intro c2 hc2
  (repeat show _∧_;first|refine yr ?_|refine yt ?_|refine yf ?_|refine yo ?_)
  refine ⟨.tup [],_,⟨[0,1,2,3,8,6],⟨rfl,rfl,rfl⟩,?_⟩,c2,e2,hc2,he2,rfl,rfl⟩
  (repeat first|exact trivial|refine ent1 ?_)
  refine And.intro (fun j hj=>hX _ j) ?_
  (repeat first|exact trivial|refine ent1 ?_)
  refine And.intro (fun j hj=>eqJ_app hr (appJ_cs (new:=[.w8 5#8,.w64 0#64,.str [],.sl 3 0 0 p pc,.slc none 0 0]) (m:=1) (sz:=4) (by rw [hl]) (fun _ _=>rfl) rfl fun j hj=>updJ_new hj) (fun i hi=>?_) j) ?_
  ·match i,hi with
   | 0,_=>(repeat first|exact trivial|refine ent1 ?_)
   | 1,_=>(repeat first|exact trivial|refine ent1 ?_)
   | 2,_=>(repeat first|exact trivial|refine ent1 ?_)
   | 3,_=>(repeat first|exact trivial|refine ent1 ?_)
   | 4,_=>(repeat first|exact trivial|refine ent1 ?_)
  (repeat first|exact trivial|refine ent1 ?_)
  exact ⟨fun j hj=>eqJ_cs (nmL_raw _) (fun j hj=>nmL_approw hn j hj) j,by (repeat first|exact trivial|refine ent1 ?_)⟩
 ·refine And.intro rfl ?_
  refine And.intro (show 0+5≤5 by decide) ?_
  refine And.intro (show 0+scale 1 (0+1)≤1 by decide) ?_
  refine And.intro ⟨he,by rw [sc1]; omega,show (m+1)*16≤140737488355328 by omega⟩ ?_
  intro e2 he2
  refine And.intro (show 0+scale 1 (4+1)≤5 by decide) ?_
  refine And.intro ⟨hc,by rw [sc5]; omega,show (m+1)*80≤140737488355328 by omega⟩ ?_
  intro c2 hc2
  (repeat show _∧_;first|refine yr ?_|refine yt ?_|refine yf ?_|refine yo ?_)
  refine ⟨.tup [],_,⟨[0,1,2,3,8,7],⟨rfl,rfl,rfl⟩,?_⟩,c2,e2,hc2,he2,rfl,rfl⟩
  (repeat first|exact trivial|refine ent1 ?_)
  refine And.intro (fun j hj=>hX _ j) ?_
  (repeat first|exact trivial|refine ent1 ?_)
  refine And.intro (fun j hj=>eqJ_app hr (appJ_cs (new:=[.w8 5#8,.w64 0#64,.str [],.sl 3 0 0 p pc,.slc none 0 0]) (m:=1) (sz:=4) (by rw [hl]) (fun _ _=>rfl) rfl fun j hj=>updJ_new hj) (fun i hi=>?_) j) ?_
  ·match i,hi with
   | 0,_=>(repeat first|exact trivial|refine ent1 ?_)
   | 1,_=>(repeat first|exact trivial|refine ent1 ?_)
   | 2,_=>(repeat first|exact trivial|refine ent1 ?_)
   | 3,_=>(repeat first|exact trivial|refine ent1 ?_)
   | 4,_=>(repeat first|exact trivial|refine ent1 ?_)
  (repeat first|exact trivial|refine ent1 ?_)
  exact ⟨fun j hj=>eqJ_cs (nmL_raw _) (fun j hj=>nmL_approw hn j hj) j,by (repeat first|exact trivial|refine ent1 ?_)⟩
 ·refine And.intro rfl ?_
  refine And.intro (show 0+5≤5 by decide) ?_
  refine And.intro (show 0+scale 1 (0+1)≤1 by decide) ?_
  refine And.intro ⟨he,by rw [sc1]; omega,show (m+1)*16≤140737488355328 by omega⟩ ?_
  intro e2 he2
  refine And.intro (show 0+scale 1 (4+1)≤5 by decide) ?_
  refine And.intro ⟨hc,by rw [sc5]; omega,show (m+1)*80≤140737488355328 by omega⟩ ?_
  intro c2 hc2
  (repeat show _∧_;first|refine yr ?_|refine yt ?_|refine yf ?_|refine yo ?_)
  refine ⟨.tup [],_,⟨[0,1,2,3,8,7],⟨rfl,rfl,rfl⟩,?_⟩,c2,e2,hc2,he2,rfl,rfl⟩
  (repeat first|exact trivial|refine ent1 ?_)
  refine And.intro (fun j hj=>hX _ j) ?_
  (repeat first|exact trivial|refine ent1 ?_)
  refine And.intro (fun j hj=>eqJ_app hr (appJ_cs (new:=[.w8 5#8,.w64 0#64,.str [],.sl 3 0 0 p pc,.slc none 0 0]) (m:=1) (sz:=4) (by rw [hl]) (fun _ _=>rfl) rfl fun j hj=>updJ_new hj) (fun i hi=>?_) j) ?_
  ·match i,hi with
   | 0,_=>(repeat first|exact trivial|refine ent1 ?_)
   | 1,_=>(repeat first|exact trivial|refine ent1 ?_)
   | 2,_=>(repeat first|exact trivial|refine ent1 ?_)
   | 3,_=>(repeat first|exact trivial|refine ent1 ?_)
   | 4,_=>(repeat first|exact trivial|refine ent1 ?_)
  (repeat first|exact trivial|refine ent1 ?_)
  exact ⟨fun j hj=>eqJ_cs (nmL_raw _) (fun j hj=>nmL_approw hn j hj) j,by (repeat first|exact trivial|refine ent1 ?_)⟩
end Sx
end
section
namespace Qj
open Sha Js Ev
theorem names_data:∀ k:BitVec 8,evOk k=true→evNames k=[]→evData k=false:=by decide +kernel
theorem names_le9:∀ k:BitVec 8,(evNames k).length≤9:=by decide +kernel
theorem check0 {e:Ev} (h:checkM e=0):evOk e.k=true∧e.N.length=(evNames e.k).length∧e.D.length≤20∧(evData e.k=false→e.D=[]):=by
 unfold checkM at h
 split at h
 ·cases h
 rename_i h1
 split at h
 ·cases h
 split at h
 ·cases h
 rename_i h3
 split at h
 ·cases h
 rename_i h4
 split at h
 ·cases h
 rename_i h5
 refine ⟨by simpa using h1,by simpa using h3,by omega,fun hd=>?_⟩
 refine List.eq_nil_of_length_eq_zero ?_
 rcases Nat.eq_zero_or_pos e.D.length with h|h
 ·exact h
 ·exact absurd ⟨h,hd⟩ h5
end Qj
namespace Sx
open Go.RowKit Sha Vi Js Ev Qj

def ValueA (W:World) (ms:List Nat) (e:Ev) (y:SV) (hs:List (List Seg)):Prop :=
 (checkM e≠0∧y=.tup [.agg (jvS jt0 jc0),.c (.int .i64 (checkM e))]∧hs=[[.past W ms]]) ∨
 (checkM e=0∧∃ x W' ms',Later W ms W' ms'∧TAt W' ms' 2 (evJ e) x∧y=.tup [.agg (jvS (evJ e) x),.c (.int .i64 0)]∧hs=[[.past W' ms']])
theorem RowJ.frz2 {W:World} {ms:List Nat} {A:Addr} {F:Nat→Bool} {α:Nat→Addr} {n c d:Nat} {cs:List SC} {l:List JT} {g:Nat→SC} (k:RowJ W ms d cs l) (hg:∀ j,j<cs.length→((g j).rz F α).raw=nthC cs j)
  (h:flat [.row (scale c (4+1)) g]≠[]→ImAt W ms A (((flat [.row (scale c (4+1)) g]).map (SC.rz F α)).map SC.raw)∧(marksOk=false→Unm W ms A)) (hmk:marksOk=false) (hn:l.length=n) (hc:n≤c) (hcap:n≤9223372036854775807) :
  l.length=n∧n≤c∧n≤9223372036854775807∧(some (A.add (0+0))=none→c=0)∧∀ B,some (A.add (0+0))=some B→n≠0→Unm W ms B∧∀ j e,l[j]?=some e→∃ y,ImAt W ms (B.add (j*5)) (flat (jvS e y))∧TAt W ms d e y:=by
 refine ⟨hn,hc,hcap,(fun e=>by cases e),fun B hB hn0=>?_⟩
 injection hB with hB
 subst hB
 have hne:flat [.row (scale c (4+1)) g]≠[]:=by
  intro e
  have:=congrArg List.length e
  simp [flat,sc5] at this
  omega
 obtain ⟨h1,h2⟩:=h hne
 rw [show A.add (0+0)=A from h1.zero]
 refine ⟨h2 hmk,fun j e he=>?_⟩
 obtain ⟨x,x1,x2⟩:=k.elt j e he
 have hj:j<n:=by rw [← hn]; exact (List.getElem?_eq_some_iff.1 he).1
 refine ⟨x,h1.part (j*5) fun i y hy=>?_,x2⟩
 have hi:i<5:=(List.getElem?_eq_some_iff.1 hy).1
 have hcs:=x1 i y hy
 have hlen:=k.len
 have hjn:j*5+i<scale c (4+1):=by rw [sc5]; omega
 rw [List.getElem?_map,List.getElem?_map]
 simp only [flat,List.append_nil,List.getElem?_map,List.getElem?_range hjn,Option.map_some]
 rw [hg _ ((List.getElem?_eq_some_iff.1 hcs).1),nthC_get? hcs]
theorem rz_app {g:Nat→Nat} {F:Nat→Bool} {α:Nat→Addr} {cs D E:List SC} (hr:∀ x∈cs,x.raw=x) (hl:D.length=E.length) (hD:∀ i,i<D.length→((SC.mp g (nthC D i)).rz F α).raw=nthC E i) (j:Nat) (hj:j<(cs++E).length):((SC.mp g (nthC (cs++D) j)).rz F α).raw=nthC (cs++E) j:=by
 rw [List.length_append] at hj
 rcases Nat.lt_or_ge j cs.length with h|h
 ·rw [nthJ_l h,nthJ_l h,mpJ_raw (hr _ (nthJ_mem h)),rzJ_raw (hr _ (nthJ_mem h))]
 ·rw [nthJ_r h,nthJ_r h]
  exact hD _ (by omega)
set_option maxRecDepth 20000 in
set_option maxHeartbeats 32000000 in
theorem fn_qvalue {W:World} {ms:List Nat} {x:EvC} {e:Ev} (hx:EvAt W ms x e):FnR Tryd.prog tds 12 1 [[.past W ms]] [.agg (evS e x)] (fun _=>True) (ValueA W ms e):=by
 refine fn_of_bodyW tds_ok follows_ Tryd.func12 rfl (t:=.a (.agg (evS e x))::anys (Tryd.f12.ntmps-1)) rfl (fun w r0 hr0 _=>?_)
 obtain ⟨x0,rfl⟩:=len1' hr0
 (repeat show _∧_;first|refine yr ?_|refine yt ?_|refine yf ?_|refine yo ?_)
 refine call_same (fn_echeck hx) [0] rfl (by (repeat first|exact trivial|refine ent1 ?_)) (by (repeat first|exact trivial|refine ent1 ?_)) (fun _ _=>trivial) ?_
 rintro y hs ⟨rfl,rfl⟩
 by_cases hc:checkM e=0
 rotate_left
 ·have f1:decide (checkM e≠0)=true:=decide_eq_true hc
  (repeat show _∧_;first|refine yr ?_|refine yt ?_|refine yf ?_|refine ya f1 ?_|refine yb f1 ?_|refine yo ?_)
  exact FinW.of ⟨.tup [.agg (jvS jt0 jc0),.c (.int .i64 (checkM e))],_,⟨[0],⟨rfl,rfl,rfl⟩,by (repeat first|exact trivial|refine ent1 ?_)⟩,.inl ⟨hc,rfl,rfl⟩⟩
 obtain ⟨k1,k2,k3,k4⟩:=check0 hc
 have k5:=names_data e.k k1
 have k6:=names_le9 e.k
 rw [hc]
 (repeat show _∧_;first|refine yr ?_|refine yt ?_|refine yf ?_|refine yo ?_)
 refine call_same (fn_eof e.k) [] rfl (by (repeat first|exact trivial|refine ent1 ?_)) trivial (fun _ _=>trivial) ?_
 rintro y hs ⟨rfl,rfl⟩
 have hDN:dataNs e.k=(evNames e.k).map nsB++if evData e.k=true then [idB] else []:=rfl
 obtain ⟨l,hl⟩:∃ l,evNames e.k=l:=⟨_,rfl⟩
 rw [hl] at k2 k5 k6 hDN ⊢
 clear hl
 (repeat show _∧_;first|refine yr ?_|refine yt ?_|refine yf ?_|refine yo ?_)
 cases l with
 | nil =>
  have hd:=k5 rfl
  refine .inr ⟨1,?_⟩
  (repeat show _∧_;first|refine yr ?_|refine yt ?_|refine yf ?_|refine ya hd ?_|refine yb hd ?_|refine yo ?_)
  have hN0:e.N=[]:=List.eq_nil_of_length_eq_zero k2
  have hDL:dataL e=[]:=by unfold dataL; rw [hN0,hd]; rfl
  have hDN:dataNs e.k=[]:=by rw [hDN,hd]; rfl
  refine call_same (fn_qnum e.t) [] rfl (by (repeat first|exact trivial|refine ent1 ?_)) trivial (fun _ _=>trivial) ?_
  rintro y hs ⟨rfl,rfl⟩
  (repeat show _∧_;first|refine yr ?_|refine yt ?_|refine yf ?_|refine yo ?_)
  refine call_same (fn_qadd0 (tNum e.t) jc0 timeB) [6] rfl (by (repeat first|exact trivial|refine ent1 ?_)) (by (repeat first|exact trivial|refine ent1 ?_)) (fun _ _=>trivial) ?_
  rintro y hs ⟨c3,d3,hc3,hd3,rfl,rfl⟩
  (repeat show _∧_;first|refine yr ?_|refine yt ?_|refine yf ?_|refine yo ?_)
  refine call_same (fn_qtext (evNm e.k)) [] rfl (by exact And.intro (U8_nsB _).symm trivial) trivial (fun _ _=>trivial) ?_
  rintro y hs ⟨rfl,rfl⟩
  (repeat show _∧_;first|refine yr ?_|refine yt ?_|refine yf ?_|refine yo ?_)
  refine call_same (fn_qadd1 (flat (jvS (tNum e.t) jc0)) [timeB] 1 c3 d3 (jv_raw _ _) rfl rfl hc3 hd3 (by decide) (tText (evNm e.k)) jc0 nameB) [6,7,8] rfl (by (repeat first|exact trivial|refine ent1 ?_)) ?_ (fun _ _=>trivial) ?_
  ·(repeat first|exact trivial|refine ent1 ?_)
   refine ⟨fun j hj=>eqJ_csM (jv_raw _ _) j,?_⟩
   (repeat first|exact trivial|refine ent1 ?_)
   exact ⟨fun j hj=>eqJ_csM (nmL_raw _) j,by (repeat first|exact trivial|refine ent1 ?_)⟩
  rintro y hs ⟨c4,d4,hc4,hd4,rfl,rfl⟩
  have hraw2:∀ y∈flat (jvS (tNum e.t) jc0)++flat (jvS (tText (evNm e.k)) jc0),y.raw=y:=fun y hy=>(List.mem_append.1 hy).elim (jv_raw _ _ y) (jv_raw _ _ y)
  obtain ⟨cs2,hcs2⟩:∃ cs2,flat (jvS (tNum e.t) jc0)++flat (jvS (tText (evNm e.k)) jc0)=cs2:=⟨_,rfl⟩
  have hlen2:cs2.length=2*5:=by rw [← hcs2]; rfl
  rw [hcs2] at hraw2 ⊢
  (repeat show _∧_;first|refine yr ?_|refine yt ?_|refine yf ?_|refine yo ?_)
  refine call_same (fn_qadd1 cs2 [timeB,nameB] 2 c4 d4 hraw2 hlen2 rfl hc4 hd4 (by decide) (dataJ e) jc0 dataB) [6,9,10] rfl (by (repeat first|exact trivial|refine ent1 ?_)) ?_ (fun _ _=>trivial) ?_
  ·(repeat first|exact trivial|refine ent1 ?_)
   refine ⟨fun j hj=>eqJ_csM hraw2 j,?_⟩
   (repeat first|exact trivial|refine ent1 ?_)
   exact ⟨fun j hj=>eqJ_csM (nmL_raw _) j,by (repeat first|exact trivial|refine ent1 ?_)⟩
  rintro y hs ⟨c5,d5,hc5,hd5,rfl,rfl⟩
  (repeat show _∧_;first|refine yr ?_|refine yt ?_|refine yf ?_|refine yo ?_)
  refine finW_frzU [0] rfl (Nat.zero_lt_one) cx0_m rfl (fun W9 ms9 α hL9 hI=>?_)
  have hdat:TAt W9 ms9 1 (dataJ e) jc0:=TAt.leaf (v:=dataJ e) hDL hDN 1
  have hroot:RowJ W9 ms9 1 (cs2++flat (jvS (dataJ e) jc0)) [tNum e.t,tText (evNm e.k),dataJ e]:=by
   rw [← hcs2]
   exact ((RowJ.nil.snoc (v:=tNum e.t) (x:=jc0) (TAt.leaf rfl rfl 1)).snoc (v:=tText (evNm e.k)) (x:=jc0) (TAt.leaf rfl rfl 1)).snoc hdat
  have hrawF:∀ y∈cs2++flat (jvS (dataJ e) jc0),y.raw=y:=fun y hy=>(List.mem_append.1 hy).elim (hraw2 y) (jv_raw _ _ y)
  have hfn:=strs_frz (l:=[timeB,nameB,dataB].map U8) (F:=fun j=>!memB j [0]) (fun j hj=>mpJ_raw (nmL_raw _ _ (nthJ_mem (l:=nmJ [timeB,nameB,dataB]) hj))) (fun h=>(hI 12 rfl h).1) (n:=3) rfl hd5 (by decide)
  refine ⟨.tup [.agg (jvS (evJ e) ⟨some ((α 11).add (0+0)),3,c5,some ((α 12).add (0+0)),3,d5⟩),.c (.int .i64 0)],[],⟨⟨rfl,rfl,rfl⟩,?_⟩,.inr ⟨hc,⟨some ((α 11).add (0+0)),3,c5,some ((α 12).add (0+0)),3,d5⟩,W9,ms9,hL9,⟨hroot.frz2 (F:=fun j=>!memB j [0]) (fun j hj=>by simp only [mpJ_raw (hrawF _ (nthJ_mem hj)),rzJ_raw (hrawF _ (nthJ_mem hj))]) (hI 11 rfl) marks_off (n:=3) rfl hc5 (by decide),hfn⟩,rfl,rfl⟩⟩
  ·(repeat first|exact trivial|refine ent1 ?_)
 | cons nm0 l0 =>
 obtain ⟨l,hl⟩:∃ l,nm0::l0=l:=⟨_,rfl⟩
 have hl0:0<l.length:=by rw [← hl]; simp
 have hstB:stB (nm0::l0)=[.row l.length (strsF l)]:=by rw [← hl]; rfl
 have hstC:∀ i,stC i (nm0::l0)=.sn false i 0 0 l.length l.length:=by intro i; rw [← hl]; rfl
 rw [hl] at k2 k6 hDN
 clear k5
 rw [hstB,hstC]
 clear hstB hstC hl
 (repeat show _∧_;first|refine yr ?_|refine yt ?_|refine yf ?_|refine yo ?_)
 refine .inl ⟨Nat × Option (List SC × Nat × Nat),fun y=>match y with
  | (j,none)=>⟨[.any,.a (.c (.p 1 0 0)),.a (.c (.p 2 0 0)),.a (.c (.int .i64 (0))),.any,.a (.c (.p 4 0 0)),.any,.a (.c (.p 5 0 0)),.any,.any,.any,.any,.any,.any,.any,.any,.any,.any,.any,.any,.any,.any,.any,.any,.any,.a (.c (.sn false 3 0 0 l.length l.length)),.a (.c (.int .i64 (l.length))),.a (.c (.int .i64 (((j:Nat):Int)))),.any,.any,.any,.any,.any,.any,.any,.any,.any,.any,.any,.any,.any,.any,.any,.any,.any,.any,.any,.any,.any,.any,.any,.any,.any,.any,.any,.any,.any,.any],[[.past W ms],evS e x,vz,[.row l.length (strsF l)],[.one (.str (evName e.k)),.one (.sn false 3 0 0 l.length l.length),.one (.bool (evData e.k))],vo0]⟩
  | (j,some (cs,c,d))=>⟨[.any,.a (.c (.p 1 0 0)),.a (.c (.p 2 0 0)),.a (.c (.int .i64 (0))),.any,.a (.c (.p 4 0 0)),.any,.a (.c (.p 5 0 0)),.any,.any,.any,.any,.any,.any,.any,.any,.any,.any,.any,.any,.any,.any,.any,.any,.any,.a (.c (.sn false 3 0 0 l.length l.length)),.a (.c (.int .i64 (l.length))),.a (.c (.int .i64 (((j:Nat):Int)))),.any,.any,.any,.any,.any,.any,.any,.any,.any,.any,.any,.any,.any,.any,.any,.any,.any,.any,.any,.any,.any,.any,.any,.any,.any,.any,.any,.any,.any,.any],[[.past W ms],evS e x,vz,[.row l.length (strsF l)],[.one (.str (evName e.k)),.one (.sn false 3 0 0 l.length l.length),.one (.bool (evData e.k))],vo1 6 j c 7 j d,[.row (scale c (4+1)) (nthC cs)],[.row (scale d (0+1)) (nthC (nmJ ((l.take j).map nsB)))]]⟩,
  fun y=>match y with
  | (j,none)=>j=0
  | (j,some (cs,c,d))=>0<j∧j≤l.length∧j≤c∧j≤d∧RowJ W ms 0 cs ((e.N.take j).map tNum),fun y=>l.length-y.1,⟨(0,none),[0,1,2,3,4,5],⟨⟨rfl,rfl,rfl⟩,?_⟩,rfl⟩,fun y hy=>?_⟩
 ·(repeat first|exact trivial|refine ent1 ?_)
  exact ⟨fun j hj=>eqC_strsM l hj,by (repeat first|exact trivial|refine ent1 ?_)⟩
 rcases y with ⟨j,_|⟨cs,c,d⟩⟩
 ·obtain rfl:j=0:=hy
  dsimp only
  have hj:0<l.length:=hl0
  have e1:decide (((0:Nat):Int)<(l.length:Int))=true:=decide_eq_true (by omega)
  have hjN:0<e.N.length:=by omega
  have hsj:strsF l 0=.str (U8 (nsB (l[0]'hj))):=by rw [U8_nsB]; obtain ⟨s,h1,h2⟩:=nthC_str l 0 hj; rw [List.getElem?_eq_getElem hj] at h2; injection h2 with h2; rw [h2]; exact h1
  have hlt:(l.take (0+1)).map nsB=(l.take 0).map nsB++[nsB (l[0]'hj)]:=by rw [List.take_add_one,List.getElem?_eq_getElem hj,Option.toList_some,List.map_append]; rfl
  have hNt:(e.N.take (0+1)).map tNum=(e.N.take 0).map tNum++[tNum (e.N[0]'hjN)]:=by rw [List.take_add_one,List.getElem?_eq_getElem hjN,Option.toList_some,List.map_append]; rfl
  have hnum:=fn_qnum1 hx 0 hjN
  generalize (l[0]'hj)=nm at hsj hlt
  generalize (e.N[0]'hjN)=n at hNt hnum
  (repeat show _∧_;first|refine yr ?_|refine yt ?_|refine yf ?_|refine ya e1 ?_|refine yb e1 ?_|refine yo ?_)
  refine frc_atQ (y:=.str (U8 (nsB nm))) (by exact hsj) ?_
  (repeat show _∧_;first|refine yr ?_|refine yt ?_|refine yf ?_|refine yo ?_)
  refine call_same hnum [0] rfl (by (repeat first|exact trivial|refine ent1 ?_)) (by (repeat first|exact trivial|refine ent1 ?_)) (fun _ _=>trivial) ?_
  rintro y hs ⟨rfl,rfl⟩
  (repeat show _∧_;first|refine yr ?_|refine yt ?_|refine yf ?_|refine yo ?_)
  refine call_same (fn_qnum n) [] rfl (by (repeat first|exact trivial|refine ent1 ?_)) trivial (fun _ _=>trivial) ?_
  rintro y hs ⟨rfl,rfl⟩
  (repeat show _∧_;first|refine yr ?_|refine yt ?_|refine yf ?_|refine yo ?_)
  refine call_same (fn_qadd0 (tNum n) jc0 (nsB nm)) [5] rfl (by (repeat first|exact trivial|refine ent1 ?_)) (by (repeat first|exact trivial|refine ent1 ?_)) (fun _ _=>trivial) ?_
  rintro y hs ⟨c2,d2,hc2,hd2,rfl,rfl⟩
  (repeat show _∧_;first|refine yr ?_|refine yt ?_|refine yf ?_|refine yo ?_)
  refine ⟨(1,some (flat (jvS (tNum n) jc0),c2,d2)),[0,1,2,3,4,5,6,7],⟨⟨rfl,rfl,rfl⟩,?_⟩,⟨Nat.zero_lt_one,hl0,hc2,hd2,?_⟩,by dsimp only; omega⟩
  ·dsimp only
   rw [hlt]
   (repeat first|exact trivial|refine ent1 ?_)
   refine ⟨fun j hj=>eqC_strs l hj,?_⟩
   (repeat first|exact trivial|refine ent1 ?_)
   refine ⟨fun j hj=>eqJ_csM (jv_raw _ _) j,?_⟩
   (repeat first|exact trivial|refine ent1 ?_)
   exact ⟨fun j hj=>eqJ_csM (nmL_raw _) j,by (repeat first|exact trivial|refine ent1 ?_)⟩
  ·rw [hNt]
   exact RowJ.nil.snoc (TAt.leaf rfl rfl 0)
 ·obtain ⟨h1,h2,h3,h4,hrow⟩:=hy
  dsimp only
  have hrl:=hrow.len
  rw [List.length_map,List.length_take] at hrl
  by_cases hj:j<l.length
  rotate_left
  ·have e1:decide ((j:Int)<(l.length:Int))=false:=decide_eq_false (by omega)
   obtain rfl:j=l.length:=by omega
   rw [List.take_length]
   rw [List.take_of_length_le (by omega)] at hrow
   cases hd:evData e.k
   ·(repeat show _∧_;first|refine yr ?_|refine yt ?_|refine yf ?_|refine ya e1 ?_|refine yb e1 ?_|refine ya hd ?_|refine yb hd ?_|refine yo ?_)
    have hrowD:RowJ W ms 0 cs (dataL e):=by rwa [show dataL e=e.N.map tNum by unfold dataL; rw [hd,if_neg (by decide),List.append_nil]]
    have hDN:dataNs e.k=l.map nsB:=by rw [hDN,hd,if_neg (by decide),List.append_nil]
    refine call_same (fn_qnum e.t) [] rfl (by (repeat first|exact trivial|refine ent1 ?_)) trivial (fun _ _=>trivial) ?_
    rintro y hs ⟨rfl,rfl⟩
    (repeat show _∧_;first|refine yr ?_|refine yt ?_|refine yf ?_|refine yo ?_)
    refine call_same (fn_qadd0 (tNum e.t) jc0 timeB) [8] rfl (by (repeat first|exact trivial|refine ent1 ?_)) (by (repeat first|exact trivial|refine ent1 ?_)) (fun _ _=>trivial) ?_
    rintro y hs ⟨c3,d3,hc3,hd3,rfl,rfl⟩
    (repeat show _∧_;first|refine yr ?_|refine yt ?_|refine yf ?_|refine yo ?_)
    refine call_same (fn_qtext (evNm e.k)) [] rfl (by exact And.intro (U8_nsB _).symm trivial) trivial (fun _ _=>trivial) ?_
    rintro y hs ⟨rfl,rfl⟩
    (repeat show _∧_;first|refine yr ?_|refine yt ?_|refine yf ?_|refine yo ?_)
    refine call_same (fn_qadd1 (flat (jvS (tNum e.t) jc0)) [timeB] 1 c3 d3 (jv_raw _ _) rfl rfl hc3 hd3 (by decide) (tText (evNm e.k)) jc0 nameB) [8,9,10] rfl (by (repeat first|exact trivial|refine ent1 ?_)) ?_ (fun _ _=>trivial) ?_
    ·(repeat first|exact trivial|refine ent1 ?_)
     refine ⟨fun j hj=>eqJ_csM (jv_raw _ _) j,?_⟩
     (repeat first|exact trivial|refine ent1 ?_)
     exact ⟨fun j hj=>eqJ_csM (nmL_raw _) j,by (repeat first|exact trivial|refine ent1 ?_)⟩
    rintro y hs ⟨c4,d4,hc4,hd4,rfl,rfl⟩
    have hraw2:∀ y∈flat (jvS (tNum e.t) jc0)++flat (jvS (tText (evNm e.k)) jc0),y.raw=y:=fun y hy=>(List.mem_append.1 hy).elim (jv_raw _ _ y) (jv_raw _ _ y)
    obtain ⟨cs2,hcs2⟩:∃ cs2,flat (jvS (tNum e.t) jc0)++flat (jvS (tText (evNm e.k)) jc0)=cs2:=⟨_,rfl⟩
    have hlen2:cs2.length=2*5:=by rw [← hcs2]; rfl
    rw [hcs2] at hraw2 ⊢
    (repeat show _∧_;first|refine yr ?_|refine yt ?_|refine yf ?_|refine yo ?_)
    refine call_same (fn_qadd2 cs2 [timeB,nameB] 2 c4 d4 hraw2 hlen2 rfl hc4 hd4 (by decide) l.length c l.length d (nthC cs) (nthC (nmJ (l.map nsB))) (scale c (4+1)) (scale d (0+1)) (fun q j=>eqJ_cs hrowD.raw (fun _ _=>rfl) j) (fun q j=>eqJ_cs (nmL_raw _) (fun _ _=>rfl) j) dataB) [8,11,12,6,7] rfl (by (repeat first|exact trivial|refine ent1 ?_)) ?_ (fun _ _=>trivial) ?_
    ·(repeat first|exact trivial|refine ent1 ?_)
     refine ⟨fun j hj=>eqJ_csM hraw2 j,?_⟩
     (repeat first|exact trivial|refine ent1 ?_)
     refine ⟨fun j hj=>eqJ_csM (nmL_raw _) j,?_⟩
     (repeat first|exact trivial|refine ent1 ?_)
     refine ⟨fun j hj=>eqJ_cs hrowD.raw (fun _ _=>rfl) j,?_⟩
     (repeat first|exact trivial|refine ent1 ?_)
     exact ⟨fun j hj=>eqJ_cs (nmL_raw _) (fun _ _=>rfl) j,by (repeat first|exact trivial|refine ent1 ?_)⟩
    rintro y hs ⟨c5,d5,hc5,hd5,rfl,rfl⟩
    (repeat show _∧_;first|refine yr ?_|refine yt ?_|refine yf ?_|refine yo ?_)
    refine finW_frzU [0] rfl (Nat.zero_lt_one) cx0_m rfl (fun W9 ms9 α hL9 hI=>?_)
    have hdl:(dataL e).length=l.length:=by have:=hrowD.len; unfold dataL; rw [hd,if_neg (by decide),List.length_append,List.length_map,k2]; rfl
    have hdat:TAt W9 ms9 1 (dataJ e) ⟨some ((α 6).add (0+0)),l.length,c,some ((α 7).add (0+0)),l.length,d⟩:=⟨(hrowD.later hL9).frz2 (F:=fun j=>!memB j [0]) (fun j hj=>by simp only [mpJ_raw (hrowD.raw _ (nthJ_mem hj)),rzJ_raw (hrowD.raw _ (nthJ_mem hj))]) (hI 6 rfl) marks_off (n:=l.length) hdl h3 (by omega),?_⟩
    rotate_left
    ·show StAt W9 ms9 _ _ _ ((dataNs e.k).map U8)
     rw [hDN]
     exact strs_frz (l:=(l.map nsB).map U8) (F:=fun j=>!memB j [0]) (fun j hj=>mpJ_raw (nmL_raw _ _ (nthJ_mem (l:=nmJ (l.map nsB)) hj))) (fun h=>(hI 7 rfl h).1) (n:=l.length) (by simp) h4 (by omega)
    have hroot:RowJ W9 ms9 1 (cs2++flat (jvS (dataJ e) ⟨some ((α 6).add (0+0)),l.length,c,some ((α 7).add (0+0)),l.length,d⟩)) [tNum e.t,tText (evNm e.k),dataJ e]:=by
     rw [← hcs2]
     exact ((RowJ.nil.snoc (v:=tNum e.t) (x:=jc0) (TAt.leaf rfl rfl 1)).snoc (v:=tText (evNm e.k)) (x:=jc0) (TAt.leaf rfl rfl 1)).snoc hdat
    have hfn:=strs_frz (l:=[timeB,nameB,dataB].map U8) (F:=fun j=>!memB j [0]) (fun j hj=>mpJ_raw (nmL_raw _ _ (nthJ_mem (l:=nmJ [timeB,nameB,dataB]) hj))) (fun h=>(hI 14 rfl h).1) (n:=3) rfl hd5 (by decide)
    refine ⟨.tup [.agg (jvS (evJ e) ⟨some ((α 13).add (0+0)),3,c5,some ((α 14).add (0+0)),3,d5⟩),.c (.int .i64 0)],[],⟨⟨rfl,rfl,rfl⟩,?_⟩,.inr ⟨hc,⟨some ((α 13).add (0+0)),3,c5,some ((α 14).add (0+0)),3,d5⟩,W9,ms9,hL9,⟨hroot.frz2 (F:=fun j=>!memB j [0]) (fun j hj=>rz_app (g:=bk 13 [8,11,12,6,7]) (D:=[.w8 6#8,.w64 0#64,.str [],.sl 3 0 0 l.length c,.sl 4 0 0 l.length d]) (E:=flat (jvS (dataJ e) ⟨some ((α 6).add (0+0)),l.length,c,some ((α 7).add (0+0)),l.length,d⟩)) hraw2 rfl (fun i hi=>?_) j hj) (hI 13 rfl) marks_off (n:=3) rfl hc5 (by decide),hfn⟩,rfl,rfl⟩⟩
    ·(repeat first|exact trivial|refine ent1 ?_)
    match i,hi with
    | 0,_=>rfl
    | 1,_=>rfl
    | 2,_=>rfl
    | 3,_=>rfl
    | 4,_=>rfl
   ·(repeat show _∧_;first|refine yr ?_|refine yt ?_|refine yf ?_|refine ya e1 ?_|refine yb e1 ?_|refine ya hd ?_|refine yb hd ?_|refine yo ?_)
    refine call_same (fn_qdigits hx.D (by omega)) [0] rfl (by (repeat first|exact trivial|refine ent1 ?_)) (by (repeat first|exact trivial|refine ent1 ?_)) (fun _ _=>trivial) ?_
    rintro y hs ⟨rfl,rfl⟩
    (repeat show _∧_;first|refine yr ?_|refine yt ?_|refine yf ?_|refine yo ?_)
    refine call_same (fn_qtext (hexB e.D)) [] rfl (by (repeat first|exact trivial|refine ent1 ?_)) trivial (fun _ _=>trivial) ?_
    rintro y hs ⟨rfl,rfl⟩
    (repeat show _∧_;first|refine yr ?_|refine yt ?_|refine yf ?_|refine yo ?_)
    refine call_same (fn_qadd1 cs (l.map nsB) l.length c d hrow.raw (by omega) (by rw [List.length_map]) h3 h4 (by omega) (tText (hexB e.D)) jc0 idB) [5,6,7] rfl (by (repeat first|exact trivial|refine ent1 ?_)) ?_ (fun _ _=>trivial) ?_
    ·(repeat first|exact trivial|refine ent1 ?_)
     refine ⟨fun j hj=>eqJ_cs hrow.raw (fun _ _=>rfl) j,?_⟩
     (repeat first|exact trivial|refine ent1 ?_)
     exact ⟨fun j hj=>eqJ_cs (nmL_raw _) (fun _ _=>rfl) j,by (repeat first|exact trivial|refine ent1 ?_)⟩
    rintro y hs ⟨c0,d0,hc0,hd0,rfl,rfl⟩
    have hrowD:RowJ W ms 0 (cs++flat (jvS (tText (hexB e.D)) jc0)) (dataL e):=by
     have:=hrow.snoc (v:=tText (hexB e.D)) (x:=jc0) (TAt.leaf rfl rfl 0)
     rwa [show dataL e=e.N.map tNum++[tText (hexB e.D)] by unfold dataL; rw [hd,if_pos rfl]]
    have hDN:dataNs e.k=l.map nsB++[idB]:=by rw [hDN,hd,if_pos rfl]
    generalize cs++flat (jvS (tText (hexB e.D)) jc0)=cs0 at hrowD ⊢
    (repeat show _∧_;first|refine yr ?_|refine yt ?_|refine yf ?_|refine yo ?_)
    refine call_same (fn_qnum e.t) [] rfl (by (repeat first|exact trivial|refine ent1 ?_)) trivial (fun _ _=>trivial) ?_
    rintro y hs ⟨rfl,rfl⟩
    (repeat show _∧_;first|refine yr ?_|refine yt ?_|refine yf ?_|refine yo ?_)
    refine call_same (fn_qadd0 (tNum e.t) jc0 timeB) [10] rfl (by (repeat first|exact trivial|refine ent1 ?_)) (by (repeat first|exact trivial|refine ent1 ?_)) (fun _ _=>trivial) ?_
    rintro y hs ⟨c3,d3,hc3,hd3,rfl,rfl⟩
    (repeat show _∧_;first|refine yr ?_|refine yt ?_|refine yf ?_|refine yo ?_)
    refine call_same (fn_qtext (evNm e.k)) [] rfl (by exact And.intro (U8_nsB _).symm trivial) trivial (fun _ _=>trivial) ?_
    rintro y hs ⟨rfl,rfl⟩
    (repeat show _∧_;first|refine yr ?_|refine yt ?_|refine yf ?_|refine yo ?_)
    refine call_same (fn_qadd1 (flat (jvS (tNum e.t) jc0)) [timeB] 1 c3 d3 (jv_raw _ _) rfl rfl hc3 hd3 (by decide) (tText (evNm e.k)) jc0 nameB) [10,11,12] rfl (by (repeat first|exact trivial|refine ent1 ?_)) ?_ (fun _ _=>trivial) ?_
    ·(repeat first|exact trivial|refine ent1 ?_)
     refine ⟨fun j hj=>eqJ_csM (jv_raw _ _) j,?_⟩
     (repeat first|exact trivial|refine ent1 ?_)
     exact ⟨fun j hj=>eqJ_csM (nmL_raw _) j,by (repeat first|exact trivial|refine ent1 ?_)⟩
    rintro y hs ⟨c4,d4,hc4,hd4,rfl,rfl⟩
    have hraw2:∀ y∈flat (jvS (tNum e.t) jc0)++flat (jvS (tText (evNm e.k)) jc0),y.raw=y:=fun y hy=>(List.mem_append.1 hy).elim (jv_raw _ _ y) (jv_raw _ _ y)
    obtain ⟨cs2,hcs2⟩:∃ cs2,flat (jvS (tNum e.t) jc0)++flat (jvS (tText (evNm e.k)) jc0)=cs2:=⟨_,rfl⟩
    have hlen2:cs2.length=2*5:=by rw [← hcs2]; rfl
    rw [hcs2] at hraw2 ⊢
    (repeat show _∧_;first|refine yr ?_|refine yt ?_|refine yf ?_|refine yo ?_)
    refine call_same (fn_qadd2 cs2 [timeB,nameB] 2 c4 d4 hraw2 hlen2 rfl hc4 hd4 (by decide) (l.length+1) c0 (l.length+1) d0 (nthC cs0) (nthC (nmJ (l.map nsB++[idB]))) (scale c0 (4+1)) (scale d0 (0+1)) (fun q j=>eqJ_cs hrowD.raw (fun _ _=>rfl) j) (fun q j=>eqJ_cs (nmL_raw _) (fun _ _=>rfl) j) dataB) [10,13,14,8,9] rfl (by (repeat first|exact trivial|refine ent1 ?_)) ?_ (fun _ _=>trivial) ?_
    ·(repeat first|exact trivial|refine ent1 ?_)
     refine ⟨fun j hj=>eqJ_csM hraw2 j,?_⟩
     (repeat first|exact trivial|refine ent1 ?_)
     refine ⟨fun j hj=>eqJ_csM (nmL_raw _) j,?_⟩
     (repeat first|exact trivial|refine ent1 ?_)
     refine ⟨fun j hj=>eqJ_csM hrowD.raw j,?_⟩
     (repeat first|exact trivial|refine ent1 ?_)
     exact ⟨fun j hj=>eqJ_csM (nmL_raw _) j,by (repeat first|exact trivial|refine ent1 ?_)⟩
    rintro y hs ⟨c5,d5,hc5,hd5,rfl,rfl⟩
    (repeat show _∧_;first|refine yr ?_|refine yt ?_|refine yf ?_|refine yo ?_)
    refine finW_frzU [0] rfl (Nat.zero_lt_one) cx0_m rfl (fun W9 ms9 α hL9 hI=>?_)
    have hdl:(dataL e).length=(l.length+1):=by have:=hrowD.len; unfold dataL; rw [hd,if_pos rfl,List.length_append,List.length_map,k2]; rfl
    have hdat:TAt W9 ms9 1 (dataJ e) ⟨some ((α 8).add (0+0)),(l.length+1),c0,some ((α 9).add (0+0)),(l.length+1),d0⟩:=⟨(hrowD.later hL9).frz2 (F:=fun j=>!memB j [0]) (fun j hj=>by simp only [mpJ_raw (hrowD.raw _ (nthJ_mem hj)),rzJ_raw (hrowD.raw _ (nthJ_mem hj))]) (hI 8 rfl) marks_off (n:=(l.length+1)) hdl hc0 (by omega),?_⟩
    rotate_left
    ·show StAt W9 ms9 _ _ _ ((dataNs e.k).map U8)
     rw [hDN]
     exact strs_frz (l:=(l.map nsB++[idB]).map U8) (F:=fun j=>!memB j [0]) (fun j hj=>mpJ_raw (nmL_raw _ _ (nthJ_mem (l:=nmJ (l.map nsB++[idB])) hj))) (fun h=>(hI 9 rfl h).1) (n:=(l.length+1)) (by simp) hd0 (by omega)
    have hroot:RowJ W9 ms9 1 (cs2++flat (jvS (dataJ e) ⟨some ((α 8).add (0+0)),(l.length+1),c0,some ((α 9).add (0+0)),(l.length+1),d0⟩)) [tNum e.t,tText (evNm e.k),dataJ e]:=by
     rw [← hcs2]
     exact ((RowJ.nil.snoc (v:=tNum e.t) (x:=jc0) (TAt.leaf rfl rfl 1)).snoc (v:=tText (evNm e.k)) (x:=jc0) (TAt.leaf rfl rfl 1)).snoc hdat
    have hfn:=strs_frz (l:=[timeB,nameB,dataB].map U8) (F:=fun j=>!memB j [0]) (fun j hj=>mpJ_raw (nmL_raw _ _ (nthJ_mem (l:=nmJ [timeB,nameB,dataB]) hj))) (fun h=>(hI 16 rfl h).1) (n:=3) rfl hd5 (by decide)
    refine ⟨.tup [.agg (jvS (evJ e) ⟨some ((α 15).add (0+0)),3,c5,some ((α 16).add (0+0)),3,d5⟩),.c (.int .i64 0)],[],⟨⟨rfl,rfl,rfl⟩,?_⟩,.inr ⟨hc,⟨some ((α 15).add (0+0)),3,c5,some ((α 16).add (0+0)),3,d5⟩,W9,ms9,hL9,⟨hroot.frz2 (F:=fun j=>!memB j [0]) (fun j hj=>rz_app (g:=bk 15 [10,13,14,8,9]) (D:=[.w8 6#8,.w64 0#64,.str [],.sl 3 0 0 (l.length+1) c0,.sl 4 0 0 (l.length+1) d0]) (E:=flat (jvS (dataJ e) ⟨some ((α 8).add (0+0)),(l.length+1),c0,some ((α 9).add (0+0)),(l.length+1),d0⟩)) hraw2 rfl (fun i hi=>?_) j hj) (hI 15 rfl) marks_off (n:=3) rfl hc5 (by decide),hfn⟩,rfl,rfl⟩⟩
    ·(repeat first|exact trivial|refine ent1 ?_)
    match i,hi with
    | 0,_=>rfl
    | 1,_=>rfl
    | 2,_=>rfl
    | 3,_=>rfl
    | 4,_=>rfl
  have e1:decide (((j:Nat):Int)<(l.length:Int))=true:=decide_eq_true (by omega)
  have hjN:j<e.N.length:=by omega
  have hsj:strsF l j=.str (U8 (nsB (l[j]'hj))):=by rw [U8_nsB]; obtain ⟨s,h1,h2⟩:=nthC_str l j hj; rw [List.getElem?_eq_getElem hj] at h2; injection h2 with h2; rw [h2]; exact h1
  have hlt:(l.take (j+1)).map nsB=(l.take j).map nsB++[nsB (l[j]'hj)]:=by rw [List.take_add_one,List.getElem?_eq_getElem hj,Option.toList_some,List.map_append]; rfl
  have hNt:(e.N.take (j+1)).map tNum=(e.N.take j).map tNum++[tNum (e.N[j]'hjN)]:=by rw [List.take_add_one,List.getElem?_eq_getElem hjN,Option.toList_some,List.map_append]; rfl
  have hnum:=fn_qnum1 hx j hjN
  generalize (l[j]'hj)=nm at hsj hlt
  generalize (e.N[j]'hjN)=n at hNt hnum
  (repeat show _∧_;first|refine yr ?_|refine yt ?_|refine yf ?_|refine ya e1 ?_|refine yb e1 ?_|refine yo ?_)
  refine frc_atQ (y:=.str (U8 (nsB nm))) (by exact hsj) ?_
  (repeat show _∧_;first|refine yr ?_|refine yt ?_|refine yf ?_|refine yo ?_)
  refine call_same hnum [0] rfl (by (repeat first|exact trivial|refine ent1 ?_)) (by (repeat first|exact trivial|refine ent1 ?_)) (fun _ _=>trivial) ?_
  rintro y hs ⟨rfl,rfl⟩
  (repeat show _∧_;first|refine yr ?_|refine yt ?_|refine yf ?_|refine yo ?_)
  refine call_same (fn_qnum n) [] rfl (by (repeat first|exact trivial|refine ent1 ?_)) trivial (fun _ _=>trivial) ?_
  rintro y hs ⟨rfl,rfl⟩
  (repeat show _∧_;first|refine yr ?_|refine yt ?_|refine yf ?_|refine yo ?_)
  refine call_same (fn_qadd1 cs ((l.take j).map nsB) j c d hrow.raw (by omega) (by rw [List.length_map,List.length_take]; omega) h3 h4 (by omega) (tNum n) jc0 (nsB nm)) [5,6,7] rfl (by (repeat first|exact trivial|refine ent1 ?_)) ?_ (fun _ _=>trivial) ?_
  ·(repeat first|exact trivial|refine ent1 ?_)
   refine ⟨fun j hj=>eqJ_cs hrow.raw (fun _ _=>rfl) j,?_⟩
   (repeat first|exact trivial|refine ent1 ?_)
   exact ⟨fun j hj=>eqJ_cs (nmL_raw _) (fun _ _=>rfl) j,by (repeat first|exact trivial|refine ent1 ?_)⟩
  rintro y hs ⟨c2,d2,hc2,hd2,rfl,rfl⟩
  (repeat show _∧_;first|refine yr ?_|refine yt ?_|refine yf ?_|refine yo ?_)
  refine ⟨(j+1,some (cs++flat (jvS (tNum n) jc0),c2,d2)),[0,1,2,3,4,5,8,9],⟨⟨rfl,rfl,rfl⟩,?_⟩,⟨by omega,hj,hc2,hd2,?_⟩,by dsimp only; omega⟩
  ·dsimp only
   rw [hlt]
   (repeat first|exact trivial|refine ent1 ?_)
   refine ⟨fun j hj=>eqC_strs l hj,?_⟩
   (repeat first|exact trivial|refine ent1 ?_)
   refine ⟨fun j hj=>eqJ_csM (fun y hy=>(List.mem_append.1 hy).elim (hrow.raw y) (jv_raw _ _ y)) j,?_⟩
   (repeat first|exact trivial|refine ent1 ?_)
   exact ⟨fun j hj=>eqJ_csM (nmL_raw _) j,by (repeat first|exact trivial|refine ent1 ?_)⟩
  ·rw [hNt]
   exact hrow.snoc (TAt.leaf rfl rfl 0)
end Sx
end
end Go.Proofs.YtnehmcpkeamghaaDoor
