/-
  Texts of this claim, part 7: JsF, JsNa, JsI, JsL, JsS, JsG, JsH, JsJ, JsO. No condition of its own.
-/
import Derived.Test.YtnehmcpkeamghaaDoorG6
namespace Go.Proofs.YtnehmcpkeamghaaDoor
set_option linter.unusedVariables false
section
namespace Js
open Sha
theorem drop_cons (s:Bs) (j:Nat) (h:j<s.length):s.drop j=L s j::s.drop (j+1):=by
 rw [List.drop_eq_getElem_cons h,← L_lt h]
theorem pt_end {s:Bs} {j f:Nat} {acc:Bs} (h:s.length≤j):ptext f (s.drop j) acc=.bad 3:=by
 rw [List.drop_eq_nil_of_le h]
 cases f <;> rfl
theorem pt_quote {s:Bs} {j f:Nat} {acc:Bs} (h:j<s.length) (hc:L s j=34#8):ptext (f+1) (s.drop j) acc=.ok acc (s.drop (j+1)):=by
 rw [drop_cons s j h,ptext,if_pos hc]
theorem pt_ctl {s:Bs} {j f:Nat} {acc:Bs} (h:j<s.length) (hc:L s j≠34#8) (h2:(L s j).toNat<32):ptext (f+1) (s.drop j) acc=.bad 4:=by
 rw [drop_cons s j h,ptext,if_neg hc,if_pos h2]
theorem pt_escE {s:Bs} {j f:Nat} {acc:Bs} {e:Int} (h:j<s.length) (hc:L s j=92#8) (h2:esc (s.drop j)=.bad e):ptext (f+1) (s.drop j) acc=.bad e:=by
 rw [drop_cons s j h] at h2 ⊢
 rw [ptext,if_neg (by rw [hc]; decide),if_neg (by rw [hc]; decide),if_pos hc,h2]
theorem pt_esc {s t:Bs} {j f v:Nat} {acc:Bs} (h:j<s.length) (hc:L s j=92#8) (h2:esc (s.drop j)=.ok v t):ptext (f+1) (s.drop j) acc=ptext f t (acc++enc v):=by
 rw [drop_cons s j h] at h2 ⊢
 rw [ptext,if_neg (by rw [hc]; decide),if_neg (by rw [hc]; decide),if_pos hc,h2]
theorem pt_bad {s:Bs} {j f:Nat} {acc:Bs} (h:j<s.length) (h1:L s j≠34#8) (h2:¬ (L s j).toNat<32) (h3:L s j≠92#8) (h4:(dec (s.drop j)).1=65533∧(dec (s.drop j)).2≤1):ptext (f+1) (s.drop j) acc=.bad 4:=by
 rw [drop_cons s j h] at h4 ⊢
 rw [ptext,if_neg h1,if_neg h2,if_neg h3,if_pos h4]
theorem pt_chr {s:Bs} {j f:Nat} {acc:Bs} (h:j<s.length) (h1:L s j≠34#8) (h2:¬ (L s j).toNat<32) (h3:L s j≠92#8) (h4:¬ ((dec (s.drop j)).1=65533∧(dec (s.drop j)).2≤1)):ptext (f+1) (s.drop j) acc=ptext f (s.drop (j+(dec (s.drop j)).2)) (acc++(s.drop j).take (dec (s.drop j)).2):=by
 have e:=drop_cons s j h
 rw [← List.drop_drop]
 rw [e] at h4 ⊢
 rw [ptext,if_neg h1,if_neg h2,if_neg h3,if_neg h4]
end Js
namespace Sx
open Go.RowKit Sha Vi Js

theorem enc_len (r:Nat):(enc r).length≤4:=by
 unfold enc
 repeat' split
 all_goals simp
theorem U8_rest (s:Bs) (j:Nat):((U8 s).drop ((j:Int)).toNat).take ((U8 s).length-((j:Int)).toNat)=U8 (s.drop j):=by
 rw [Int.toNat_natCast,U8_drop,List.take_of_length_le]
 rw [U8_len,U8_len,List.length_drop]; omega
theorem row_U8 {m:Bs} (i:Nat) (hi:i<m.length):SC.w8 ((U8 m).getD i 0).toBitVec=.w8 (L m i):=congrArg SC.w8 (U8_get m i hi)
def TextA (W:World) (ms:List Nat) (s:Bs) (k:Nat) (r:R Bs) (y:SV) (hs:List (List Seg)):Prop :=
 (∃ t k',r=.ok t (s.drop k')∧k<k'∧k'≤s.length∧y=.tup [.c (.str (U8 t)),.c (.int .i64 0)]∧hs=[[.past W ms],psr s k']) ∨
 (∃ e k',r=.bad e∧e≠0∧k≤k'∧k'≤s.length∧y=.tup [.c (.str []),.c (.int .i64 e)]∧hs=[[.past W ms],psr s k'])
set_option maxRecDepth 20000 in
set_option maxHeartbeats 16000000 in
theorem fn_text {W:World} {ms:List Nat} (hT:Tabs W ms) (s:Bs) (k:Nat) (hk:k<s.length) (hs:s.length≤1048576):FnR Tryd.prog tds 54 1 [[.past W ms],psr s k] [.c (.p 1 0 0)] (fun _=>True) (TextA W ms s k (text (s.drop (k+1)))):=by
 refine fn_of_body tds_ok follows_ Tryd.func54 rfl (t:=.a (.c (.p 1 0 0))::anys (Tryd.f54.ntmps-1)) rfl (fun w r0 hr0 _=>?_)
 obtain ⟨x0,x1,rfl⟩:=len2' hr0
 (repeat show _∧_;first|refine yr ?_|refine yt ?_|refine yf ?_|refine yo ?_)
 refine .inl ⟨Nat × Option (Bs × Nat),fun x=>match x with
  | (j,none)=>⟨[.a (.c (.p 1 0 0)),.any,.a (.c (.str ([]))),.a (.c (.int .i64 (0))),.a (.c (.slc none 0 0)),.any,.any,.any,.any,.any,.any,.any,.any,.any,.any,.any,.any,.any,.any,.any,.any,.any,.any,.any,.any,.any,.any,.any,.any,.any,.any,.any,.any,.any,.any,.any,.any,.any,.any,.any,.any,.any,.any,.any,.any,.any,.any,.any,.any,.any,.any,.any,.any,.any,.any,.any,.any,.any,.any,.any,.any,.any,.any,.any,.any,.any,.any,.any,.any,.any,.any,.any,.any,.any,.any,.any,.any,.any,.any,.any,.any,.any,.any,.any,.any,.any,.any,.any,.any,.any,.any,.any,.any,.any,.any,.any,.any,.any,.any,.any,.any,.any,.any,.any,.any,.any,.any,.any,.any],[[.past W ms],psr s j]⟩
  | (j,some (a,c))=>⟨[.a (.c (.p 1 0 0)),.any,.a (.c (.str ([]))),.a (.c (.int .i64 (0))),.a (.c (.sl 2 0 0 a.length c)),.any,.any,.any,.any,.any,.any,.any,.any,.any,.any,.any,.any,.any,.any,.any,.any,.any,.any,.any,.any,.any,.any,.any,.any,.any,.any,.any,.any,.any,.any,.any,.any,.any,.any,.any,.any,.any,.any,.any,.any,.any,.any,.any,.any,.any,.any,.any,.any,.any,.any,.any,.any,.any,.any,.any,.any,.any,.any,.any,.any,.any,.any,.any,.any,.any,.any,.any,.any,.any,.any,.any,.any,.any,.any,.any,.any,.any,.any,.any,.any,.any,.any,.any,.any,.any,.any,.any,.any,.any,.any,.any,.any,.any,.any,.any,.any,.any,.any,.any,.any,.any,.any,.any,.any],[[.past W ms],psr s j,lsC a c]⟩,
  fun x=>match x with
  | (j,none)=>k<j∧j≤s.length∧∃ f,s.length-j<f∧ptext f (s.drop j) []=text (s.drop (k+1))
  | (j,some (a,c))=>k<j∧j≤s.length∧a.length≤4*j∧a.length≤c∧∃ f,s.length-j<f∧ptext f (s.drop j) a=text (s.drop (k+1)),
  fun x=>s.length-x.1,⟨(k+1,none),[0,1],⟨⟨rfl,rfl,rfl⟩,by (repeat first|exact trivial|refine ent1 ?_)⟩,by omega,by omega,(s.drop (k+1)).length+1,by rw [List.length_drop]; omega,rfl⟩,fun x hx=>?_⟩
 rcases x with ⟨j,_|⟨a,c⟩⟩
 ·obtain ⟨g1,g2,f,g3,hP⟩:=hx
  dsimp only
  obtain ⟨f,rfl⟩:∃ f',f=f'+1:=⟨f-1,by omega⟩
  refine ⟨none,[],[(0,true),(1,true),(2,true),(3,true),(4,true),(5,true),(6,true),(7,true),(8,true),(9,true)],[],by kernel_rfl,?_⟩
  by_cases hl:j<s.length
  rotate_left
  ·have el:decide ((j:Int)<(((U8 s).length:Nat):Int))=false:=decide_eq_false (by rw [U8_len]; omega)
   (repeat show _∧_;first|refine yr ?_|refine yt ?_|refine yf ?_|refine ya el ?_|refine yb el ?_|refine yo ?_)
   exact ⟨.tup [.c (.str []),.c (.int .i64 3)],_,⟨[0,1],⟨rfl,rfl,rfl⟩,by (repeat first|exact trivial|refine ent1 ?_)⟩,.inr ⟨3,j,by rw [← hP]; exact pt_end (by omega),by decide,by omega,g2,rfl,rfl⟩⟩
  have el:decide ((j:Int)<(((U8 s).length:Nat):Int))=true:=decide_eq_true (by rw [U8_len]; omega)
  (repeat show _∧_;first|refine yr ?_|refine yt ?_|refine yf ?_|refine ya el ?_|refine yb el ?_|refine yo ?_)
  refine ⟨none,[],[(0,true),(1,true),(2,true),(3,true),(4,true),(5,true),(6,true),(7,true),(8,true),(9,true)],[],by kernel_rfl,?_⟩
  (repeat show _∧_;first|refine yr ?_|refine yt ?_|refine yf ?_|refine yo ?_)
  refine And.intro ⟨by omega,by rw [U8_len]; omega⟩ ?_
  rw [show ((U8 s).getD ((j:Int)).toNat 0).toBitVec=L s j from U8_get s j hl]
  obtain ⟨ch,hch⟩:∃ ch,L s j=ch:=⟨_,rfl⟩
  rw [hch]
  by_cases c1:ch=34#8
  ·have e1:decide (ch=34#8)=true:=decide_eq_true c1
   rw [pt_quote hl (hch.trans c1)] at hP
   (repeat show _∧_;first|refine yr ?_|refine yt ?_|refine yf ?_|refine ya e1 ?_|refine yb e1 ?_|refine yo ?_)
   refine ⟨U8 [],⟨rfl,fun q hq=>absurd hq (Nat.not_lt_zero _)⟩,?_⟩
   (repeat show _∧_;first|refine yr ?_|refine yt ?_|refine yf ?_|refine yo ?_)
   exact ⟨.tup [.c (.str (U8 [])),.c (.int .i64 0)],_,⟨[0,1],⟨rfl,rfl,rfl⟩,by (repeat first|exact trivial|refine ent1 ?_)⟩,.inl ⟨[],j+1,hP.symm,by omega,by omega,rfl,rfl⟩⟩
  have e1:decide (ch=34#8)=false:=decide_eq_false c1
  by_cases c2:ch.toNat<32
  ·have e2:decide (ch<32#8)=true:=decide_eq_true (by rw [BitVec.lt_def]; exact c2)
   rw [pt_ctl hl (by rw [hch]; exact c1) (by rw [hch]; exact c2)] at hP
   (repeat show _∧_;first|refine yr ?_|refine yt ?_|refine yf ?_|refine ya e1 ?_|refine yb e1 ?_|refine ya e2 ?_|refine yb e2 ?_|refine yo ?_)
   exact ⟨.tup [.c (.str []),.c (.int .i64 4)],_,⟨[0,1],⟨rfl,rfl,rfl⟩,by (repeat first|exact trivial|refine ent1 ?_)⟩,.inr ⟨4,j,hP.symm,by decide,by omega,by omega,rfl,rfl⟩⟩
  have e2:decide (ch<32#8)=false:=decide_eq_false (by rw [BitVec.lt_def]; exact c2)
  by_cases c3:ch=92#8
  ·have e3:decide (ch=92#8)=true:=decide_eq_true c3
   (repeat show _∧_;first|refine yr ?_|refine yt ?_|refine yf ?_|refine ya e1 ?_|refine yb e1 ?_|refine ya e2 ?_|refine yb e2 ?_|refine ya e3 ?_|refine yb e3 ?_|refine yo ?_)
   refine call_same (fn_escape s j hl hs) [1] rfl (by (repeat first|exact trivial|refine ent1 ?_)) (by (repeat first|exact trivial|refine ent1 ?_)) (fun _ _=>trivial) ?_
   rintro x hs' (⟨v,k',q1,q2,q3,rfl,rfl⟩|⟨e,v,k',q1,q0,q2,q3,rfl,rfl⟩)
   rotate_left
   ·have f1:decide (e≠0)=true:=decide_eq_true q0
    rw [pt_escE hl (hch.trans c3) q1] at hP
    (repeat show _∧_;first|refine yr ?_|refine yt ?_|refine yf ?_|refine ya f1 ?_|refine yb f1 ?_|refine yo ?_)
    exact ⟨.tup [.c (.str []),.c (.int .i64 e)],_,⟨[0,1],⟨rfl,rfl,rfl⟩,by (repeat first|exact trivial|refine ent1 ?_)⟩,.inr ⟨e,k',hP.symm,q0,by omega,q3,rfl,rfl⟩⟩
   obtain ⟨hv,hlen⟩:=esc_ok q1
   rw [List.length_drop,List.length_drop] at hlen
   have hel:=enc_len v
   rw [pt_esc hl (hch.trans c3) q1] at hP
   (repeat show _∧_;first|refine yr ?_|refine yt ?_|refine yf ?_|refine yo ?_)
   refine call_same (fn_arune0 hv) [] rfl (by (repeat first|exact trivial|refine ent1 ?_)) trivial (fun _ _=>trivial) ?_
   rintro x hs' ⟨c',r1,rfl,rfl⟩
   refine ⟨(k',some (enc v,c')),[0,1,2],⟨⟨rfl,rfl,rfl⟩,?_⟩,⟨by omega,q3,by omega,r1,f,by omega,hP⟩,by dsimp only; omega⟩
   (repeat first|exact trivial|refine ent1 ?_)
  have e3:decide (ch=92#8)=false:=decide_eq_false c3
  (repeat show _∧_;first|refine yr ?_|refine yt ?_|refine yf ?_|refine ya e1 ?_|refine yb e1 ?_|refine ya e2 ?_|refine yb e2 ?_|refine ya e3 ?_|refine yb e3 ?_|refine yo ?_)
  refine ⟨none,[],[(0,true),(1,true),(2,true),(3,true),(4,true),(5,true),(6,true),(7,true),(8,true),(9,false),(10,true),(11,true),(12,true),(13,true),(14,true)],[],by kernel_rfl,?_⟩
  (repeat show _∧_;first|refine yr ?_|refine yt ?_|refine yf ?_|refine yo ?_)
  refine And.intro ⟨by omega,by rw [U8_len]; omega,by omega⟩ ?_
  have hne:s.drop j≠[]:=by rw [drop_cons s j hl]; exact List.cons_ne_nil _ _
  refine frcN_of (m:=j) (Int.toNat_natCast j) ?_
  refine frcN_of (m:=(U8 s).length) (Int.toNat_natCast _) ?_
  have hsub:((U8 s).drop j).take ((U8 s).length-j)=U8 (s.drop j):=U8_rest s j
  (repeat show _∧_;first|refine yr ?_|refine yt ?_|refine yf ?_|refine yo ?_)
  refine call_same (fn_decode hT hne) [0] rfl (by exact And.intro hsub trivial) (by (repeat first|exact trivial|refine ent1 ?_)) (fun _ _=>trivial) ?_
  rintro x hs' ⟨rfl,rfl⟩
  by_cases c4:(dec (s.drop j)).1=65533∧(dec (s.drop j)).2≤1
  ·have f1:decide (((dec (s.drop j)).1:Int)=65533)=true:=decide_eq_true (by omega)
   have f2:decide (((dec (s.drop j)).2:Int)≤1)=true:=decide_eq_true (by omega)
   rw [pt_bad hl (by rw [hch]; exact c1) (by rw [hch]; exact c2) (by rw [hch]; exact c3) c4] at hP
   (repeat show _∧_;first|refine yr ?_|refine yt ?_|refine yf ?_|refine ya f1 ?_|refine yb f1 ?_|refine ya f2 ?_|refine yb f2 ?_|refine yo ?_)
   exact ⟨.tup [.c (.str []),.c (.int .i64 4)],_,⟨[0,1],⟨rfl,rfl,rfl⟩,by (repeat first|exact trivial|refine ent1 ?_)⟩,.inr ⟨4,j,hP.symm,by decide,by omega,by omega,rfl,rfl⟩⟩
  rw [pt_chr hl (by rw [hch]; exact c1) (by rw [hch]; exact c2) (by rw [hch]; exact c3) c4] at hP
  obtain ⟨d1,d2,d3,d4⟩:=dec_ok hne c4
  rw [List.length_drop] at d4
  obtain ⟨v,hv⟩:∃ v,(dec (s.drop j)).1=v:=⟨_,rfl⟩
  obtain ⟨n,hn⟩:∃ n,(dec (s.drop j)).2=n:=⟨_,rfl⟩
  rw [hv] at c4 d1 d2 d3 ⊢
  rw [hn] at c4 d2 d3 d4 hP ⊢
  rw [d3] at hP
  have hp:=enc_pos v
  have hel:=enc_len v
  by_cases c5:v=65533
  ·have f1:decide ((v:Int)=65533)=true:=decide_eq_true (by omega)
   have f2:decide ((n:Int)≤1)=false:=decide_eq_false (by omega)
   (repeat show _∧_;first|refine yr ?_|refine yt ?_|refine yf ?_|refine ya f1 ?_|refine yb f1 ?_|refine ya f2 ?_|refine yb f2 ?_|refine yo ?_)
   refine ⟨none,[],[(0,true),(1,true),(2,true),(3,true),(4,true),(5,true),(6,true),(7,true),(8,true),(9,true),(10,true),(11,true),(12,true),(13,true),(14,true),(15,true)],[16,17],by kernel_rfl,?_⟩
   (repeat show _∧_;first|refine yr ?_|refine yt ?_|refine yf ?_|refine yo ?_)
   refine And.intro ⟨by omega,by omega,by rw [U8_len]; omega⟩ ?_
   refine frcN_of (m:=j) (Int.toNat_natCast j) ?_
   refine frcN_of (m:=j+n) (by omega) ?_
   have hsub:((U8 s).drop j).take (j+n-j)=U8 (enc v):=by rw [Nat.add_sub_cancel_left,U8_drop,U8_take,d3]
   have hsl:(((U8 s).drop j).take (j+n-j)).length=(enc v).length:=by rw [hsub,U8_len]
   have hrow:∀ i,i<(enc v).length→SC.w8 ((((U8 s).drop j).take (j+n-j)).getD i 0).toBitVec=.w8 (L (enc v) i):=fun i hi=>by rw [hsub]; exact row_U8 i hi
   (repeat show _∧_;first|refine yr ?_|refine yt ?_|refine yf ?_|refine yo ?_)
   refine And.intro (by rw [hsl]; show (enc v).length*1≤140737488355328; omega) ?_
   refine And.intro (fun h=>absurd h (by rw [hsl]; omega)) (fun _=>?_)
   intro c' hc'
   rw [hsl] at hc'
   (repeat show _∧_;first|refine yr ?_|refine yt ?_|refine yf ?_|refine yo ?_)
   refine ⟨(j+n,some (enc v,c')),[0,1,2],⟨⟨rfl,rfl,rfl⟩,?_⟩,⟨by omega,by omega,by omega,hc',f,by omega,hP⟩,by dsimp only; omega⟩
   (repeat first|exact trivial|refine ent1 ?_)
   refine ⟨fun j' hj'=>eqC_bytes (fun i hi=>?_) j',trivial⟩
   rw [hsl]
   exact new_row hrow i hi
  have f1:decide ((v:Int)=65533)=false:=decide_eq_false (by omega)
  (repeat show _∧_;first|refine yr ?_|refine yt ?_|refine yf ?_|refine ya f1 ?_|refine yb f1 ?_|refine yo ?_)
  refine ⟨none,[],[(0,true),(1,true),(2,true),(3,true),(4,true),(5,true),(6,true),(7,true),(8,true),(9,true),(10,true),(11,true),(12,true),(13,true),(14,true),(15,true)],[16,17],by kernel_rfl,?_⟩
  (repeat show _∧_;first|refine yr ?_|refine yt ?_|refine yf ?_|refine yo ?_)
  refine And.intro ⟨by omega,by omega,by rw [U8_len]; omega⟩ ?_
  refine frcN_of (m:=j) (Int.toNat_natCast j) ?_
  refine frcN_of (m:=j+n) (by omega) ?_
  have hsub:((U8 s).drop j).take (j+n-j)=U8 (enc v):=by rw [Nat.add_sub_cancel_left,U8_drop,U8_take,d3]
  have hsl:(((U8 s).drop j).take (j+n-j)).length=(enc v).length:=by rw [hsub,U8_len]
  have hrow:∀ i,i<(enc v).length→SC.w8 ((((U8 s).drop j).take (j+n-j)).getD i 0).toBitVec=.w8 (L (enc v) i):=fun i hi=>by rw [hsub]; exact row_U8 i hi
  (repeat show _∧_;first|refine yr ?_|refine yt ?_|refine yf ?_|refine yo ?_)
  refine And.intro (by rw [hsl]; show (enc v).length*1≤140737488355328; omega) ?_
  refine And.intro (fun h=>absurd h (by rw [hsl]; omega)) (fun _=>?_)
  intro c' hc'
  rw [hsl] at hc'
  (repeat show _∧_;first|refine yr ?_|refine yt ?_|refine yf ?_|refine yo ?_)
  refine ⟨(j+n,some (enc v,c')),[0,1,2],⟨⟨rfl,rfl,rfl⟩,?_⟩,⟨by omega,by omega,by omega,hc',f,by omega,hP⟩,by dsimp only; omega⟩
  (repeat first|exact trivial|refine ent1 ?_)
  refine ⟨fun j' hj'=>eqC_bytes (fun i hi=>?_) j',trivial⟩
  rw [hsl]
  exact new_row hrow i hi
 ·obtain ⟨g1,g2,ga,gc,f,g3,hP⟩:=hx
  dsimp only
  obtain ⟨f,rfl⟩:∃ f',f=f'+1:=⟨f-1,by omega⟩
  refine ⟨none,[],[(0,true),(1,true),(2,true),(3,true),(4,true),(5,true),(6,true),(7,true),(8,true),(9,true)],[],by kernel_rfl,?_⟩
  by_cases hl:j<s.length
  rotate_left
  ·have el:decide ((j:Int)<(((U8 s).length:Nat):Int))=false:=decide_eq_false (by rw [U8_len]; omega)
   (repeat show _∧_;first|refine yr ?_|refine yt ?_|refine yf ?_|refine ya el ?_|refine yb el ?_|refine yo ?_)
   exact ⟨.tup [.c (.str []),.c (.int .i64 3)],_,⟨[0,1],⟨rfl,rfl,rfl⟩,by (repeat first|exact trivial|refine ent1 ?_)⟩,.inr ⟨3,j,by rw [← hP]; exact pt_end (by omega),by decide,by omega,g2,rfl,rfl⟩⟩
  have el:decide ((j:Int)<(((U8 s).length:Nat):Int))=true:=decide_eq_true (by rw [U8_len]; omega)
  (repeat show _∧_;first|refine yr ?_|refine yt ?_|refine yf ?_|refine ya el ?_|refine yb el ?_|refine yo ?_)
  refine ⟨none,[],[(0,true),(1,true),(2,true),(3,true),(4,true),(5,true),(6,true),(7,true),(8,true),(9,true)],[],by kernel_rfl,?_⟩
  (repeat show _∧_;first|refine yr ?_|refine yt ?_|refine yf ?_|refine yo ?_)
  refine And.intro ⟨by omega,by rw [U8_len]; omega⟩ ?_
  rw [show ((U8 s).getD ((j:Int)).toNat 0).toBitVec=L s j from U8_get s j hl]
  obtain ⟨ch,hch⟩:∃ ch,L s j=ch:=⟨_,rfl⟩
  rw [hch]
  by_cases c1:ch=34#8
  ·have e1:decide (ch=34#8)=true:=decide_eq_true c1
   rw [pt_quote hl (hch.trans c1)] at hP
   (repeat show _∧_;first|refine yr ?_|refine yt ?_|refine yf ?_|refine ya e1 ?_|refine yb e1 ?_|refine yo ?_)
   refine And.intro (by simp only [scale]; omega) ?_
   refine ⟨U8 a,⟨U8_len a,fun q hq=>by show bytesF a.length (L a) (q+0)=_; rw [Nat.add_zero,bytesF_lt hq,U8_get a q hq]⟩,?_⟩
   (repeat show _∧_;first|refine yr ?_|refine yt ?_|refine yf ?_|refine yo ?_)
   exact ⟨.tup [.c (.str (U8 a)),.c (.int .i64 0)],_,⟨[0,1],⟨rfl,rfl,rfl⟩,by (repeat first|exact trivial|refine ent1 ?_)⟩,.inl ⟨a,j+1,hP.symm,by omega,by omega,rfl,rfl⟩⟩
  have e1:decide (ch=34#8)=false:=decide_eq_false c1
  by_cases c2:ch.toNat<32
  ·have e2:decide (ch<32#8)=true:=decide_eq_true (by rw [BitVec.lt_def]; exact c2)
   rw [pt_ctl hl (by rw [hch]; exact c1) (by rw [hch]; exact c2)] at hP
   (repeat show _∧_;first|refine yr ?_|refine yt ?_|refine yf ?_|refine ya e1 ?_|refine yb e1 ?_|refine ya e2 ?_|refine yb e2 ?_|refine yo ?_)
   exact ⟨.tup [.c (.str []),.c (.int .i64 4)],_,⟨[0,1],⟨rfl,rfl,rfl⟩,by (repeat first|exact trivial|refine ent1 ?_)⟩,.inr ⟨4,j,hP.symm,by decide,by omega,by omega,rfl,rfl⟩⟩
  have e2:decide (ch<32#8)=false:=decide_eq_false (by rw [BitVec.lt_def]; exact c2)
  by_cases c3:ch=92#8
  ·have e3:decide (ch=92#8)=true:=decide_eq_true c3
   (repeat show _∧_;first|refine yr ?_|refine yt ?_|refine yf ?_|refine ya e1 ?_|refine yb e1 ?_|refine ya e2 ?_|refine yb e2 ?_|refine ya e3 ?_|refine yb e3 ?_|refine yo ?_)
   refine call_same (fn_escape s j hl hs) [1] rfl (by (repeat first|exact trivial|refine ent1 ?_)) (by (repeat first|exact trivial|refine ent1 ?_)) (fun _ _=>trivial) ?_
   rintro x hs' (⟨v,k',q1,q2,q3,rfl,rfl⟩|⟨e,v,k',q1,q0,q2,q3,rfl,rfl⟩)
   rotate_left
   ·have f1:decide (e≠0)=true:=decide_eq_true q0
    rw [pt_escE hl (hch.trans c3) q1] at hP
    (repeat show _∧_;first|refine yr ?_|refine yt ?_|refine yf ?_|refine ya f1 ?_|refine yb f1 ?_|refine yo ?_)
    exact ⟨.tup [.c (.str []),.c (.int .i64 e)],_,⟨[0,1],⟨rfl,rfl,rfl⟩,by (repeat first|exact trivial|refine ent1 ?_)⟩,.inr ⟨e,k',hP.symm,q0,by omega,q3,rfl,rfl⟩⟩
   obtain ⟨hv,hlen⟩:=esc_ok q1
   rw [List.length_drop,List.length_drop] at hlen
   have hel:=enc_len v
   rw [pt_esc hl (hch.trans c3) q1] at hP
   (repeat show _∧_;first|refine yr ?_|refine yt ?_|refine yf ?_|refine yo ?_)
   refine call_same (fn_arune a c (by omega) gc hv) [2] rfl (by (repeat first|exact trivial|refine ent1 ?_)) (by (repeat first|exact trivial|refine ent1 ?_)) (fun _ _=>trivial) ?_
   rintro x hs' ⟨c',r1,rfl,rfl⟩
   refine ⟨(k',some (a++enc v,c')),[0,1,3],⟨⟨rfl,rfl,rfl⟩,?_⟩,⟨by omega,q3,by rw [List.length_append]; omega,r1,f,by omega,hP⟩,by dsimp only; omega⟩
   (repeat first|exact trivial|refine ent1 ?_)
  have e3:decide (ch=92#8)=false:=decide_eq_false c3
  (repeat show _∧_;first|refine yr ?_|refine yt ?_|refine yf ?_|refine ya e1 ?_|refine yb e1 ?_|refine ya e2 ?_|refine yb e2 ?_|refine ya e3 ?_|refine yb e3 ?_|refine yo ?_)
  refine ⟨none,[],[(0,true),(1,true),(2,true),(3,true),(4,true),(5,true),(6,true),(7,true),(8,true),(9,false),(10,true),(11,true),(12,true),(13,true),(14,true)],[],by kernel_rfl,?_⟩
  (repeat show _∧_;first|refine yr ?_|refine yt ?_|refine yf ?_|refine yo ?_)
  refine And.intro ⟨by omega,by rw [U8_len]; omega,by omega⟩ ?_
  have hne:s.drop j≠[]:=by rw [drop_cons s j hl]; exact List.cons_ne_nil _ _
  refine frcN_of (m:=j) (Int.toNat_natCast j) ?_
  refine frcN_of (m:=(U8 s).length) (Int.toNat_natCast _) ?_
  have hsub:((U8 s).drop j).take ((U8 s).length-j)=U8 (s.drop j):=U8_rest s j
  (repeat show _∧_;first|refine yr ?_|refine yt ?_|refine yf ?_|refine yo ?_)
  refine call_same (fn_decode hT hne) [0] rfl (by exact And.intro hsub trivial) (by (repeat first|exact trivial|refine ent1 ?_)) (fun _ _=>trivial) ?_
  rintro x hs' ⟨rfl,rfl⟩
  by_cases c4:(dec (s.drop j)).1=65533∧(dec (s.drop j)).2≤1
  ·have f1:decide (((dec (s.drop j)).1:Int)=65533)=true:=decide_eq_true (by omega)
   have f2:decide (((dec (s.drop j)).2:Int)≤1)=true:=decide_eq_true (by omega)
   rw [pt_bad hl (by rw [hch]; exact c1) (by rw [hch]; exact c2) (by rw [hch]; exact c3) c4] at hP
   (repeat show _∧_;first|refine yr ?_|refine yt ?_|refine yf ?_|refine ya f1 ?_|refine yb f1 ?_|refine ya f2 ?_|refine yb f2 ?_|refine yo ?_)
   exact ⟨.tup [.c (.str []),.c (.int .i64 4)],_,⟨[0,1],⟨rfl,rfl,rfl⟩,by (repeat first|exact trivial|refine ent1 ?_)⟩,.inr ⟨4,j,hP.symm,by decide,by omega,by omega,rfl,rfl⟩⟩
  rw [pt_chr hl (by rw [hch]; exact c1) (by rw [hch]; exact c2) (by rw [hch]; exact c3) c4] at hP
  obtain ⟨d1,d2,d3,d4⟩:=dec_ok hne c4
  rw [List.length_drop] at d4
  obtain ⟨v,hv⟩:∃ v,(dec (s.drop j)).1=v:=⟨_,rfl⟩
  obtain ⟨n,hn⟩:∃ n,(dec (s.drop j)).2=n:=⟨_,rfl⟩
  rw [hv] at c4 d1 d2 d3 ⊢
  rw [hn] at c4 d2 d3 d4 hP ⊢
  rw [d3] at hP
  have hp:=enc_pos v
  have hel:=enc_len v
  by_cases c5:v=65533
  ·have f1:decide ((v:Int)=65533)=true:=decide_eq_true (by omega)
   have f2:decide ((n:Int)≤1)=false:=decide_eq_false (by omega)
   (repeat show _∧_;first|refine yr ?_|refine yt ?_|refine yf ?_|refine ya f1 ?_|refine yb f1 ?_|refine ya f2 ?_|refine yb f2 ?_|refine yo ?_)
   refine ⟨none,[],[(0,true),(1,true),(2,true),(3,true),(4,true),(5,true),(6,true),(7,true),(8,true),(9,true),(10,true),(11,true),(12,true),(13,true),(14,true),(15,true)],[16,17],by kernel_rfl,?_⟩
   (repeat show _∧_;first|refine yr ?_|refine yt ?_|refine yf ?_|refine yo ?_)
   refine And.intro ⟨by omega,by omega,by rw [U8_len]; omega⟩ ?_
   refine frcN_of (m:=j) (Int.toNat_natCast j) ?_
   refine frcN_of (m:=j+n) (by omega) ?_
   have hsub:((U8 s).drop j).take (j+n-j)=U8 (enc v):=by rw [Nat.add_sub_cancel_left,U8_drop,U8_take,d3]
   have hsl:(((U8 s).drop j).take (j+n-j)).length=(enc v).length:=by rw [hsub,U8_len]
   have hrow:∀ i,i<(enc v).length→SC.w8 ((((U8 s).drop j).take (j+n-j)).getD i 0).toBitVec=.w8 (L (enc v) i):=fun i hi=>by rw [hsub]; exact row_U8 i hi
   (repeat show _∧_;first|refine yr ?_|refine yt ?_|refine yf ?_|refine yo ?_)
   refine And.intro ⟨gc,by simp only [scale]; omega,by rw [hsl]; show (a.length+(enc v).length)*1≤140737488355328; omega⟩ ?_
   intro c' hc'
   rw [hsl] at hc'
   (repeat show _∧_;first|refine yr ?_|refine yt ?_|refine yf ?_|refine yo ?_)
   refine ⟨(j+n,some (a++enc v,c')),[0,1,3],⟨⟨rfl,rfl,rfl⟩,?_⟩,⟨by omega,by omega,by rw [List.length_append]; omega,by rw [List.length_append]; exact hc',f,by omega,hP⟩,by dsimp only; omega⟩
   (repeat first|exact trivial|refine ent1 ?_)
   refine And.intro (by rw [hsl,List.length_append]) ?_
   (repeat first|exact trivial|refine ent1 ?_)
   refine ⟨fun j' hj'=>eqC_bytes (fun i hi=>?_) j',trivial⟩
   rw [hsl]
   exact app_row (l:=a) rfl rfl (fun i hi=>bytesF_lt hi) hrow i (by rw [← List.length_append]; exact hi)
  have f1:decide ((v:Int)=65533)=false:=decide_eq_false (by omega)
  (repeat show _∧_;first|refine yr ?_|refine yt ?_|refine yf ?_|refine ya f1 ?_|refine yb f1 ?_|refine yo ?_)
  refine ⟨none,[],[(0,true),(1,true),(2,true),(3,true),(4,true),(5,true),(6,true),(7,true),(8,true),(9,true),(10,true),(11,true),(12,true),(13,true),(14,true),(15,true)],[16,17],by kernel_rfl,?_⟩
  (repeat show _∧_;first|refine yr ?_|refine yt ?_|refine yf ?_|refine yo ?_)
  refine And.intro ⟨by omega,by omega,by rw [U8_len]; omega⟩ ?_
  refine frcN_of (m:=j) (Int.toNat_natCast j) ?_
  refine frcN_of (m:=j+n) (by omega) ?_
  have hsub:((U8 s).drop j).take (j+n-j)=U8 (enc v):=by rw [Nat.add_sub_cancel_left,U8_drop,U8_take,d3]
  have hsl:(((U8 s).drop j).take (j+n-j)).length=(enc v).length:=by rw [hsub,U8_len]
  have hrow:∀ i,i<(enc v).length→SC.w8 ((((U8 s).drop j).take (j+n-j)).getD i 0).toBitVec=.w8 (L (enc v) i):=fun i hi=>by rw [hsub]; exact row_U8 i hi
  (repeat show _∧_;first|refine yr ?_|refine yt ?_|refine yf ?_|refine yo ?_)
  refine And.intro ⟨gc,by simp only [scale]; omega,by rw [hsl]; show (a.length+(enc v).length)*1≤140737488355328; omega⟩ ?_
  intro c' hc'
  rw [hsl] at hc'
  (repeat show _∧_;first|refine yr ?_|refine yt ?_|refine yf ?_|refine yo ?_)
  refine ⟨(j+n,some (a++enc v,c')),[0,1,3],⟨⟨rfl,rfl,rfl⟩,?_⟩,⟨by omega,by omega,by rw [List.length_append]; omega,by rw [List.length_append]; exact hc',f,by omega,hP⟩,by dsimp only; omega⟩
  (repeat first|exact trivial|refine ent1 ?_)
  refine And.intro (by rw [hsl,List.length_append]) ?_
  (repeat first|exact trivial|refine ent1 ?_)
  refine ⟨fun j' hj'=>eqC_bytes (fun i hi=>?_) j',trivial⟩
  rw [hsl]
  exact app_row (l:=a) rfl rfl (fun i hi=>bytesF_lt hi) hrow i (by rw [← List.length_append]; exact hi)
end Sx
end
section
namespace Sx
open Go.RowKit Sha Vi Js

theorem dig_nd {u:Nat} (h:u<18446744073709551616):(dig u).length=Lib.nDigits u:=by
 rw [← Lib.decDigits_length,dig_dec h,U8_len]
theorem dig_le {u:Nat} (h:u<18446744073709551616):(dig u).length≤20:=digs_len 20 u 20 (Nat.lt_of_lt_of_le h (by decide)) (by decide)
theorem dig_pos (u:Nat):1≤(dig u).length:=by
 have:=digs_ne 20 u (by decide)
 unfold dig
 cases h:digs 20 u with
 | nil=>exact absurd h this
 | cons a l=>simp
theorem dig_at {u:Nat} (h:u<18446744073709551616) (d:Nat→SC) (i:Nat) (hi:i<(dig u).length):fmtF (dig u).length u d i=.w8 (L (dig u) i):=by
 have e:=dig_dec h
 rw [Lib.decDigits_eq,← dig_nd h] at e
 have e2:((U8 (dig u)).getD i 0).toBitVec=L (dig u) i:=U8_get _ i hi
 rw [← e2,← e]
 unfold fmtF
 rw [if_pos hi,List.getD_eq_getElem?_getD,List.getElem?_map,List.getElem?_range hi,Option.map_some,Option.getD_some]
 congr 1
theorem fn_small {i:Nat} (h:i<100):Fn Tryd.prog tds 83 [] [.c (.int .i64 (i:Int))] (fun _=>True) (fun y hs=>y=.a (.c (.str (U8 (dig i))))∧hs=[]) :=
 FnR.ofCalls fun w r0 vs ok ha _=>by
  obtain ⟨v,rfl,hv⟩:=ha.one
  obtain rfl:v=.int .i64 (i:Int):=hv
  refine (Tryd.internal_strconv_small i h w).mono ?_
  rintro e w' ⟨rfl,rfl⟩
  exact ⟨_,.a (.c (.str (U8 (dig i)))),rfl,by rw [dig_dec (by omega)]; rfl,Below.refl _ _,rfl,rfl⟩
set_option maxRecDepth 20000 in
set_option maxHeartbeats 8000000 in
theorem fn_iuint0 {W:World} {ms:List Nat} (hT:Tabs W ms) (u:BitVec 64):FnR Tryd.prog tds 76 1 [[.past W ms]] [.c (.slc none 0 0),.c (.w64 u),.c (.int .i64 10)] (fun _=>True)
  (fun x hs=>∃ c',(dig u.toNat).length≤c'∧x=.a (.c (.sl 1 0 0 (dig u.toNat).length c'))∧hs=[[.past W ms],lsC (dig u.toNat) c']):=by
 refine fn_of_body tds_ok follows_ Tryd.func76 rfl (t:=.a (.c (.slc none 0 0))::.a (.c (.w64 u))::.a (.c (.int .i64 10))::anys (Tryd.f76.ntmps-3)) rfl (fun w r0 hr _=>?_)
 obtain ⟨x0,rfl⟩:=len1' hr
 have e1:decide ((10:Int)=10)=true:=rfl
 by_cases h1:u.toNat<100
 ·have e2:decide (u<100#64)=true:=decide_eq_true (by rw [BitVec.lt_def]; exact h1)
  (repeat show _∧_;first|refine yr ?_|refine yt ?_|refine yf ?_|refine ya e1 ?_|refine yb e1 ?_|refine ya e2 ?_|refine yb e2 ?_|refine yo ?_)
  refine call_same (fn_small h1) [] rfl (by exact And.intro rfl trivial) trivial (fun _ _=>trivial) ?_
  rintro y hs ⟨rfl,rfl⟩
  have hl:(U8 (dig u.toNat)).length=(dig u.toNat).length:=U8_len _
  have h20:=dig_le u.isLt
  have h01:=dig_pos u.toNat
  (repeat show _∧_;first|refine yr ?_|refine yt ?_|refine yf ?_|refine yo ?_)
  refine And.intro (by rw [hl]; show _*1≤_; omega) ?_
  refine And.intro (fun hz=>absurd (hl.symm.trans hz) (by omega)) (fun _=>?_)
  intro c' hc'
  refine ⟨.a (.c (.sl 1 0 0 (dig u.toNat).length c')),_,⟨[0,1],⟨rfl,rfl,rfl⟩,?_⟩,c',by rw [← hl]; exact hc',rfl,rfl⟩
  (repeat first|exact trivial|refine ent1 ?_)
  refine ⟨fun j' hj'=>eqC_bytes (fun i hi=>?_) j',by (repeat first|exact trivial|refine ent1 ?_)⟩
  exact new_row (m:=dig u.toNat) (fun i hi=>row_U8 i (by rw [← hl]; exact hi)) i (by rw [hl]; exact hi)
 ·have e2:decide (u<100#64)=false:=decide_eq_false (by rw [BitVec.lt_def]; exact h1)
  (repeat show _∧_;first|refine yr ?_|refine yt ?_|refine yf ?_|refine ya e1 ?_|refine yb e1 ?_|refine ya e2 ?_|refine yb e2 ?_|refine yo ?_)
  refine call_same (fn_numDigits hT u (by omega)) [0] rfl (by exact And.intro rfl trivial) (by (repeat first|exact trivial|refine ent1 ?_)) (fun _ _=>trivial) ?_
  rintro y hs ⟨rfl,rfl⟩
  have h20:=dig_le u.isLt
  have h01:=dig_pos u.toNat
  rw [← dig_nd u.isLt]
  dsimp only
  (repeat show _∧_;first|refine yr ?_|refine yt ?_|refine yf ?_|refine yo ?_)
  refine call_same (fn_fmt (n:=(dig u.toNat).length) (N:=24) (u:=u) (by rw [dig_nd u.isLt]; exact Lib.lt_pow_nDigits _) (by omega) (by omega) (fun _=>.w8 0#8) (fun i _=>⟨_,rfl⟩)) [1] rfl (by exact And.intro rfl (And.intro rfl (And.intro rfl (And.intro rfl trivial)))) (by (repeat first|exact trivial|refine ent1 ?_)) (fun _ _=>trivial) ?_
  rintro y hs ⟨rfl,rfl⟩
  (repeat show _∧_;first|refine yr ?_|refine yt ?_|refine yf ?_|refine yo ?_)
  refine frcN_of (m:=0) rfl ?_
  refine frcN_of (m:=(dig u.toNat).length) (Int.toNat_natCast _) ?_
  dsimp only
  refine frcN_of (m:=0) rfl ?_
  refine frcN_of (m:=(dig u.toNat).length) rfl ?_
  refine frcN_of (m:=24) rfl ?_
  (repeat show _∧_;first|refine yr ?_|refine yt ?_|refine yf ?_|refine yo ?_)
  refine And.intro (show 0+scale (dig u.toNat).length (0+1)≤24 by simp only [scale]; omega) ?_
  refine And.intro ⟨rfl,rfl⟩ ?_
  refine And.intro (by show _*1≤_; omega) ?_
  refine And.intro (fun hz=>absurd hz (by omega)) (fun _=>?_)
  intro c' hc'
  refine ⟨.a (.c (.sl 1 0 0 (dig u.toNat).length c')),_,⟨[0,2],⟨rfl,rfl,rfl⟩,?_⟩,c',hc',rfl,rfl⟩
  (repeat first|exact trivial|refine ent1 ?_)
  refine ⟨fun j' hj'=>eqC_bytes (fun i hi=>?_) j',by (repeat first|exact trivial|refine ent1 ?_)⟩
  exact new_row (m:=dig u.toNat) (fun i hi=>congrArg (SC.mp (bk 2 [1])) (dig_at u.isLt (fun _=>.w8 0#8) i hi)) i hi
set_option maxRecDepth 20000 in
set_option maxHeartbeats 8000000 in
theorem fn_iuint {W:World} {ms:List Nat} (hT:Tabs W ms) (b:Bs) (c:Nat) (hb:b.length≤70368744177664) (hc:b.length≤c) (u:BitVec 64):FnR Tryd.prog tds 76 1 [[.past W ms],lsC b c] [.c (.sl 1 0 0 b.length c),.c (.w64 u),.c (.int .i64 10)] (fun _=>True)
  (fun x hs=>∃ c',(b++dig u.toNat).length≤c'∧x=.a (.c (.sl 2 0 0 (b++dig u.toNat).length c'))∧hs=[[.past W ms],[],lsC (b++dig u.toNat) c']):=by
 refine fn_of_body tds_ok follows_ Tryd.func76 rfl (t:=.a (.c (.sl 1 0 0 b.length c))::.a (.c (.w64 u))::.a (.c (.int .i64 10))::anys (Tryd.f76.ntmps-3)) rfl (fun w r0 hr _=>?_)
 obtain ⟨x0,x1,rfl⟩:=len2' hr
 have e1:decide ((10:Int)=10)=true:=rfl
 by_cases h1:u.toNat<100
 ·have e2:decide (u<100#64)=true:=decide_eq_true (by rw [BitVec.lt_def]; exact h1)
  (repeat show _∧_;first|refine yr ?_|refine yt ?_|refine yf ?_|refine ya e1 ?_|refine yb e1 ?_|refine ya e2 ?_|refine yb e2 ?_|refine yo ?_)
  refine call_same (fn_small h1) [] rfl (by exact And.intro rfl trivial) trivial (fun _ _=>trivial) ?_
  rintro y hs ⟨rfl,rfl⟩
  have hl:(U8 (dig u.toNat)).length=(dig u.toNat).length:=U8_len _
  have h20:=dig_le u.isLt
  have h01:=dig_pos u.toNat
  (repeat show _∧_;first|refine yr ?_|refine yt ?_|refine yf ?_|refine yo ?_)
  refine And.intro ⟨by omega,by simp only [scale]; omega,by rw [hl]; show (b.length+(dig u.toNat).length)*1≤140737488355328; omega⟩ ?_
  intro c' hc'
  refine ⟨.a (.c (.sl 2 0 0 (b++dig u.toNat).length c')),_,⟨[0,1,2],⟨rfl,rfl,rfl⟩,?_⟩,c',by rw [List.length_append,← hl]; exact hc',rfl,rfl⟩
  (repeat first|exact trivial|refine ent1 ?_)
  refine And.intro (by rw [List.length_append,hl]) ?_
  (repeat first|exact trivial|refine ent1 ?_)
  refine ⟨fun j' hj'=>eqC_bytes (fun i hi=>?_) j',by (repeat first|exact trivial|refine ent1 ?_)⟩
  have hi':i<b.length+(dig u.toNat).length:=by rw [List.length_append] at hi; exact hi
  rw [hl]
  refine app_row (l:=b) (n:=b.length) (k:=(dig u.toNat).length) rfl rfl (fun i hi=>bytesF_lt hi) (fun i hi=>row_U8 i hi) i hi'
 ·have e2:decide (u<100#64)=false:=decide_eq_false (by rw [BitVec.lt_def]; exact h1)
  (repeat show _∧_;first|refine yr ?_|refine yt ?_|refine yf ?_|refine ya e1 ?_|refine yb e1 ?_|refine ya e2 ?_|refine yb e2 ?_|refine yo ?_)
  refine call_same (fn_numDigits hT u (by omega)) [0] rfl (by exact And.intro rfl trivial) (by (repeat first|exact trivial|refine ent1 ?_)) (fun _ _=>trivial) ?_
  rintro y hs ⟨rfl,rfl⟩
  have h20:=dig_le u.isLt
  have h01:=dig_pos u.toNat
  rw [← dig_nd u.isLt]
  dsimp only
  (repeat show _∧_;first|refine yr ?_|refine yt ?_|refine yf ?_|refine yo ?_)
  refine call_same (fn_fmt (n:=(dig u.toNat).length) (N:=24) (u:=u) (by rw [dig_nd u.isLt]; exact Lib.lt_pow_nDigits _) (by omega) (by omega) (fun _=>.w8 0#8) (fun i _=>⟨_,rfl⟩)) [2] rfl (by exact And.intro rfl (And.intro rfl (And.intro rfl (And.intro rfl trivial)))) (by (repeat first|exact trivial|refine ent1 ?_)) (fun _ _=>trivial) ?_
  rintro y hs ⟨rfl,rfl⟩
  (repeat show _∧_;first|refine yr ?_|refine yt ?_|refine yf ?_|refine yo ?_)
  refine frcN_of (m:=0) rfl ?_
  refine frcN_of (m:=(dig u.toNat).length) (Int.toNat_natCast _) ?_
  dsimp only
  refine frcN_of (m:=0) rfl ?_
  refine frcN_of (m:=(dig u.toNat).length) rfl ?_
  refine frcN_of (m:=24) rfl ?_
  (repeat show _∧_;first|refine yr ?_|refine yt ?_|refine yf ?_|refine yo ?_)
  refine And.intro (show 0+scale (dig u.toNat).length (0+1)≤24 by simp only [scale]; omega) ?_
  refine And.intro ⟨by omega,by simp only [scale]; omega,by show (b.length+(dig u.toNat).length)*1≤140737488355328; omega⟩ ?_
  intro c' hc'
  refine ⟨.a (.c (.sl 2 0 0 (b++dig u.toNat).length c')),_,⟨[0,1,3],⟨rfl,rfl,rfl⟩,?_⟩,c',by rw [List.length_append]; exact hc',rfl,rfl⟩
  (repeat first|exact trivial|refine ent1 ?_)
  refine And.intro (by rw [List.length_append]) ?_
  (repeat first|exact trivial|refine ent1 ?_)
  refine ⟨fun j' hj'=>eqC_bytes (fun i hi=>?_) j',by (repeat first|exact trivial|refine ent1 ?_)⟩
  have hi':i<b.length+(dig u.toNat).length:=by rw [List.length_append] at hi; exact hi
  refine app_row (l:=b) (n:=b.length) (k:=(dig u.toNat).length) rfl rfl (fun i hi=>bytesF_lt hi) (fun i hi=>congrArg (SC.mp (bk 3 [2])) (dig_at u.isLt (fun _=>.w8 0#8) i hi)) i hi'
set_option maxRecDepth 20000 in
theorem fn_uint0 {W:World} {ms:List Nat} (hT:Tabs W ms) (u:BitVec 64):FnR Tryd.prog tds 62 1 [[.past W ms]] [.c (.slc none 0 0),.c (.w64 u),.c (.int .i64 10)] (fun _=>True)
  (fun x hs=>∃ c',(dig u.toNat).length≤c'∧x=.a (.c (.sl 1 0 0 (dig u.toNat).length c'))∧hs=[[.past W ms],lsC (dig u.toNat) c']):=by
 refine fn_of_body tds_ok follows_ Tryd.func62 rfl (t:=.a (.c (.slc none 0 0))::.a (.c (.w64 u))::.a (.c (.int .i64 10))::anys (Tryd.f62.ntmps-3)) rfl (fun w r0 hr _=>?_)
 obtain ⟨x0,rfl⟩:=len1' hr
 (repeat show _∧_;first|refine yr ?_|refine yt ?_|refine yf ?_|refine yo ?_)
 refine call_same (fn_iuint0 hT u) [0] rfl (by exact And.intro rfl (And.intro rfl (And.intro rfl trivial))) (by (repeat first|exact trivial|refine ent1 ?_)) (fun _ _=>trivial) ?_
 rintro y hs ⟨c',hc',rfl,rfl⟩
 (repeat show _∧_;first|refine yr ?_|refine yt ?_|refine yf ?_|refine yo ?_)
 exact ⟨.a (.c (.sl 1 0 0 (dig u.toNat).length c')),_,⟨[0,1],⟨rfl,rfl,rfl⟩,by (repeat first|exact trivial|refine ent1 ?_)⟩,c',hc',rfl,rfl⟩
set_option maxRecDepth 20000 in
theorem fn_uint {W:World} {ms:List Nat} (hT:Tabs W ms) (b:Bs) (c:Nat) (hb:b.length≤70368744177664) (hc:b.length≤c) (u:BitVec 64):FnR Tryd.prog tds 62 1 [[.past W ms],lsC b c] [.c (.sl 1 0 0 b.length c),.c (.w64 u),.c (.int .i64 10)] (fun _=>True)
  (fun x hs=>∃ c',(b++dig u.toNat).length≤c'∧x=.a (.c (.sl 2 0 0 (b++dig u.toNat).length c'))∧hs=[[.past W ms],[],lsC (b++dig u.toNat) c']):=by
 refine fn_of_body tds_ok follows_ Tryd.func62 rfl (t:=.a (.c (.sl 1 0 0 b.length c))::.a (.c (.w64 u))::.a (.c (.int .i64 10))::anys (Tryd.f62.ntmps-3)) rfl (fun w r0 hr _=>?_)
 obtain ⟨x0,x1,rfl⟩:=len2' hr
 (repeat show _∧_;first|refine yr ?_|refine yt ?_|refine yf ?_|refine yo ?_)
 refine call_same (fn_iuint hT b c hb hc u) [0,1] rfl (by exact And.intro rfl (And.intro rfl (And.intro rfl (And.intro rfl (And.intro rfl trivial))))) (by (repeat first|exact trivial|refine ent1 ?_)) (fun _ _=>trivial) ?_
 rintro y hs ⟨c',hc',rfl,rfl⟩
 (repeat show _∧_;first|refine yr ?_|refine yt ?_|refine yf ?_|refine yo ?_)
 exact ⟨.a (.c (.sl 2 0 0 (b++dig u.toNat).length c')),_,⟨[0,1,2],⟨rfl,rfl,rfl⟩,by (repeat first|exact trivial|refine ent1 ?_)⟩,c',hc',rfl,rfl⟩
end Sx
end
section
namespace Sx
open Go.RowKit Sha Vi Js

theorem sc5 (n:Nat):scale n (4+1)=n*5:=scale_eq _ _
theorem sc1 (n:Nat):scale n (0+1)=n:=by rw [scale_eq]; omega
theorem nthJ_get {l:List SC} {j:Nat} (h:j<l.length):l[j]?=some (nthC l j):=by
 obtain ⟨x,hx⟩:∃ x,l[j]?=some x:=⟨_,List.getElem?_eq_getElem h⟩
 rw [hx,nthC_get? hx]
theorem nthJ_l {l m:List SC} {j:Nat} (h:j<l.length):nthC (l++m) j=nthC l j:=nthC_get? (by
 rw [List.getElem?_append_left h]; exact nthJ_get h)
theorem nthJ_r {l m:List SC} {j:Nat} (h:l.length≤j):nthC (l++m) j=nthC m (j-l.length):=by
 induction l generalizing j with
 | nil=>rfl
 | cons x l ih=>cases j with
  | zero=>simp at h
  | succ j=>rw [List.cons_append,nthC,ih (by simpa using h)]; simp
theorem nthJ_mem {l:List SC} {j:Nat} (h:j<l.length):nthC l j∈l:=List.mem_of_getElem? (nthJ_get h)
theorem nthJ_out:∀ {l:List SC} {j:Nat},l.length≤j→nthC l j=.any
 | [],_,_=>rfl
 | x::l,0,h=>by simp at h
 | x::l,j+1,h=>nthJ_out (l:=l) (by simpa using h)
theorem eqJ_raw {q:List Nat} {x:SC} (h:x.raw=x):eqC q x x True:=by
 cases x with
 | int k b=>cases k <;> exact ⟨rfl,trivial⟩
 | _=>first|exact ⟨rfl,trivial⟩|trivial|(simp only [SC.raw] at h; cases h)
theorem eqJ_cs {q:List Nat} {cs:List SC} (h:∀ x∈cs,x.raw=x) {f:Nat→SC} (hf:∀ j,j<cs.length→f j=nthC cs j) (j:Nat):eqC q (f j) (nthC cs j) True:=by
 rcases Nat.lt_or_ge j cs.length with hj|hj
 ·rw [hf j hj]; exact eqJ_raw (h _ (nthJ_mem hj))
 ·rw [nthJ_out hj]; trivial
theorem mpJ_raw {g:Nat→Nat} {x:SC} (h:x.raw=x):SC.mp g x=x:=by
 cases x <;> simp only [SC.raw] at h <;> first|rfl|cases h
theorem eqJ_csM {q:List Nat} {g:Nat→Nat} {cs:List SC} (h:∀ x∈cs,x.raw=x) (j:Nat):eqC q (SC.mp g (nthC cs j)) (nthC cs j) True :=
 eqJ_cs (f:=fun j=>SC.mp g (nthC cs j)) h (fun j hj=>mpJ_raw (h _ (nthJ_mem hj))) j
theorem appJ_cs {cs new:List SC} {n m sz:Nat} {f g:Nat→SC} (hn:cs.length=n*(sz+1)) (hf:∀ j,j<cs.length→f j=nthC cs j) (hw:new.length=m*(sz+1)) (hg:∀ j,j<new.length→g j=nthC new j) (j:Nat) (hj:j<(cs++new).length):appF f 0 (scale n (sz+1)) (scale m (sz+1)) g j=nthC (cs++new) j:=by
 rw [List.length_append] at hj
 unfold appF
 rw [scale_eq,scale_eq,← hn,← hw]
 by_cases h:j<cs.length
 ·rw [if_pos h,Nat.add_zero,hf j h,nthJ_l h]
 ·rw [if_neg h,if_pos hj,hg _ (by omega),nthJ_r (by omega)]
theorem newJ_cs {new:List SC} {m sz:Nat} {g:Nat→SC} (hw:new.length=m*(sz+1)) (hg:∀ j,j<new.length→g j=nthC new j) (j:Nat) (hj:j<new.length):newF (scale m (sz+1)) g j=nthC new j:=by
 rw [newF_lt (by rw [scale_eq,← hw]; exact hj),hg j hj]
theorem updJ_new {f:Nat→SC} {new:List SC} {m j:Nat} (hj:j<m):updN f 0 m (nthC new) (j+0)=nthC new j:=by
 unfold updN
 rw [if_pos ⟨Nat.zero_le _,by omega⟩]; rfl
theorem rzJ_raw {F:Nat→Bool} {α:Nat→Addr} {x:SC} (h:x.raw=x):(x.rz F α).raw=x:=by
 cases x <;> simp only [SC.raw] at h <;> first|rfl|cases h
theorem RowJ.frz {W0 W:World} {ms0 ms:List Nat} {A:Addr} {F:Nat→Bool} {α:Nat→Addr} {n c d:Nat} {cs:List SC} {l:List JT} {g:Nat→SC} (k:RowJ W0 ms0 d cs l) (hL:Later W0 ms0 W ms) (hg:∀ j,j<cs.length→g j=nthC cs j)
  (h:flat [.row (scale c (4+1)) g]≠[]→ImAt W ms A (((flat [.row (scale c (4+1)) g]).map (SC.rz F α)).map SC.raw)∧(marksOk=false→Unm W ms A)) (hmk:marksOk=false) (hn:l.length=n) (hc:n≤c) (hcap:n≤9223372036854775807) :
  l.length=n∧n≤c∧n≤9223372036854775807∧(some (A.add (0+0))=none→c=0)∧∀ B,some (A.add (0+0))=some B→n≠0→Unm W ms B∧∀ j e,l[j]?=some e→∃ y,ImAt W ms (B.add (j*5)) (flat (jvS e y))∧TAt W ms d e y:=by
 refine ⟨hn,hc,hcap,(fun e=>by cases e),fun B hB hn0=>?_⟩
 injection hB with hB
 subst hB
 have hne:flat [.row (scale c (4+1)) g]≠[]:=by
  intro e
  have:=congrArg List.length e
  simp [flat,sc5] at this
  omega
 obtain ⟨h1,h2⟩:=h hne
 rw [show A.add (0+0)=A from h1.zero]
 refine ⟨h2 hmk,fun j e he=>?_⟩
 obtain ⟨x,x1,x2⟩:=k.elt j e he
 have hj:j<n:=by rw [← hn]; exact (List.getElem?_eq_some_iff.1 he).1
 refine ⟨x,h1.part (j*5) fun i y hy=>?_,x2.later hL⟩
 have hi:i<5:=(List.getElem?_eq_some_iff.1 hy).1
 have hcs:=x1 i y hy
 have hlen:=k.len
 have hjn:j*5+i<scale c (4+1):=by rw [sc5]; omega
 rw [List.getElem?_map,List.getElem?_map]
 simp only [flat,List.append_nil,List.getElem?_map,List.getElem?_range hjn,Option.map_some]
 have hraw:=k.raw y (List.mem_of_getElem? hcs)
 rw [hg _ ((List.getElem?_eq_some_iff.1 hcs).1),nthC_get? hcs,rzJ_raw hraw]
theorem strs_frz {W:World} {ms:List Nat} {A:Addr} {F:Nat→Bool} {α:Nat→Addr} {n c:Nat} {l:List (List UInt8)} {g:Nat→SC} (hg:∀ j,j<(l.map SC.str).length→g j=nthC (l.map SC.str) j) (h:flat [.row (scale c (0+1)) g]≠[]→ImAt W ms A (((flat [.row (scale c (0+1)) g]).map (SC.rz F α)).map SC.raw)) (hn:l.length=n) (hc:n≤c) (hcap:n≤9223372036854775807):StAt W ms (some (A.add (0+0))) n c l :=
 SlAt.frz h rfl hc hcap (by decide) (by rw [List.length_map,hn]; omega) (fun j x e=>by rw [hg j ((List.getElem?_eq_some_iff.1 e).1),nthC_get? e]) (rz_str l)
end Sx
end
section
namespace Js
open Sha
theorem qr_sign {r:Nat} (h:r=34∨r=92):qr r=[92#8,BitVec.ofInt 8 (r:Int)]:=by
 unfold qr; rw [if_pos h,BitVec.ofInt_natCast]; rfl
theorem qr_n:qr 10=[92#8,110#8]:=rfl
theorem qr_t:qr 9=[92#8,116#8]:=rfl
theorem qr_r:qr 13=[92#8,114#8]:=rfl
def hexS:List UInt8:=[48,49,50,51,52,53,54,55,56,57,97,98,99,100,101,102]
theorem qr_ctl {r:Nat} (h0:¬ (r=34∨r=92)) (h1:r≠10) (h2:r≠9) (h3:r≠13) (h4:r<32) :
  qr r=[92#8,117#8,48#8,48#8,(hexS.getD ((r:Int) / 2 ^ 4).toNat 0).toBitVec,(hexS.getD ((((r:Int)).toNat &&& ((15:Int)).toNat:Nat):Int).toNat 0).toBitVec]:=by
 have k1:∀ n:_root_.Fin 32,(hexS.getD ((n.val:Int) / 2 ^ 4).toNat 0).toBitVec=hexd (n.val / 16):=by decide +kernel
 have k2:∀ n:_root_.Fin 32,(hexS.getD ((((n.val:Int)).toNat &&& ((15:Int)).toNat:Nat):Int).toNat 0).toBitVec=hexd (n.val % 16):=by decide +kernel
 have e1:=k1 ⟨r,h4⟩
 have e2:=k2 ⟨r,h4⟩
 dsimp only at e1 e2
 rw [e1,e2]
 unfold qr
 rw [if_neg h0,if_neg h1,if_neg h2,if_neg h3,if_pos h4]
theorem qr_enc {r:Nat} (h0:¬ (r=34∨r=92)) (h1:r≠10) (h2:r≠9) (h3:r≠13) (h4:¬ r<32):qr r=enc r:=by
 unfold qr
 rw [if_neg h0,if_neg h1,if_neg h2,if_neg h3,if_neg h4]
end Js
namespace Sx
open Go.RowKit Sha Vi Js

theorem scal_i {r:Nat} (h:scal r):r≤1114111:=by unfold scal at h; omega
set_option maxRecDepth 20000 in
set_option maxHeartbeats 16000000 in
theorem fn_quote0 {s:Bs} (hu:Utf s) (hb:(quote s).length≤70368744177664):Fn Tryd.prog tds 63 [] [.c (.slc none 0 0),.c (.str (U8 s))] (fun _=>True)
  (fun x hs=>∃ c',(quote s).length≤c'∧x=.a (.c (.sl 0 0 0 (quote s).length c'))∧hs=[lsC (quote s) c']):=by
 refine fn_of_body tds_ok follows_ Tryd.func63 rfl (t:=.a (.c (.slc none 0 0))::.a (.c (.str (U8 s)))::anys (Tryd.f63.ntmps-2)) rfl (fun w r0 hr _=>?_)
 obtain rfl:r0=[]:=List.eq_nil_of_length_eq_zero hr
 obtain ⟨rs,hrs,hs⟩:=hu
 have hq:quote s=34#8::(rs.flatMap qr++[34#8]):=by rw [hs]; exact quote_of hrs
 obtain ⟨T,hTl⟩:∃ T,(rs.flatMap qr).length=T:=⟨_,rfl⟩
 have hql:(quote s).length=T+2:=by rw [hq]; simp only [List.length_cons,List.length_append,hTl,List.length_nil]
 (repeat show _∧_;first|refine yr ?_|refine yt ?_|refine yf ?_|refine yo ?_)
 intro c1 hc1
 (repeat show _∧_;first|refine yr ?_|refine yt ?_|refine yf ?_|refine yo ?_)
 refine .inl ⟨List Nat × List Nat × Bs × Nat,fun x=>match x with|(done,todo,B,c)=>⟨[.a (.c (.sl 0 0 0 B.length c)),.a (.c (.str ((U8 s)))),.any,.any,.a (.c (.slc none 0 0)),.any,.any,.any,.any,.any,.any,.a (.c (.ih 1)),.any,.any,.any,.any,.any,.any,.any,.any,.any,.any,.any,.any,.any,.any,.any,.any,.any,.any,.any,.any,.any,.any,.any,.any,.any,.any,.any,.any,.any,.any,.any,.any,.any,.any,.any,.any,.any,.any,.any,.any,.any,.any,.any,.any,.any,.any,.any,.any,.any,.any,.any],[lsC B c,[.obj (.it (U8 s) ((done.flatMap enc).length))]]⟩,
  fun x=>match x with|(done,todo,B,c)=>rs=done++todo∧B=34#8::done.flatMap qr∧B.length≤c,fun x=>x.2.1.length,⟨([],rs,[34#8],c1),[1,2],⟨⟨rfl,rfl,rfl⟩,?_⟩,rfl,rfl,hc1⟩,fun x hx=>?_⟩
 ·(repeat first|exact trivial|refine ent1 ?_)
  refine ⟨fun j hj=>eqC_bytes (fun i hi=>?_) j,by (repeat first|exact trivial|refine ent1 ?_)⟩
  exact new_row (m:=[34#8]) (fun i hi=>one_row rfl i hi) i hi
 obtain ⟨done,todo,B,c⟩:=x
 obtain ⟨h1,h2,h3⟩:=hx
 dsimp only
 have hBl:B.length=(done.flatMap qr).length+1:=by rw [h2]; simp only [List.length_cons]
 have hsplit:(done.flatMap qr).length+(todo.flatMap qr).length=T:=by rw [← hTl,h1,List.flatMap_append,List.length_append]
 have hsd:s=done.flatMap enc++todo.flatMap enc:=by rw [hs,h1,List.flatMap_append]
 rcases todo with _|⟨r,todo⟩
 ·have hpos:¬ (done.flatMap enc).length<(U8 s).length:=by rw [U8_len,hsd]; simp
  refine And.intro (fun h=>absurd h hpos) (fun _=>?_)
  (repeat show _∧_;first|refine yr ?_|refine yt ?_|refine yf ?_|refine yo ?_)
  refine And.intro ⟨h3,by simp only [scale]; omega,by show (B.length+1)*1≤140737488355328; omega⟩ ?_
  intro c2 hc2
  (repeat show _∧_;first|refine yr ?_|refine yt ?_|refine yf ?_|refine yo ?_)
  have hfull:(quote s)=B++[34#8]:=by
   rw [h2,hq,h1]; simp
  rw [hfull]
  refine ⟨.a (.c (.sl 0 0 0 (B++[34#8]).length c2)),_,⟨[3],⟨rfl,rfl,rfl⟩,?_⟩,c2,by rw [List.length_append]; exact hc2,rfl,rfl⟩
  (repeat first|exact trivial|refine ent1 ?_)
  refine And.intro (show B.length+1=(B++[34#8]).length by rw [List.length_append]; rfl) ?_
  (repeat first|exact trivial|refine ent1 ?_)
  refine ⟨fun j hj=>eqC_bytes (fun i hi=>?_) j,by (repeat first|exact trivial|refine ent1 ?_)⟩
  have hi':i<B.length+1:=by rw [List.length_append] at hi; exact hi
  refine app_row (l:=B) (n:=B.length) (k:=1) rfl ?_ (fun i hi=>bytesF_lt hi) (fun i hi=>?_) i hi'
  ·rfl
  ·exact rowl i (by exact hi) rfl
 have hr:scal r:=hrs r (by rw [h1]; exact List.mem_append_right _ (List.mem_cons_self ..))
 have hri:=scal_i hr
 have hep:=enc_pos r
 have hpos:(done.flatMap enc).length<(U8 s).length:=by rw [U8_len,hsd]; simp only [List.length_append,List.flatMap_cons]; omega
 have hdec:Utf8.decode ⟨(U8 s).toArray⟩ ((done.flatMap enc).length)=(r,(enc r).length):=by
  rw [decode_U8]
  conv=>lhs; rw [hsd]
  rw [List.drop_left,List.flatMap_cons]
  exact dec_enc hr _
 have hstep:rs=(done++[r])++todo:=by rw [h1]; simp
 have hqf:∀ W:Bs,W=B++qr r→W=34#8::(done++[r]).flatMap qr:=fun W h=>by rw [h,h2]; simp
 have hpe:((done++[r]).flatMap enc).length=(done.flatMap enc).length+(enc r).length:=by simp
 rw [List.flatMap_cons,List.length_append] at hsplit
 refine And.intro (fun _=>?_) (fun h=>absurd hpos h)
 rw [show (Utf8.decode ⟨(U8 s).toArray⟩ ((done.flatMap enc).length)).1=r by rw [hdec],show (Utf8.decode ⟨(U8 s).toArray⟩ ((done.flatMap enc).length)).2=(enc r).length by rw [hdec]]
 by_cases a1:r=34
 ·have f1:decide ((r:Int)=34)=true:=decide_eq_true (by omega)
  have hE:=qr_sign (r:=r) (.inl a1)
  have hEl:(qr r).length=2:=by rw [hE]; rfl
  (repeat show _∧_;first|refine yr ?_|refine yt ?_|refine yf ?_|refine yt ?_ (by first|decide|(rw[f1];decide))|refine yf ?_ (by first|decide|(rw[f1];decide))|refine yo ?_)
  refine And.intro ⟨h3,by simp only [scale]; omega,by show (B.length+2)*1≤140737488355328; omega⟩ ?_
  intro c2 hc2
  (repeat show _∧_;first|refine yr ?_|refine yt ?_|refine yf ?_|refine yo ?_)
  refine ⟨(done++[r],todo,B++qr r,c2),[3,1],⟨⟨rfl,rfl,rfl⟩,?_⟩,⟨hstep,hqf _ rfl,by rw [List.length_append,hEl]; exact hc2⟩,by dsimp only; simp⟩
  have hbl:(B++qr r).length=B.length+2:=by rw [List.length_append,hEl]
  dsimp only
  (repeat first|exact trivial|refine ent1 ?_)
  refine ⟨fun j hj=>eqC_bytes (fun i hi=>?_) j,by rw [hpe]; (repeat first|exact trivial|refine ent1 ?_)⟩
  have hi':i<B.length+2:=by rw [hbl] at hi; exact hi
  rw [hE]
  refine app_row (l:=B) (n:=B.length) (k:=2) rfl ?_ (fun i hi=>bytesF_lt hi) (fun i hi=>?_) i hi'
  ·rfl
  ·exact rowl i (by exact hi) rfl
 have f1:decide ((r:Int)=34)=false:=decide_eq_false (by omega)
 by_cases a2:r=92
 ·have f2:decide ((r:Int)=92)=true:=decide_eq_true (by omega)
  have hE:=qr_sign (r:=r) (.inr a2)
  have hEl:(qr r).length=2:=by rw [hE]; rfl
  (repeat show _∧_;first|refine yr ?_|refine yt ?_|refine yf ?_|refine yt ?_ (by first|decide|(rw[f1];decide)|(rw[f2];decide))|refine yf ?_ (by first|decide|(rw[f1];decide)|(rw[f2];decide))|refine yo ?_)
  refine And.intro ⟨h3,by simp only [scale]; omega,by show (B.length+2)*1≤140737488355328; omega⟩ ?_
  intro c2 hc2
  (repeat show _∧_;first|refine yr ?_|refine yt ?_|refine yf ?_|refine yo ?_)
  refine ⟨(done++[r],todo,B++qr r,c2),[3,1],⟨⟨rfl,rfl,rfl⟩,?_⟩,⟨hstep,hqf _ rfl,by rw [List.length_append,hEl]; exact hc2⟩,by dsimp only; simp⟩
  have hbl:(B++qr r).length=B.length+2:=by rw [List.length_append,hEl]
  dsimp only
  (repeat first|exact trivial|refine ent1 ?_)
  refine ⟨fun j hj=>eqC_bytes (fun i hi=>?_) j,by rw [hpe]; (repeat first|exact trivial|refine ent1 ?_)⟩
  have hi':i<B.length+2:=by rw [hbl] at hi; exact hi
  rw [hE]
  refine app_row (l:=B) (n:=B.length) (k:=2) rfl ?_ (fun i hi=>bytesF_lt hi) (fun i hi=>?_) i hi'
  ·rfl
  ·exact rowl i (by exact hi) rfl
 have f2:decide ((r:Int)=92)=false:=decide_eq_false (by omega)
 by_cases b0:r=10
 ·have g0:decide ((r:Int)=10)=true:=decide_eq_true (by omega)
  have hE:=(congrArg qr b0).trans qr_n
  have hEl:(qr r).length=2:=by rw [hE]; rfl
  (repeat show _∧_;first|refine yr ?_|refine yt ?_|refine yf ?_|refine yt ?_ (by first|decide|(rw[f1];decide)|(rw[f2];decide)|(rw[g0];decide))|refine yf ?_ (by first|decide|(rw[f1];decide)|(rw[f2];decide)|(rw[g0];decide))|refine yo ?_)
  refine And.intro ⟨h3,by simp only [scale]; omega,by show (B.length+2)*1≤140737488355328; omega⟩ ?_
  intro c2 hc2
  (repeat show _∧_;first|refine yr ?_|refine yt ?_|refine yf ?_|refine yo ?_)
  refine ⟨(done++[r],todo,B++qr r,c2),[3,1],⟨⟨rfl,rfl,rfl⟩,?_⟩,⟨hstep,hqf _ rfl,by rw [List.length_append,hEl]; exact hc2⟩,by dsimp only; simp⟩
  have hbl:(B++qr r).length=B.length+2:=by rw [List.length_append,hEl]
  dsimp only
  (repeat first|exact trivial|refine ent1 ?_)
  refine ⟨fun j hj=>eqC_bytes (fun i hi=>?_) j,by rw [hpe]; (repeat first|exact trivial|refine ent1 ?_)⟩
  have hi':i<B.length+2:=by rw [hbl] at hi; exact hi
  rw [hE]
  refine app_row (l:=B) (n:=B.length) (k:=2) rfl ?_ (fun i hi=>bytesF_lt hi) (fun i hi=>?_) i hi'
  ·rfl
  ·exact rowl i (by exact hi) rfl
 have g0:decide ((r:Int)=10)=false:=decide_eq_false (by omega)
 by_cases b1:r=9
 ·have g1:decide ((r:Int)=9)=true:=decide_eq_true (by omega)
  have hE:=(congrArg qr b1).trans qr_t
  have hEl:(qr r).length=2:=by rw [hE]; rfl
  (repeat show _∧_;first|refine yr ?_|refine yt ?_|refine yf ?_|refine yt ?_ (by first|decide|(rw[f1];decide)|(rw[f2];decide)|(rw[g0];decide)|(rw[g1];decide))|refine yf ?_ (by first|decide|(rw[f1];decide)|(rw[f2];decide)|(rw[g0];decide)|(rw[g1];decide))|refine yo ?_)
  refine And.intro ⟨h3,by simp only [scale]; omega,by show (B.length+2)*1≤140737488355328; omega⟩ ?_
  intro c2 hc2
  (repeat show _∧_;first|refine yr ?_|refine yt ?_|refine yf ?_|refine yo ?_)
  refine ⟨(done++[r],todo,B++qr r,c2),[3,1],⟨⟨rfl,rfl,rfl⟩,?_⟩,⟨hstep,hqf _ rfl,by rw [List.length_append,hEl]; exact hc2⟩,by dsimp only; simp⟩
  have hbl:(B++qr r).length=B.length+2:=by rw [List.length_append,hEl]
  dsimp only
  (repeat first|exact trivial|refine ent1 ?_)
  refine ⟨fun j hj=>eqC_bytes (fun i hi=>?_) j,by rw [hpe]; (repeat first|exact trivial|refine ent1 ?_)⟩
  have hi':i<B.length+2:=by rw [hbl] at hi; exact hi
  rw [hE]
  refine app_row (l:=B) (n:=B.length) (k:=2) rfl ?_ (fun i hi=>bytesF_lt hi) (fun i hi=>?_) i hi'
  ·rfl
  ·exact rowl i (by exact hi) rfl
 have g1:decide ((r:Int)=9)=false:=decide_eq_false (by omega)
 by_cases b2:r=13
 ·have g2:decide ((r:Int)=13)=true:=decide_eq_true (by omega)
  have hE:=(congrArg qr b2).trans qr_r
  have hEl:(qr r).length=2:=by rw [hE]; rfl
  (repeat show _∧_;first|refine yr ?_|refine yt ?_|refine yf ?_|refine yt ?_ (by first|decide|(rw[f1];decide)|(rw[f2];decide)|(rw[g0];decide)|(rw[g1];decide)|(rw[g2];decide))|refine yf ?_ (by first|decide|(rw[f1];decide)|(rw[f2];decide)|(rw[g0];decide)|(rw[g1];decide)|(rw[g2];decide))|refine yo ?_)
  refine And.intro ⟨h3,by simp only [scale]; omega,by show (B.length+2)*1≤140737488355328; omega⟩ ?_
  intro c2 hc2
  (repeat show _∧_;first|refine yr ?_|refine yt ?_|refine yf ?_|refine yo ?_)
  refine ⟨(done++[r],todo,B++qr r,c2),[3,1],⟨⟨rfl,rfl,rfl⟩,?_⟩,⟨hstep,hqf _ rfl,by rw [List.length_append,hEl]; exact hc2⟩,by dsimp only; simp⟩
  have hbl:(B++qr r).length=B.length+2:=by rw [List.length_append,hEl]
  dsimp only
  (repeat first|exact trivial|refine ent1 ?_)
  refine ⟨fun j hj=>eqC_bytes (fun i hi=>?_) j,by rw [hpe]; (repeat first|exact trivial|refine ent1 ?_)⟩
  have hi':i<B.length+2:=by rw [hbl] at hi; exact hi
  rw [hE]
  refine app_row (l:=B) (n:=B.length) (k:=2) rfl ?_ (fun i hi=>bytesF_lt hi) (fun i hi=>?_) i hi'
  ·rfl
  ·exact rowl i (by exact hi) rfl
 have g2:decide ((r:Int)=13)=false:=decide_eq_false (by omega)
 have hno:¬ (r=34∨r=92):=by omega
 by_cases b3:r<32
 ·have g3:decide ((r:Int)<32)=true:=decide_eq_true (by omega)
  have hE:=qr_ctl hno b0 b1 b2 b3
  have hEl:(qr r).length=6:=by rw [hE]; rfl
  (repeat show _∧_;first|refine yr ?_|refine yt ?_|refine yf ?_|refine yt ?_ (by first|decide|(rw[f1];decide)|(rw[f2];decide)|(rw[g0];decide)|(rw[g1];decide)|(rw[g2];decide)|(rw[g3];decide))|refine yf ?_ (by first|decide|(rw[f1];decide)|(rw[f2];decide)|(rw[g0];decide)|(rw[g1];decide)|(rw[g2];decide)|(rw[g3];decide))|refine yo ?_)
  refine ⟨none,[],[(0,true),(1,true),(2,true),(3,true),(4,true),(5,true),(6,true),(7,false)],[8,9],by kernel_rfl,?_⟩
  (repeat show _∧_;first|refine yr ?_|refine yt ?_|refine yf ?_|refine yo ?_)
  refine And.intro ⟨by show 0≤(r:Int) / 2 ^ 4; omega,by show (r:Int) / 2 ^ 4<16; omega⟩ ?_
  (repeat show _∧_;first|refine yr ?_|refine yt ?_|refine yf ?_|refine yo ?_)
  refine And.intro ⟨by omega,by show (((((r:Int)).toNat &&& ((15:Int)).toNat:Nat):Int))<16; have:=Nat.and_le_right (n:=((r:Int)).toNat) (m:=((15:Int)).toNat); have h15:((15:Int)).toNat=15:=rfl; omega⟩ ?_
  (repeat show _∧_;first|refine yr ?_|refine yt ?_|refine yf ?_|refine yo ?_)
  refine And.intro ⟨h3,by simp only [scale]; omega,by show (B.length+6)*1≤140737488355328; omega⟩ ?_
  intro c2 hc2
  (repeat show _∧_;first|refine yr ?_|refine yt ?_|refine yf ?_|refine yo ?_)
  refine ⟨(done++[r],todo,B++qr r,c2),[3,1],⟨⟨rfl,rfl,rfl⟩,?_⟩,⟨hstep,hqf _ rfl,by rw [List.length_append,hEl]; exact hc2⟩,by dsimp only; simp⟩
  have hbl:(B++qr r).length=B.length+6:=by rw [List.length_append,hEl]
  dsimp only
  (repeat first|exact trivial|refine ent1 ?_)
  refine ⟨fun j hj=>eqC_bytes (fun i hi=>?_) j,by rw [hpe]; (repeat first|exact trivial|refine ent1 ?_)⟩
  have hi':i<B.length+6:=by rw [hbl] at hi; exact hi
  rw [hE]
  refine app_row (l:=B) (n:=B.length) (k:=6) rfl ?_ (fun i hi=>bytesF_lt hi) (fun i hi=>?_) i hi'
  ·rfl
  ·exact rowl i (by exact hi) rfl
 have g3:decide ((r:Int)<32)=false:=decide_eq_false (by omega)
 have hE:=qr_enc hno b0 b1 b2 b3
 rw [hE] at hsplit hqf
 (repeat show _∧_;first|refine yr ?_|refine yt ?_|refine yf ?_|refine yt ?_ (by first|decide|(rw[f1];decide)|(rw[f2];decide)|(rw[g0];decide)|(rw[g1];decide)|(rw[g2];decide)|(rw[g3];decide))|refine yf ?_ (by first|decide|(rw[f1];decide)|(rw[f2];decide)|(rw[g0];decide)|(rw[g1];decide)|(rw[g2];decide)|(rw[g3];decide))|refine yo ?_)
 refine call_same (fn_arune B c (by omega) h3 hr) [0] rfl (by (repeat first|exact trivial|refine ent1 ?_)) (by (repeat first|exact trivial|refine ent1 ?_)) (fun _ _=>trivial) ?_
 rintro x hs' ⟨c2,q1,rfl,rfl⟩
 refine ⟨(done++[r],todo,B++enc r,c2),[2,1],⟨⟨rfl,rfl,rfl⟩,?_⟩,⟨hstep,hqf _ rfl,q1⟩,by dsimp only; simp⟩
 dsimp only
 rw [hpe]
 (repeat first|exact trivial|refine ent1 ?_)
set_option maxRecDepth 20000 in
set_option maxHeartbeats 16000000 in
theorem fn_quote (b:Bs) (c:Nat) (hc:b.length≤c) {s:Bs} (hu:Utf s) (hb:b.length+(quote s).length≤70368744177664):Fn Tryd.prog tds 63 [lsC b c] [.c (.sl 0 0 0 b.length c),.c (.str (U8 s))] (fun _=>True)
  (fun x hs=>∃ c',(b++quote s).length≤c'∧x=.a (.c (.sl 1 0 0 (b++quote s).length c'))∧hs=[[],lsC (b++quote s) c']):=by
 refine fn_of_body tds_ok follows_ Tryd.func63 rfl (t:=.a (.c (.sl 0 0 0 b.length c))::.a (.c (.str (U8 s)))::anys (Tryd.f63.ntmps-2)) rfl (fun w r0 hr _=>?_)
 obtain ⟨x0,rfl⟩:∃ a,r0=[a]:=List.length_eq_one_iff.1 hr
 obtain ⟨rs,hrs,hs⟩:=hu
 have hq:quote s=34#8::(rs.flatMap qr++[34#8]):=by rw [hs]; exact quote_of hrs
 obtain ⟨T,hTl⟩:∃ T,(rs.flatMap qr).length=T:=⟨_,rfl⟩
 have hql:(quote s).length=T+2:=by rw [hq]; simp only [List.length_cons,List.length_append,hTl,List.length_nil]
 (repeat show _∧_;first|refine yr ?_|refine yt ?_|refine yf ?_|refine yo ?_)
 refine And.intro ⟨hc,by simp only [scale]; omega,by show (b.length+1)*1≤140737488355328; omega⟩ ?_
 intro c1 hc1
 (repeat show _∧_;first|refine yr ?_|refine yt ?_|refine yf ?_|refine yo ?_)
 refine .inl ⟨List Nat × List Nat × Bs × Nat,fun x=>match x with|(done,todo,B,c)=>⟨[.a (.c (.sl 1 0 0 B.length c)),.a (.c (.str ((U8 s)))),.any,.any,.a (.c (.slc none 0 0)),.any,.any,.any,.any,.any,.any,.a (.c (.ih 2)),.any,.any,.any,.any,.any,.any,.any,.any,.any,.any,.any,.any,.any,.any,.any,.any,.any,.any,.any,.any,.any,.any,.any,.any,.any,.any,.any,.any,.any,.any,.any,.any,.any,.any,.any,.any,.any,.any,.any,.any,.any,.any,.any,.any,.any,.any,.any,.any,.any,.any,.any],[[],lsC B c,[.obj (.it (U8 s) ((done.flatMap enc).length))]]⟩,
  fun x=>match x with|(done,todo,B,c)=>rs=done++todo∧B=b++34#8::done.flatMap qr∧B.length≤c,fun x=>x.2.1.length,⟨([],rs,b++[34#8],c1),[0,2,3],⟨⟨rfl,rfl,rfl⟩,?_⟩,rfl,rfl,by rw [List.length_append]; exact hc1⟩,fun x hx=>?_⟩
 ·(repeat first|exact trivial|refine ent1 ?_)
  refine And.intro (show b.length+1=(b++[34#8]).length by rw [List.length_append]; rfl) ?_
  (repeat first|exact trivial|refine ent1 ?_)
  refine ⟨fun j hj=>eqC_bytes (fun i hi=>?_) j,by (repeat first|exact trivial|refine ent1 ?_)⟩
  have hi':i<b.length+1:=by rw [List.length_append] at hi; exact hi
  refine app_row (l:=b) (n:=b.length) (k:=1) rfl ?_ (fun i hi=>bytesF_lt hi) (fun i hi=>?_) i hi'
  ·rfl
  ·exact rowl i (by exact hi) rfl
 obtain ⟨done,todo,B,c⟩:=x
 obtain ⟨h1,h2,h3⟩:=hx
 dsimp only
 have hBl:B.length=b.length+(done.flatMap qr).length+1:=by rw [h2]; simp only [List.length_append,List.length_cons]; omega
 have hsplit:(done.flatMap qr).length+(todo.flatMap qr).length=T:=by rw [← hTl,h1,List.flatMap_append,List.length_append]
 have hsd:s=done.flatMap enc++todo.flatMap enc:=by rw [hs,h1,List.flatMap_append]
 rcases todo with _|⟨r,todo⟩
 ·have hpos:¬ (done.flatMap enc).length<(U8 s).length:=by rw [U8_len,hsd]; simp
  refine And.intro (fun h=>absurd h hpos) (fun _=>?_)
  (repeat show _∧_;first|refine yr ?_|refine yt ?_|refine yf ?_|refine yo ?_)
  refine And.intro ⟨h3,by simp only [scale]; omega,by show (B.length+1)*1≤140737488355328; omega⟩ ?_
  intro c2 hc2
  (repeat show _∧_;first|refine yr ?_|refine yt ?_|refine yf ?_|refine yo ?_)
  have hfull:(b++quote s)=B++[34#8]:=by
   rw [h2,hq,h1]; simp
  rw [hfull]
  refine ⟨.a (.c (.sl 1 0 0 (B++[34#8]).length c2)),_,⟨[0,4],⟨rfl,rfl,rfl⟩,?_⟩,c2,by rw [List.length_append]; exact hc2,rfl,rfl⟩
  (repeat first|exact trivial|refine ent1 ?_)
  refine And.intro (show B.length+1=(B++[34#8]).length by rw [List.length_append]; rfl) ?_
  (repeat first|exact trivial|refine ent1 ?_)
  refine ⟨fun j hj=>eqC_bytes (fun i hi=>?_) j,by (repeat first|exact trivial|refine ent1 ?_)⟩
  have hi':i<B.length+1:=by rw [List.length_append] at hi; exact hi
  refine app_row (l:=B) (n:=B.length) (k:=1) rfl ?_ (fun i hi=>bytesF_lt hi) (fun i hi=>?_) i hi'
  ·rfl
  ·exact rowl i (by exact hi) rfl
 have hr:scal r:=hrs r (by rw [h1]; exact List.mem_append_right _ (List.mem_cons_self ..))
 have hri:=scal_i hr
 have hep:=enc_pos r
 have hpos:(done.flatMap enc).length<(U8 s).length:=by rw [U8_len,hsd]; simp only [List.length_append,List.flatMap_cons]; omega
 have hdec:Utf8.decode ⟨(U8 s).toArray⟩ ((done.flatMap enc).length)=(r,(enc r).length):=by
  rw [decode_U8]
  conv=>lhs; rw [hsd]
  rw [List.drop_left,List.flatMap_cons]
  exact dec_enc hr _
 have hstep:rs=(done++[r])++todo:=by rw [h1]; simp
 have hqf:∀ W:Bs,W=B++qr r→W=b++34#8::(done++[r]).flatMap qr:=fun W h=>by rw [h,h2]; simp
 have hpe:((done++[r]).flatMap enc).length=(done.flatMap enc).length+(enc r).length:=by simp
 rw [List.flatMap_cons,List.length_append] at hsplit
 refine And.intro (fun _=>?_) (fun h=>absurd hpos h)
 rw [show (Utf8.decode ⟨(U8 s).toArray⟩ ((done.flatMap enc).length)).1=r by rw [hdec],show (Utf8.decode ⟨(U8 s).toArray⟩ ((done.flatMap enc).length)).2=(enc r).length by rw [hdec]]
 by_cases a1:r=34
 ·have f1:decide ((r:Int)=34)=true:=decide_eq_true (by omega)
  have hE:=qr_sign (r:=r) (.inl a1)
  have hEl:(qr r).length=2:=by rw [hE]; rfl
  (repeat show _∧_;first|refine yr ?_|refine yt ?_|refine yf ?_|refine yt ?_ (by first|decide|(rw[f1];decide))|refine yf ?_ (by first|decide|(rw[f1];decide))|refine yo ?_)
  refine And.intro ⟨h3,by simp only [scale]; omega,by show (B.length+2)*1≤140737488355328; omega⟩ ?_
  intro c2 hc2
  (repeat show _∧_;first|refine yr ?_|refine yt ?_|refine yf ?_|refine yo ?_)
  refine ⟨(done++[r],todo,B++qr r,c2),[0,4,2],⟨⟨rfl,rfl,rfl⟩,?_⟩,⟨hstep,hqf _ rfl,by rw [List.length_append,hEl]; exact hc2⟩,by dsimp only; simp⟩
  have hbl:(B++qr r).length=B.length+2:=by rw [List.length_append,hEl]
  dsimp only
  (repeat first|exact trivial|refine ent1 ?_)
  refine ⟨fun j hj=>eqC_bytes (fun i hi=>?_) j,by rw [hpe]; (repeat first|exact trivial|refine ent1 ?_)⟩
  have hi':i<B.length+2:=by rw [hbl] at hi; exact hi
  rw [hE]
  refine app_row (l:=B) (n:=B.length) (k:=2) rfl ?_ (fun i hi=>bytesF_lt hi) (fun i hi=>?_) i hi'
  ·rfl
  ·exact rowl i (by exact hi) rfl
 have f1:decide ((r:Int)=34)=false:=decide_eq_false (by omega)
 by_cases a2:r=92
 ·have f2:decide ((r:Int)=92)=true:=decide_eq_true (by omega)
  have hE:=qr_sign (r:=r) (.inr a2)
  have hEl:(qr r).length=2:=by rw [hE]; rfl
  (repeat show _∧_;first|refine yr ?_|refine yt ?_|refine yf ?_|refine yt ?_ (by first|decide|(rw[f1];decide)|(rw[f2];decide))|refine yf ?_ (by first|decide|(rw[f1];decide)|(rw[f2];decide))|refine yo ?_)
  refine And.intro ⟨h3,by simp only [scale]; omega,by show (B.length+2)*1≤140737488355328; omega⟩ ?_
  intro c2 hc2
  (repeat show _∧_;first|refine yr ?_|refine yt ?_|refine yf ?_|refine yo ?_)
  refine ⟨(done++[r],todo,B++qr r,c2),[0,4,2],⟨⟨rfl,rfl,rfl⟩,?_⟩,⟨hstep,hqf _ rfl,by rw [List.length_append,hEl]; exact hc2⟩,by dsimp only; simp⟩
  have hbl:(B++qr r).length=B.length+2:=by rw [List.length_append,hEl]
  dsimp only
  (repeat first|exact trivial|refine ent1 ?_)
  refine ⟨fun j hj=>eqC_bytes (fun i hi=>?_) j,by rw [hpe]; (repeat first|exact trivial|refine ent1 ?_)⟩
  have hi':i<B.length+2:=by rw [hbl] at hi; exact hi
  rw [hE]
  refine app_row (l:=B) (n:=B.length) (k:=2) rfl ?_ (fun i hi=>bytesF_lt hi) (fun i hi=>?_) i hi'
  ·rfl
  ·exact rowl i (by exact hi) rfl
 have f2:decide ((r:Int)=92)=false:=decide_eq_false (by omega)
 by_cases b0:r=10
 ·have g0:decide ((r:Int)=10)=true:=decide_eq_true (by omega)
  have hE:=(congrArg qr b0).trans qr_n
  have hEl:(qr r).length=2:=by rw [hE]; rfl
  (repeat show _∧_;first|refine yr ?_|refine yt ?_|refine yf ?_|refine yt ?_ (by first|decide|(rw[f1];decide)|(rw[f2];decide)|(rw[g0];decide))|refine yf ?_ (by first|decide|(rw[f1];decide)|(rw[f2];decide)|(rw[g0];decide))|refine yo ?_)
  refine And.intro ⟨h3,by simp only [scale]; omega,by show (B.length+2)*1≤140737488355328; omega⟩ ?_
  intro c2 hc2
  (repeat show _∧_;first|refine yr ?_|refine yt ?_|refine yf ?_|refine yo ?_)
  refine ⟨(done++[r],todo,B++qr r,c2),[0,4,2],⟨⟨rfl,rfl,rfl⟩,?_⟩,⟨hstep,hqf _ rfl,by rw [List.length_append,hEl]; exact hc2⟩,by dsimp only; simp⟩
  have hbl:(B++qr r).length=B.length+2:=by rw [List.length_append,hEl]
  dsimp only
  (repeat first|exact trivial|refine ent1 ?_)
  refine ⟨fun j hj=>eqC_bytes (fun i hi=>?_) j,by rw [hpe]; (repeat first|exact trivial|refine ent1 ?_)⟩
  have hi':i<B.length+2:=by rw [hbl] at hi; exact hi
  rw [hE]
  refine app_row (l:=B) (n:=B.length) (k:=2) rfl ?_ (fun i hi=>bytesF_lt hi) (fun i hi=>?_) i hi'
  ·rfl
  ·exact rowl i (by exact hi) rfl
 have g0:decide ((r:Int)=10)=false:=decide_eq_false (by omega)
 by_cases b1:r=9
 ·have g1:decide ((r:Int)=9)=true:=decide_eq_true (by omega)
  have hE:=(congrArg qr b1).trans qr_t
  have hEl:(qr r).length=2:=by rw [hE]; rfl
  (repeat show _∧_;first|refine yr ?_|refine yt ?_|refine yf ?_|refine yt ?_ (by first|decide|(rw[f1];decide)|(rw[f2];decide)|(rw[g0];decide)|(rw[g1];decide))|refine yf ?_ (by first|decide|(rw[f1];decide)|(rw[f2];decide)|(rw[g0];decide)|(rw[g1];decide))|refine yo ?_)
  refine And.intro ⟨h3,by simp only [scale]; omega,by show (B.length+2)*1≤140737488355328; omega⟩ ?_
  intro c2 hc2
  (repeat show _∧_;first|refine yr ?_|refine yt ?_|refine yf ?_|refine yo ?_)
  refine ⟨(done++[r],todo,B++qr r,c2),[0,4,2],⟨⟨rfl,rfl,rfl⟩,?_⟩,⟨hstep,hqf _ rfl,by rw [List.length_append,hEl]; exact hc2⟩,by dsimp only; simp⟩
  have hbl:(B++qr r).length=B.length+2:=by rw [List.length_append,hEl]
  dsimp only
  (repeat first|exact trivial|refine ent1 ?_)
  refine ⟨fun j hj=>eqC_bytes (fun i hi=>?_) j,by rw [hpe]; (repeat first|exact trivial|refine ent1 ?_)⟩
  have hi':i<B.length+2:=by rw [hbl] at hi; exact hi
  rw [hE]
  refine app_row (l:=B) (n:=B.length) (k:=2) rfl ?_ (fun i hi=>bytesF_lt hi) (fun i hi=>?_) i hi'
  ·rfl
  ·exact rowl i (by exact hi) rfl
 have g1:decide ((r:Int)=9)=false:=decide_eq_false (by omega)
 by_cases b2:r=13
 ·have g2:decide ((r:Int)=13)=true:=decide_eq_true (by omega)
  have hE:=(congrArg qr b2).trans qr_r
  have hEl:(qr r).length=2:=by rw [hE]; rfl
  (repeat show _∧_;first|refine yr ?_|refine yt ?_|refine yf ?_|refine yt ?_ (by first|decide|(rw[f1];decide)|(rw[f2];decide)|(rw[g0];decide)|(rw[g1];decide)|(rw[g2];decide))|refine yf ?_ (by first|decide|(rw[f1];decide)|(rw[f2];decide)|(rw[g0];decide)|(rw[g1];decide)|(rw[g2];decide))|refine yo ?_)
  refine And.intro ⟨h3,by simp only [scale]; omega,by show (B.length+2)*1≤140737488355328; omega⟩ ?_
  intro c2 hc2
  (repeat show _∧_;first|refine yr ?_|refine yt ?_|refine yf ?_|refine yo ?_)
  refine ⟨(done++[r],todo,B++qr r,c2),[0,4,2],⟨⟨rfl,rfl,rfl⟩,?_⟩,⟨hstep,hqf _ rfl,by rw [List.length_append,hEl]; exact hc2⟩,by dsimp only; simp⟩
  have hbl:(B++qr r).length=B.length+2:=by rw [List.length_append,hEl]
  dsimp only
  (repeat first|exact trivial|refine ent1 ?_)
  refine ⟨fun j hj=>eqC_bytes (fun i hi=>?_) j,by rw [hpe]; (repeat first|exact trivial|refine ent1 ?_)⟩
  have hi':i<B.length+2:=by rw [hbl] at hi; exact hi
  rw [hE]
  refine app_row (l:=B) (n:=B.length) (k:=2) rfl ?_ (fun i hi=>bytesF_lt hi) (fun i hi=>?_) i hi'
  ·rfl
  ·exact rowl i (by exact hi) rfl
 have g2:decide ((r:Int)=13)=false:=decide_eq_false (by omega)
 have hno:¬ (r=34∨r=92):=by omega
 by_cases b3:r<32
 ·have g3:decide ((r:Int)<32)=true:=decide_eq_true (by omega)
  have hE:=qr_ctl hno b0 b1 b2 b3
  have hEl:(qr r).length=6:=by rw [hE]; rfl
  (repeat show _∧_;first|refine yr ?_|refine yt ?_|refine yf ?_|refine yt ?_ (by first|decide|(rw[f1];decide)|(rw[f2];decide)|(rw[g0];decide)|(rw[g1];decide)|(rw[g2];decide)|(rw[g3];decide))|refine yf ?_ (by first|decide|(rw[f1];decide)|(rw[f2];decide)|(rw[g0];decide)|(rw[g1];decide)|(rw[g2];decide)|(rw[g3];decide))|refine yo ?_)
  refine ⟨none,[],[(0,true),(1,true),(2,true),(3,true),(4,true),(5,true),(6,true),(7,false)],[8,9],by kernel_rfl,?_⟩
  (repeat show _∧_;first|refine yr ?_|refine yt ?_|refine yf ?_|refine yo ?_)
  refine And.intro ⟨by show 0≤(r:Int) / 2 ^ 4; omega,by show (r:Int) / 2 ^ 4<16; omega⟩ ?_
  (repeat show _∧_;first|refine yr ?_|refine yt ?_|refine yf ?_|refine yo ?_)
  refine And.intro ⟨by omega,by show (((((r:Int)).toNat &&& ((15:Int)).toNat:Nat):Int))<16; have:=Nat.and_le_right (n:=((r:Int)).toNat) (m:=((15:Int)).toNat); have h15:((15:Int)).toNat=15:=rfl; omega⟩ ?_
  (repeat show _∧_;first|refine yr ?_|refine yt ?_|refine yf ?_|refine yo ?_)
  refine And.intro ⟨h3,by simp only [scale]; omega,by show (B.length+6)*1≤140737488355328; omega⟩ ?_
  intro c2 hc2
  (repeat show _∧_;first|refine yr ?_|refine yt ?_|refine yf ?_|refine yo ?_)
  refine ⟨(done++[r],todo,B++qr r,c2),[0,4,2],⟨⟨rfl,rfl,rfl⟩,?_⟩,⟨hstep,hqf _ rfl,by rw [List.length_append,hEl]; exact hc2⟩,by dsimp only; simp⟩
  have hbl:(B++qr r).length=B.length+6:=by rw [List.length_append,hEl]
  dsimp only
  (repeat first|exact trivial|refine ent1 ?_)
  refine ⟨fun j hj=>eqC_bytes (fun i hi=>?_) j,by rw [hpe]; (repeat first|exact trivial|refine ent1 ?_)⟩
  have hi':i<B.length+6:=by rw [hbl] at hi; exact hi
  rw [hE]
  refine app_row (l:=B) (n:=B.length) (k:=6) rfl ?_ (fun i hi=>bytesF_lt hi) (fun i hi=>?_) i hi'
  ·rfl
  ·exact rowl i (by exact hi) rfl
 have g3:decide ((r:Int)<32)=false:=decide_eq_false (by omega)
 have hE:=qr_enc hno b0 b1 b2 b3
 rw [hE] at hsplit hqf
 (repeat show _∧_;first|refine yr ?_|refine yt ?_|refine yf ?_|refine yt ?_ (by first|decide|(rw[f1];decide)|(rw[f2];decide)|(rw[g0];decide)|(rw[g1];decide)|(rw[g2];decide)|(rw[g3];decide))|refine yf ?_ (by first|decide|(rw[f1];decide)|(rw[f2];decide)|(rw[g0];decide)|(rw[g1];decide)|(rw[g2];decide)|(rw[g3];decide))|refine yo ?_)
 refine call_same (fn_arune B c (by omega) h3 hr) [1] rfl (by (repeat first|exact trivial|refine ent1 ?_)) (by (repeat first|exact trivial|refine ent1 ?_)) (fun _ _=>trivial) ?_
 rintro x hs' ⟨c2,q1,rfl,rfl⟩
 refine ⟨(done++[r],todo,B++enc r,c2),[0,3,2],⟨⟨rfl,rfl,rfl⟩,?_⟩,⟨hstep,hqf _ rfl,q1⟩,by dsimp only; simp⟩
 dsimp only
 rw [hpe]
 (repeat first|exact trivial|refine ent1 ?_)
end Sx
end
section
namespace Js
open Sha
theorem putL_snoc (pv:JT→Bs) (x:JT):∀ (l:List JT),l≠[]→putL pv (l++[x])=putL pv l++44#8::pv x
 | [],h=>absurd rfl h
 | [y],_=>rfl
 | y::z::l,_=>by
  show pv y++44#8::putL pv ((z::l)++[x])=(pv y++44#8::putL pv (z::l))++44#8::pv x
  rw [putL_snoc pv x (z::l) (by simp)]
  simp
theorem putL_one (pv:JT→Bs) (x:JT):putL pv ([]++[x])=pv x:=rfl
theorem putL_le (pv:JT→Bs):∀ (l:List JT) (j:Nat),(putL pv (l.take j)).length≤(putL pv l).length
 | _,0=>by rw [List.take_zero]; exact Nat.zero_le _
 | [],j+1=>by simp
 | [y],j+1=>by simp
 | y::z::l,1=>by simp [putL]
 | y::z::l,j+2=>by
  have:=putL_le pv (z::l) (j+1)
  show (pv y++44#8::putL pv ((z::l).take (j+1))).length≤(pv y++44#8::putL pv (z::l)).length
  rw [List.length_append,List.length_append,List.length_cons,List.length_cons]
  omega
theorem putO_snoc (pv:JT→Bs) (s:Bs) (x:JT):∀ (ns:List Bs) (l:List JT),l≠[]→ns.length=l.length→putO pv (ns++[s]) (l++[x])=putO pv ns l++44#8::(quote s++58#8::pv x)
 | _,[],h,_=>absurd rfl h
 | [],y::l,_,h=>by cases h
 | [t],[y],_,_=>by
  show quote t++58#8::(pv y++44#8::(quote s++58#8::pv x))=(quote t++58#8::pv y)++44#8::(quote s++58#8::pv x)
  simp
 | t::u::ns,y::z::l,_,h=>by
  show quote t++58#8::(pv y++44#8::putO pv ((u::ns)++[s]) ((z::l)++[x]))=(quote t++58#8::(pv y++44#8::putO pv (u::ns) (z::l)))++44#8::(quote s++58#8::pv x)
  rw [putO_snoc pv s x (u::ns) (z::l) (by simp) (by simpa using h)]
  simp
theorem putO_one (pv:JT→Bs) (s:Bs) (x:JT):putO pv ([]++[s]) ([]++[x])=quote s++58#8::pv x:=rfl
theorem putO_le (pv:JT→Bs):∀ (ns:List Bs) (l:List JT) (j:Nat),ns.length=l.length→(putO pv (ns.take j) (l.take j)).length≤(putO pv ns l).length
 | ns,l,0,_=>by rw [List.take_zero,List.take_zero]; exact Nat.zero_le _
 | ns,[],j+1,h=>by
  obtain rfl:ns=[]:=List.eq_nil_of_length_eq_zero h
  simp
 | [],y::l,j+1,h=>by cases h
 | [s],[y],j+1,_=>by simp
 | s::t::ns,y::z::l,1,_=>by simp [putO]
 | s::t::ns,y::z::l,j+2,h=>by
  have:=putO_le pv (t::ns) (z::l) (j+1) (by simpa using h)
  show (quote s++58#8::(pv y++44#8::putO pv ((t::ns).take (j+1)) ((z::l).take (j+1)))).length≤(quote s++58#8::(pv y++44#8::putO pv (t::ns) (z::l))).length
  simp only [List.length_append,List.length_cons] at this ⊢
  omega
 | [_],_::_::_,j+1,h=>by simp at h
 | _::_::_,[_],j+1,h=>by simp at h
theorem putL_step (pv:JT→Bs) (l:List JT) (j:Nat) (h:j<l.length) (b:Bs):b++putL pv (l.take (j+1))=(if j=0 then b else b++putL pv (l.take j)++[44#8])++pv (l[j]):=by
 rw [List.take_add_one,List.getElem?_eq_getElem h,Option.toList_some]
 by_cases h0:j=0
 ·subst h0
  rw [if_pos rfl,List.take_zero,putL_one]
 ·rw [if_neg h0,putL_snoc _ _ _ (by intro e; rw [← List.length_eq_zero_iff,List.length_take] at e; omega)]
  simp
theorem putO_step (pv:JT→Bs) (ns:List Bs) (l:List JT) (j:Nat) (h:j<l.length) (h2:ns.length=l.length) (b:Bs):b++putO pv (ns.take (j+1)) (l.take (j+1))=((if j=0 then b else b++putO pv (ns.take j) (l.take j)++[44#8])++quote (ns[j]'(by omega))++[58#8])++pv (l[j]):=by
 rw [List.take_add_one,List.take_add_one,List.getElem?_eq_getElem h,List.getElem?_eq_getElem (by omega:j<ns.length),Option.toList_some,Option.toList_some]
 by_cases h0:j=0
 ·subst h0
  rw [if_pos rfl,List.take_zero,List.take_zero,putO_one]
  simp
 ·rw [if_neg h0,putO_snoc _ _ _ _ _ (by intro e; rw [← List.length_eq_zero_iff,List.length_take] at e; omega) (by rw [List.length_take,List.length_take,h2])]
  simp
end Js
namespace Sx
open Go.RowKit Sha Vi Js

theorem bytesM_lt {g:Nat→Nat} {n:Nat} {b:Nat→BitVec 8} {i:Nat} (h:i<n):SC.mp g (bytesF n b i)=.w8 (b i):=by rw [bytesF_lt h]; rfl
theorem rowu {l:List UInt8} {m:Bs} (e:l=U8 m) (i:Nat) (hi:i<m.length):SC.w8 (l.getD i 0).toBitVec=.w8 (L m i):=by
 subst e; exact row_U8 i hi
def PutC (d:Nat):Prop:=∀ (W:World) (ms:List Nat) (v:JT) (x:JC) (b:Bs) (c:Nat),Tabs W ms→TAt W ms d v x→norm d v→b.length≤c→b.length+(put d v).length≤70368744177664 →
 FnR Tryd.prog tds 45 1 [[.past W ms],lsC b c] [.agg (jvS v x),.c (.sl 1 0 0 b.length c)] (fun _=>True)
  (fun y hs=>∃ c',(b++put d v).length≤c'∧y=.a (.c (.sl 2 0 0 (b++put d v).length c'))∧hs=[[.past W ms],[],lsC (b++put d v) c'])
set_option maxRecDepth 20000 in
set_option maxHeartbeats 32000000 in
theorem fn_put0 (d:Nat) (hrec:∀ d',d=d'+1→PutC d') {W:World} {ms:List Nat} {v:JT} {x:JC} (hT:Tabs W ms) (hx:TAt W ms d v x) (hn:norm d v) (hl:(put d v).length≤70368744177664) :
  FnR Tryd.prog tds 45 1 [[.past W ms]] [.agg (jvS v x),.c (.slc none 0 0)] (fun _=>True)
  (fun y hs=>∃ c',(put d v).length≤c'∧y=.a (.c (.sl 1 0 0 (put d v).length c'))∧hs=[[.past W ms],lsC (put d v) c']):=by
 refine fn_of_body tds_ok follows_ Tryd.func45 rfl (t:=.a (.agg (jvS v x))::.a (.c (.slc none 0 0))::anys (Tryd.f45.ntmps-2)) rfl (fun w r0 hr0 _=>?_)
 obtain ⟨x0,rfl⟩:=len1' hr0
 obtain ⟨pl,po,hpv,hcs⟩:∃ pl po,put d v=put1 pl po v∧(leaf v∨∃ d',d=d'+1∧pl=putL (put d')∧po=putO (put d')∧v.n=0#64∧v.s=[]∧(∀ x∈v.l,norm d' x)∧((v.k=5#8∧v.ns=[])∨(v.k=6#8∧v.ns.length=v.l.length∧v.ns.Nodup∧∀ s∈v.ns,Utf s))):=by
  cases d with
  | zero=>exact ⟨_,_,rfl,.inl hn⟩
  | succ d=>exact ⟨_,_,rfl,hn.imp_right fun h=>⟨d,rfl,rfl,rfl,h⟩⟩
 by_cases k0:v.k=0#8
 ·have f0:decide (v.k=0#8)=true:=decide_eq_true k0
  have hp:put d v=[110#8,117#8,108#8,108#8]:=by rw [hpv]; unfold put1; rw [if_pos k0]
  rw [hp] at hl ⊢
  (repeat show _∧_;first|refine yr ?_|refine yt ?_|refine yf ?_|refine ya f0 ?_|refine yb f0 ?_|refine yo ?_)
  intro c' hc'
  (repeat show _∧_;first|refine yr ?_|refine yt ?_|refine yf ?_|refine yo ?_)
  refine ⟨.a (.c (.sl 1 0 0 4 c')),_,⟨[0,2],⟨rfl,rfl,rfl⟩,?_⟩,c',hc',rfl,rfl⟩
  (repeat first|exact trivial|refine ent1 ?_)
  refine ⟨fun j' hj'=>eqC_bytes (fun i hi=>?_) j',by (repeat first|exact trivial|refine ent1 ?_)⟩
  exact new_row (m:=[110#8,117#8,108#8,108#8]) (fun i hi=>rowu rfl i (by exact hi)) i hi
 have f0:decide (v.k=0#8)=false:=decide_eq_false k0
 by_cases k1:v.k=1#8
 ·have f1:decide (v.k=1#8)=true:=decide_eq_true k1
  have hp:put d v=[102#8,97#8,108#8,115#8,101#8]:=by rw [hpv]; unfold put1; rw [if_neg k0]; rw [if_pos k1]
  rw [hp] at hl ⊢
  (repeat show _∧_;first|refine yr ?_|refine yt ?_|refine yf ?_|refine ya f0 ?_|refine yb f0 ?_|refine ya f1 ?_|refine yb f1 ?_|refine yo ?_)
  intro c' hc'
  (repeat show _∧_;first|refine yr ?_|refine yt ?_|refine yf ?_|refine yo ?_)
  refine ⟨.a (.c (.sl 1 0 0 5 c')),_,⟨[0,2],⟨rfl,rfl,rfl⟩,?_⟩,c',hc',rfl,rfl⟩
  (repeat first|exact trivial|refine ent1 ?_)
  refine ⟨fun j' hj'=>eqC_bytes (fun i hi=>?_) j',by (repeat first|exact trivial|refine ent1 ?_)⟩
  exact new_row (m:=[102#8,97#8,108#8,115#8,101#8]) (fun i hi=>rowu rfl i (by exact hi)) i hi
 have f1:decide (v.k=1#8)=false:=decide_eq_false k1
 by_cases k2:v.k=2#8
 ·have f2:decide (v.k=2#8)=true:=decide_eq_true k2
  have hp:put d v=[116#8,114#8,117#8,101#8]:=by rw [hpv]; unfold put1; rw [if_neg k0]; rw [if_neg k1]; rw [if_pos k2]
  rw [hp] at hl ⊢
  (repeat show _∧_;first|refine yr ?_|refine yt ?_|refine yf ?_|refine ya f0 ?_|refine yb f0 ?_|refine ya f1 ?_|refine yb f1 ?_|refine ya f2 ?_|refine yb f2 ?_|refine yo ?_)
  intro c' hc'
  (repeat show _∧_;first|refine yr ?_|refine yt ?_|refine yf ?_|refine yo ?_)
  refine ⟨.a (.c (.sl 1 0 0 4 c')),_,⟨[0,2],⟨rfl,rfl,rfl⟩,?_⟩,c',hc',rfl,rfl⟩
  (repeat first|exact trivial|refine ent1 ?_)
  refine ⟨fun j' hj'=>eqC_bytes (fun i hi=>?_) j',by (repeat first|exact trivial|refine ent1 ?_)⟩
  exact new_row (m:=[116#8,114#8,117#8,101#8]) (fun i hi=>rowu rfl i (by exact hi)) i hi
 have f2:decide (v.k=2#8)=false:=decide_eq_false k2
 by_cases k3:v.k=3#8
 ·have f3:decide (v.k=3#8)=true:=decide_eq_true k3
  have hp:put d v=dig v.n.toNat:=by rw [hpv]; unfold put1; rw [if_neg k0,if_neg k1,if_neg k2,if_pos k3]
  rw [hp] at hl ⊢
  (repeat show _∧_;first|refine yr ?_|refine yt ?_|refine yf ?_|refine ya f0 ?_|refine yb f0 ?_|refine ya f1 ?_|refine yb f1 ?_|refine ya f2 ?_|refine yb f2 ?_|refine ya f3 ?_|refine yb f3 ?_|refine yo ?_)
  refine call_same (fn_uint0 hT v.n) [0] rfl (by exact And.intro rfl (And.intro rfl (And.intro rfl trivial))) (by (repeat first|exact trivial|refine ent1 ?_)) (fun _ _=>trivial) ?_
  rintro y hs ⟨c',hc',rfl,rfl⟩
  (repeat show _∧_;first|refine yr ?_|refine yt ?_|refine yf ?_|refine yo ?_)
  exact ⟨.a (.c (.sl 1 0 0 (dig v.n.toNat).length c')),_,⟨[0,2],⟨rfl,rfl,rfl⟩,by (repeat first|exact trivial|refine ent1 ?_)⟩,c',hc',rfl,rfl⟩
 have f3:decide (v.k=3#8)=false:=decide_eq_false k3
 by_cases k4:v.k=4#8
 ·have f4:decide (v.k=4#8)=true:=decide_eq_true k4
  have hp:put d v=quote v.s:=by rw [hpv]; unfold put1; rw [if_neg k0,if_neg k1,if_neg k2,if_neg k3,if_pos k4]
  have hU:Utf v.s:=by
   rcases hcs with hlf|⟨_,_,_,_,_,_,_,h5|h6⟩
   ·exact hlf.2.2.2.2.2
   ·exact absurd (k4.symm.trans h5.1) (by decide)
   ·exact absurd (k4.symm.trans h6.1) (by decide)
  rw [hp] at hl ⊢
  (repeat show _∧_;first|refine yr ?_|refine yt ?_|refine yf ?_|refine ya f0 ?_|refine yb f0 ?_|refine ya f1 ?_|refine yb f1 ?_|refine ya f2 ?_|refine yb f2 ?_|refine ya f3 ?_|refine yb f3 ?_|refine ya f4 ?_|refine yb f4 ?_|refine yo ?_)
  refine call_same (fn_quote0 hU hl) [] rfl (by exact And.intro rfl (And.intro rfl trivial)) trivial (fun _ _=>trivial) ?_
  rintro y hs ⟨c',hc',rfl,rfl⟩
  (repeat show _∧_;first|refine yr ?_|refine yt ?_|refine yf ?_|refine yo ?_)
  exact ⟨.a (.c (.sl 1 0 0 (quote v.s).length c')),_,⟨[0,2],⟨rfl,rfl,rfl⟩,by (repeat first|exact trivial|refine ent1 ?_)⟩,c',hc',rfl,rfl⟩
 have f4:decide (v.k=4#8)=false:=decide_eq_false k4
 rcases hcs with hlf|⟨d',rfl,rfl,rfl,hv1,hv2,hv3,hk⟩
 ·exfalso
  have h1:=hlf.2.2.2.2.1
  have kk:∀ n,n<5→v.k≠BitVec.ofNat 8 n:=by
   intro n hn
   match n,hn with
   | 0,_=>exact k0
   | 1,_=>exact k1
   | 2,_=>exact k2
   | 3,_=>exact k3
   | 4,_=>exact k4
  exact kk v.k.toNat (by omega) (by apply BitVec.eq_of_toNat_eq; simp)
 obtain ⟨⟨g1,g2,g3,g4,g5⟩,hns⟩:=hx
 obtain ⟨xa,xm,xc,xb,xp,xq⟩:=x
 dsimp only at g1 g2 g3 g4 g5 hns
 rcases hk with ⟨k5,hns0⟩|⟨k6,hnl,hnd,hnu⟩
 ·have f5:decide (v.k=5#8)=true:=decide_eq_true k5
  have hp:put (d'+1) v=91#8::(putL (put d') v.l++[93#8]):=by rw [hpv]; unfold put1; rw [if_neg k0,if_neg k1,if_neg k2,if_neg k3,if_neg k4,if_pos k5]
  rw [hp] at hl ⊢
  have hl2:(putL (put d') v.l).length+2≤70368744177664:=by simp only [List.length_cons,List.length_append,List.length_nil] at hl; omega
  (repeat show _∧_;first|refine yr ?_|refine yt ?_|refine yf ?_|refine ya f0 ?_|refine yb f0 ?_|refine ya f1 ?_|refine yb f1 ?_|refine ya f2 ?_|refine yb f2 ?_|refine ya f3 ?_|refine yb f3 ?_|refine ya f4 ?_|refine yb f4 ?_|refine ya f5 ?_|refine yb f5 ?_|refine yo ?_)
  intro c1 hc1
  (repeat show _∧_;first|refine yr ?_|refine yt ?_|refine yf ?_|refine yo ?_)
  refine .inl ⟨Nat × Bs × Nat,fun x=>match x with|(j,B,c)=>⟨[.any,.a (.c (.sl 2 0 0 B.length c)),.a (.c (.p 1 0 0)),.any,.a (.c (.slc none 0 0)),.any,.any,.any,.any,.any,.a (.c (.w8 v.k)),.any,.any,.any,.any,.any,.any,.any,.any,.any,.any,.any,.any,.any,.any,.any,.any,.any,.any,.any,.any,.any,.any,.any,.any,.any,.any,.any,.any,.any,.any,.a (.c (.slc xa xm xc)),.a (.c (.int .i64 (xm))),.a (.c (.int .i64 (((j:Nat):Int)))),.any,.any,.any,.any,.any,.any,.any,.any,.any,.any,.any,.any,.any,.any,.any,.any,.any,.any,.any,.any,.any,.any,.any,.any,.any,.any,.any,.any,.any,.any,.any,.any,.any,.any,.any,.any,.any,.any,.any,.any,.any,.any,.any,.any,.any,.any,.any,.any],[[.past W ms],jvS v ⟨xa,xm,xc,xb,xp,xq⟩,lsC B c]⟩,
   fun x=>match x with|(j,B,c)=>j≤v.l.length∧B=([91#8])++putL (put d') (v.l.take j)∧B.length≤c,fun x=>v.l.length-x.1,⟨(0,([91#8]),c1),[0,1,3],⟨⟨rfl,rfl,rfl⟩,?_⟩,Nat.zero_le _,by rw [List.take_zero]; exact (List.append_nil _).symm,hc1⟩,fun x hx=>?_⟩
  ·(repeat first|exact trivial|refine ent1 ?_)
   refine ⟨fun j hj=>eqC_bytes (fun i hi=>?_) j,by (repeat first|exact trivial|refine ent1 ?_)⟩
   exact new_row (m:=[91#8]) (fun i hi=>one_row rfl i hi) i hi
  obtain ⟨j,B,c2⟩:=x
  obtain ⟨i1,i2,i3⟩:=hx
  dsimp only
  have hBl:B.length=1+(putL (put d') (v.l.take j)).length:=by rw [i2]; simp only [List.length_append,List.length_cons,List.length_nil]; try omega
  have hjl:(putL (put d') (v.l.take j)).length≤(putL (put d') v.l).length:=putL_le _ _ _
  have hBm:B.length+1≤70368744177664:=by omega
  by_cases hj:j<v.l.length
  rotate_left
  ·have e1:decide ((j:Int)<(xm:Int))=false:=decide_eq_false (by omega)
   obtain rfl:j=v.l.length:=by omega
   have hfull:91#8::(putL (put d') v.l++[93#8])=B++[93#8]:=by rw [i2,List.take_length]; simp
   rw [hfull]
   (repeat show _∧_;first|refine yr ?_|refine yt ?_|refine yf ?_|refine ya e1 ?_|refine yb e1 ?_|refine yo ?_)
   refine And.intro ⟨i3,by simp only [scale]; omega,by show (B.length+1)*1≤140737488355328; omega⟩ ?_
   intro c3 hc3
   (repeat show _∧_;first|refine yr ?_|refine yt ?_|refine yf ?_|refine yo ?_)
   refine ⟨.a (.c (.sl 1 0 0 (B++[93#8]).length c3)),_,⟨[0,4],⟨rfl,rfl,rfl⟩,?_⟩,c3,by rw [List.length_append]; exact hc3,rfl,rfl⟩
   (repeat first|exact trivial|refine ent1 ?_)
   refine And.intro (show B.length+1=(B++[93#8]).length by rw [List.length_append]; rfl) ?_
   (repeat first|exact trivial|refine ent1 ?_)
   refine ⟨fun j hj=>eqC_bytes (fun i hi=>?_) j,by (repeat first|exact trivial|refine ent1 ?_)⟩
   have hi':i<B.length+1:=by rw [List.length_append] at hi; exact hi
   refine app_row (l:=B) (n:=B.length) (k:=1) rfl ?_ (fun i hi=>bytesF_lt hi) (fun i hi=>?_) i hi'
   ·rfl
   ·exact rowl i (by exact hi) rfl
  have e1:decide ((j:Int)<(xm:Int))=true:=decide_eq_true (by omega)
  obtain ⟨A,rfl⟩:∃ A,xa=some A:=by
   cases xa with
   | none=>exact absurd (g4 rfl) (by omega)
   | some A=>exact ⟨A,rfl⟩
  obtain ⟨y,y1,y2⟩:=(g5 A rfl (by omega)).2 j v.l[j] (List.getElem?_eq_getElem hj)
  (repeat show _∧_;first|refine yr ?_|refine yt ?_|refine yf ?_|refine ya e1 ?_|refine yb e1 ?_|refine yo ?_)
  refine ⟨jvS v.l[j] y,⟨.past (i:=0) rfl (by exact y1),rfl⟩,?_⟩
  have hle1:(putL (put d') (v.l.take (j+1))).length≤(putL (put d') v.l).length:=putL_le _ _ _
  have hbs:(([91#8]):Bs).length=1:=by simp only [List.length_append,List.length_cons,List.length_nil]
  by_cases h0:j=0
  ·have e2:decide ((0:Int)<(j:Int))=false:=decide_eq_false (by omega)
   (repeat show _∧_;first|refine yr ?_|refine yt ?_|refine yf ?_|refine ya e2 ?_|refine yb e2 ?_|refine yo ?_)
   have hst:([91#8])++putL (put d') (v.l.take (j+1))=B++put d' v.l[j]:=by rw [putL_step (put d') v.l j hj,if_pos h0,show B=([91#8]) from by rw [i2,h0,List.take_zero]; exact List.append_nil _]
   have hln:=congrArg List.length hst
   simp only [List.length_append,List.length_cons,List.length_nil] at hln hbs
   refine call_same (hrec d' rfl W ms v.l[j] y B c2 hT y2 (hv3 _ (List.getElem_mem hj)) i3 (by (try simp only [List.length_append,List.length_cons,List.length_nil]); omega)) [0,2] rfl ?_ ?_ (fun _ _=>trivial) ?_
   ·(repeat first|exact trivial|refine ent1 ?_)
   ·(repeat first|exact trivial|refine ent1 ?_)
   rintro y' hs ⟨c6,hc6,rfl,rfl⟩
   (repeat show _∧_;first|refine yr ?_|refine yt ?_|refine yf ?_|refine yo ?_)
   refine ⟨(j+1,B++put d' v.l[j],c6),[0,1,4],⟨⟨rfl,rfl,rfl⟩,?_⟩,⟨hj,hst.symm,hc6⟩,by dsimp only; omega⟩
   dsimp only
   (repeat first|exact trivial|refine ent1 ?_)
  have e2:decide ((0:Int)<(j:Int))=true:=decide_eq_true (by omega)
  (repeat show _∧_;first|refine yr ?_|refine yt ?_|refine yf ?_|refine ya e2 ?_|refine yb e2 ?_|refine yo ?_)
  refine And.intro ⟨i3,by simp only [scale]; omega,by show (B.length+1)*1≤140737488355328; omega⟩ ?_
  intro c3 hc3
  (repeat show _∧_;first|refine yr ?_|refine yt ?_|refine yf ?_|refine yo ?_)
  have hc3':(B++[44#8]).length≤c3:=by rw [List.length_append]; exact hc3
  have hst:([91#8])++putL (put d') (v.l.take (j+1))=(B++[44#8])++put d' v.l[j]:=by rw [putL_step (put d') v.l j hj,if_neg h0,← i2]
  have hln:=congrArg List.length hst
  simp only [List.length_append,List.length_cons,List.length_nil] at hln hbs
  refine call_same (hrec d' rfl W ms v.l[j] y (B++[44#8]) c3 hT y2 (hv3 _ (List.getElem_mem hj)) hc3' (by (try simp only [List.length_append,List.length_cons,List.length_nil]); omega)) [0,5] rfl ?_ ?_ (fun _ _=>trivial) ?_
  ·(repeat first|exact trivial|refine ent1 ?_)
   exact And.intro (show B.length+1=_ by rw [List.length_append]; rfl) (by (repeat first|exact trivial|refine ent1 ?_))
  ·(repeat first|exact trivial|refine ent1 ?_)
   refine ⟨fun j' hj'=>eqC_bytes (fun i hi=>?_) j',by (repeat first|exact trivial|refine ent1 ?_)⟩
   have hi':i<(B).length+1:=by rw [List.length_append] at hi; exact hi
   refine app_row (l:=B) (n:=(B).length) (k:=1) rfl ?_ (fun i hi=>bytesF_lt hi) (fun i hi=>?_) i hi'
   ·rfl
   ·exact rowl i (by exact hi) rfl
  rintro y' hs ⟨c6,hc6,rfl,rfl⟩
  (repeat show _∧_;first|refine yr ?_|refine yt ?_|refine yf ?_|refine yo ?_)
  refine ⟨(j+1,(B++[44#8])++put d' v.l[j],c6),[0,1,6],⟨⟨rfl,rfl,rfl⟩,?_⟩,⟨hj,hst.symm,hc6⟩,by dsimp only; omega⟩
  dsimp only
  (repeat first|exact trivial|refine ent1 ?_)
 ·have f5:decide (v.k=5#8)=false:=decide_eq_false (by rw [k6]; decide)
  have hp:put (d'+1) v=123#8::(putO (put d') v.ns v.l++[125#8]):=by rw [hpv]; unfold put1; rw [if_neg k0,if_neg k1,if_neg k2,if_neg k3,if_neg k4,if_neg (by rw [k6]; decide)]
  rw [hp] at hl ⊢
  have hl2:(putO (put d') v.ns v.l).length+2≤70368744177664:=by simp only [List.length_cons,List.length_append,List.length_nil] at hl; omega
  (repeat show _∧_;first|refine yr ?_|refine yt ?_|refine yf ?_|refine ya f0 ?_|refine yb f0 ?_|refine ya f1 ?_|refine yb f1 ?_|refine ya f2 ?_|refine yb f2 ?_|refine ya f3 ?_|refine yb f3 ?_|refine ya f4 ?_|refine yb f4 ?_|refine ya f5 ?_|refine yb f5 ?_|refine yo ?_)
  intro c1 hc1
  (repeat show _∧_;first|refine yr ?_|refine yt ?_|refine yf ?_|refine yo ?_)
  refine .inl ⟨Nat × Bs × Nat,fun x=>match x with|(j,B,c)=>⟨[.any,.a (.c (.sl 2 0 0 B.length c)),.a (.c (.p 1 0 0)),.any,.a (.c (.slc none 0 0)),.any,.any,.any,.any,.any,.a (.c (.w8 v.k)),.any,.any,.any,.any,.any,.any,.any,.any,.any,.any,.any,.any,.any,.any,.any,.any,.any,.any,.any,.any,.any,.any,.any,.any,.any,.any,.any,.any,.any,.any,.any,.any,.any,.any,.any,.any,.any,.any,.any,.any,.any,.any,.any,.any,.any,.any,.any,.any,.any,.any,.any,.any,.any,.a (.c (.slc xa xm xc)),.a (.c (.int .i64 (xm))),.a (.c (.int .i64 (((j:Nat):Int)))),.any,.any,.any,.any,.any,.any,.any,.any,.any,.any,.any,.any,.any,.any,.any,.any,.any,.any,.any,.any,.any,.any,.any,.any,.any],[[.past W ms],jvS v ⟨xa,xm,xc,xb,xp,xq⟩,lsC B c]⟩,
   fun x=>match x with|(j,B,c)=>j≤v.l.length∧B=([123#8])++putO (put d') (v.ns.take j) (v.l.take j)∧B.length≤c,fun x=>v.l.length-x.1,⟨(0,([123#8]),c1),[0,1,3],⟨⟨rfl,rfl,rfl⟩,?_⟩,Nat.zero_le _,by rw [List.take_zero,List.take_zero]; exact (List.append_nil _).symm,hc1⟩,fun x hx=>?_⟩
  ·(repeat first|exact trivial|refine ent1 ?_)
   refine ⟨fun j hj=>eqC_bytes (fun i hi=>?_) j,by (repeat first|exact trivial|refine ent1 ?_)⟩
   exact new_row (m:=[123#8]) (fun i hi=>one_row rfl i hi) i hi
  obtain ⟨j,B,c2⟩:=x
  obtain ⟨i1,i2,i3⟩:=hx
  dsimp only
  have hBl:B.length=1+(putO (put d') (v.ns.take j) (v.l.take j)).length:=by rw [i2]; simp only [List.length_append,List.length_cons,List.length_nil]; try omega
  have hjl:(putO (put d') (v.ns.take j) (v.l.take j)).length≤(putO (put d') v.ns v.l).length:=putO_le _ _ _ _ hnl
  have hBm:B.length+1≤70368744177664:=by omega
  by_cases hj:j<v.l.length
  rotate_left
  ·have e1:decide ((j:Int)<(xm:Int))=false:=decide_eq_false (by omega)
   obtain rfl:j=v.l.length:=by omega
   have hfull:123#8::(putO (put d') v.ns v.l++[125#8])=B++[125#8]:=by rw [i2,show v.ns.take v.l.length=v.ns by rw [← hnl,List.take_length],List.take_length]; simp
   rw [hfull]
   (repeat show _∧_;first|refine yr ?_|refine yt ?_|refine yf ?_|refine ya e1 ?_|refine yb e1 ?_|refine yo ?_)
   refine And.intro ⟨i3,by simp only [scale]; omega,by show (B.length+1)*1≤140737488355328; omega⟩ ?_
   intro c3 hc3
   (repeat show _∧_;first|refine yr ?_|refine yt ?_|refine yf ?_|refine yo ?_)
   refine ⟨.a (.c (.sl 1 0 0 (B++[125#8]).length c3)),_,⟨[0,4],⟨rfl,rfl,rfl⟩,?_⟩,c3,by rw [List.length_append]; exact hc3,rfl,rfl⟩
   (repeat first|exact trivial|refine ent1 ?_)
   refine And.intro (show B.length+1=(B++[125#8]).length by rw [List.length_append]; rfl) ?_
   (repeat first|exact trivial|refine ent1 ?_)
   refine ⟨fun j hj=>eqC_bytes (fun i hi=>?_) j,by (repeat first|exact trivial|refine ent1 ?_)⟩
   have hi':i<B.length+1:=by rw [List.length_append] at hi; exact hi
   refine app_row (l:=B) (n:=B.length) (k:=1) rfl ?_ (fun i hi=>bytesF_lt hi) (fun i hi=>?_) i hi'
   ·rfl
   ·exact rowl i (by exact hi) rfl
  have e1:decide ((j:Int)<(xm:Int))=true:=decide_eq_true (by omega)
  obtain ⟨A,rfl⟩:∃ A,xa=some A:=by
   cases xa with
   | none=>exact absurd (g4 rfl) (by omega)
   | some A=>exact ⟨A,rfl⟩
  obtain ⟨y,y1,y2⟩:=(g5 A rfl (by omega)).2 j v.l[j] (List.getElem?_eq_getElem hj)
  obtain ⟨Bn,rfl⟩:∃ Bn,xb=some Bn:=by
   cases xb with
   | none=>exact absurd (show v.ns.length=0 by have h1:=hns.len; simp only [List.length_map] at h1; have h2:=hns.le; have h3:=hns.nil rfl; omega) (by omega)
   | some Bn=>exact ⟨Bn,rfl⟩
  have hjn:j<v.ns.length:=by omega
  have hjp:j<xp:=by have h1:=hns.len; simp only [List.length_map] at h1; omega
  (repeat show _∧_;first|refine yr ?_|refine yt ?_|refine yf ?_|refine ya e1 ?_|refine yb e1 ?_|refine yo ?_)
  refine ⟨jvS v.l[j] y,⟨.past (i:=0) rfl (by exact y1),rfl⟩,?_⟩
  have hle1:(putO (put d') (v.ns.take (j+1)) (v.l.take (j+1))).length≤(putO (put d') v.ns v.l).length:=putO_le _ _ _ _ hnl
  have hbs:(([123#8]):Bs).length=1:=by simp only [List.length_append,List.length_cons,List.length_nil]
  by_cases h0:j=0
  ·have e2:decide ((0:Int)<(j:Int))=false:=decide_eq_false (by omega)
   (repeat show _∧_;first|refine yr ?_|refine yt ?_|refine yf ?_|refine ya e2 ?_|refine yb e2 ?_|refine yo ?_)
   have hst:([123#8])++putO (put d') (v.ns.take (j+1)) (v.l.take (j+1))=(B++quote v.ns[j]++[58#8])++put d' v.l[j]:=by rw [putO_step (put d') v.ns v.l j hj hnl,if_pos h0,show B=([123#8]) from by rw [i2,h0,List.take_zero,List.take_zero]; exact List.append_nil _]
   have hln:=congrArg List.length hst
   simp only [List.length_append,List.length_cons,List.length_nil] at hln hbs
   refine And.intro (show (0:Int)≤(j:Int)∧(j:Int)<(xp:Int) by omega) ?_
   have him:=(hns.im Bn rfl (by have:=hns.le; omega)).one (show ((v.ns.map U8).map SC.str)[j]?=some (.str (U8 v.ns[j])) by simp [hjn])
   refine ⟨[.one (.str (U8 v.ns[j]))],⟨.past (i:=0) rfl (by show ImAt W ms (Bn.add (j*1)) _; rw [Nat.mul_one]; exact him),rfl⟩,?_⟩
   (repeat show _∧_;first|refine yr ?_|refine yt ?_|refine yf ?_|refine yo ?_)
   refine call_same (fn_quote B c2 i3 (hnu _ (List.getElem_mem hjn)) (by (try simp only [List.length_append,List.length_cons,List.length_nil]); omega)) [2] rfl (by exact And.intro rfl (And.intro rfl (And.intro rfl (And.intro rfl trivial)))) ?_ (fun _ _=>trivial) ?_
   ·(repeat first|exact trivial|refine ent1 ?_)
   rintro y' hs ⟨c4,hc4,rfl,rfl⟩
   (repeat show _∧_;first|refine yr ?_|refine yt ?_|refine yf ?_|refine yo ?_)
   refine And.intro ⟨hc4,by simp only [scale]; omega,by show ((B++quote v.ns[j]).length+1)*1≤140737488355328; simp only [List.length_append,List.length_cons,List.length_nil]; omega⟩ ?_
   intro c5 hc5
   (repeat show _∧_;first|refine yr ?_|refine yt ?_|refine yf ?_|refine yo ?_)
   have hc5':((B++quote v.ns[j])++[58#8]).length≤c5:=by rw [List.length_append]; exact hc5
   refine call_same (hrec d' rfl W ms v.l[j] y ((B++quote v.ns[j])++[58#8]) c5 hT y2 (hv3 _ (List.getElem_mem hj)) hc5' (by (try simp only [List.length_append,List.length_cons,List.length_nil]); omega)) [0,6] rfl ?_ ?_ (fun _ _=>trivial) ?_
   ·(repeat first|exact trivial|refine ent1 ?_)
    exact And.intro (show (B++quote v.ns[j]).length+1=_ by simp only [List.length_append,List.length_cons,List.length_nil]) (by (repeat first|exact trivial|refine ent1 ?_))
   ·(repeat first|exact trivial|refine ent1 ?_)
    refine ⟨fun j' hj'=>eqC_bytes (fun i hi=>?_) j',by (repeat first|exact trivial|refine ent1 ?_)⟩
    have hi':i<((B++quote v.ns[j])).length+1:=by rw [List.length_append] at hi; exact hi
    refine app_row (l:=(B++quote v.ns[j])) (n:=((B++quote v.ns[j])).length) (k:=1) rfl ?_ (fun i hi=>bytesM_lt hi) (fun i hi=>?_) i hi'
    ·rfl
    ·exact rowl i (by exact hi) rfl
   rintro y' hs ⟨c6,hc6,rfl,rfl⟩
   (repeat show _∧_;first|refine yr ?_|refine yt ?_|refine yf ?_|refine yo ?_)
   refine ⟨(j+1,((B++quote v.ns[j])++[58#8])++put d' v.l[j],c6),[0,1,7],⟨⟨rfl,rfl,rfl⟩,?_⟩,⟨hj,hst.symm,hc6⟩,by dsimp only; omega⟩
   dsimp only
   (repeat first|exact trivial|refine ent1 ?_)
  have e2:decide ((0:Int)<(j:Int))=true:=decide_eq_true (by omega)
  (repeat show _∧_;first|refine yr ?_|refine yt ?_|refine yf ?_|refine ya e2 ?_|refine yb e2 ?_|refine yo ?_)
  refine And.intro ⟨i3,by simp only [scale]; omega,by show (B.length+1)*1≤140737488355328; omega⟩ ?_
  intro c3 hc3
  (repeat show _∧_;first|refine yr ?_|refine yt ?_|refine yf ?_|refine yo ?_)
  have hc3':(B++[44#8]).length≤c3:=by rw [List.length_append]; exact hc3
  have hst:([123#8])++putO (put d') (v.ns.take (j+1)) (v.l.take (j+1))=((B++[44#8])++quote v.ns[j]++[58#8])++put d' v.l[j]:=by rw [putO_step (put d') v.ns v.l j hj hnl,if_neg h0,← i2]
  have hln:=congrArg List.length hst
  simp only [List.length_append,List.length_cons,List.length_nil] at hln hbs
  refine And.intro (show (0:Int)≤(j:Int)∧(j:Int)<(xp:Int) by omega) ?_
  have him:=(hns.im Bn rfl (by have:=hns.le; omega)).one (show ((v.ns.map U8).map SC.str)[j]?=some (.str (U8 v.ns[j])) by simp [hjn])
  refine ⟨[.one (.str (U8 v.ns[j]))],⟨.past (i:=0) rfl (by show ImAt W ms (Bn.add (j*1)) _; rw [Nat.mul_one]; exact him),rfl⟩,?_⟩
  (repeat show _∧_;first|refine yr ?_|refine yt ?_|refine yf ?_|refine yo ?_)
  refine call_same (fn_quote (B++[44#8]) c3 hc3' (hnu _ (List.getElem_mem hjn)) (by (try simp only [List.length_append,List.length_cons,List.length_nil]); omega)) [5] rfl (by exact And.intro rfl (And.intro (show B.length+1=_ by rw [List.length_append]; rfl) (And.intro rfl (And.intro rfl trivial)))) ?_ (fun _ _=>trivial) ?_
  ·(repeat first|exact trivial|refine ent1 ?_)
   refine ⟨fun j' hj'=>eqC_bytes (fun i hi=>?_) j',by (repeat first|exact trivial|refine ent1 ?_)⟩
   have hi':i<(B).length+1:=by rw [List.length_append] at hi; exact hi
   refine app_row (l:=B) (n:=(B).length) (k:=1) rfl ?_ (fun i hi=>bytesF_lt hi) (fun i hi=>?_) i hi'
   ·rfl
   ·exact rowl i (by exact hi) rfl
  rintro y' hs ⟨c4,hc4,rfl,rfl⟩
  (repeat show _∧_;first|refine yr ?_|refine yt ?_|refine yf ?_|refine yo ?_)
  refine And.intro ⟨hc4,by simp only [scale]; omega,by show (((B++[44#8])++quote v.ns[j]).length+1)*1≤140737488355328; simp only [List.length_append,List.length_cons,List.length_nil]; omega⟩ ?_
  intro c5 hc5
  (repeat show _∧_;first|refine yr ?_|refine yt ?_|refine yf ?_|refine yo ?_)
  have hc5':(((B++[44#8])++quote v.ns[j])++[58#8]).length≤c5:=by rw [List.length_append]; exact hc5
  refine call_same (hrec d' rfl W ms v.l[j] y (((B++[44#8])++quote v.ns[j])++[58#8]) c5 hT y2 (hv3 _ (List.getElem_mem hj)) hc5' (by (try simp only [List.length_append,List.length_cons,List.length_nil]); omega)) [0,8] rfl ?_ ?_ (fun _ _=>trivial) ?_
  ·(repeat first|exact trivial|refine ent1 ?_)
   exact And.intro (show ((B++[44#8])++quote v.ns[j]).length+1=_ by simp only [List.length_append,List.length_cons,List.length_nil]) (by (repeat first|exact trivial|refine ent1 ?_))
  ·(repeat first|exact trivial|refine ent1 ?_)
   refine ⟨fun j' hj'=>eqC_bytes (fun i hi=>?_) j',by (repeat first|exact trivial|refine ent1 ?_)⟩
   have hi':i<(((B++[44#8])++quote v.ns[j])).length+1:=by rw [List.length_append] at hi; exact hi
   refine app_row (l:=((B++[44#8])++quote v.ns[j])) (n:=(((B++[44#8])++quote v.ns[j])).length) (k:=1) rfl ?_ (fun i hi=>bytesM_lt hi) (fun i hi=>?_) i hi'
   ·rfl
   ·exact rowl i (by exact hi) rfl
  rintro y' hs ⟨c6,hc6,rfl,rfl⟩
  (repeat show _∧_;first|refine yr ?_|refine yt ?_|refine yf ?_|refine yo ?_)
  refine ⟨(j+1,(((B++[44#8])++quote v.ns[j])++[58#8])++put d' v.l[j],c6),[0,1,9],⟨⟨rfl,rfl,rfl⟩,?_⟩,⟨hj,hst.symm,hc6⟩,by dsimp only; omega⟩
  dsimp only
  (repeat first|exact trivial|refine ent1 ?_)
set_option maxRecDepth 20000 in
set_option maxHeartbeats 32000000 in
theorem fn_put1 (d:Nat) (hrec:∀ d',d=d'+1→PutC d') {W:World} {ms:List Nat} {v:JT} {x:JC} (b:Bs) (c:Nat) (hT:Tabs W ms) (hx:TAt W ms d v x) (hn:norm d v) (hc:b.length≤c) (hl:b.length+(put d v).length≤70368744177664) :
  FnR Tryd.prog tds 45 1 [[.past W ms],lsC b c] [.agg (jvS v x),.c (.sl 1 0 0 b.length c)] (fun _=>True)
  (fun y hs=>∃ c',(b++put d v).length≤c'∧y=.a (.c (.sl 2 0 0 (b++put d v).length c'))∧hs=[[.past W ms],[],lsC (b++put d v) c']):=by
 refine fn_of_body tds_ok follows_ Tryd.func45 rfl (t:=.a (.agg (jvS v x))::.a (.c (.sl 1 0 0 b.length c))::anys (Tryd.f45.ntmps-2)) rfl (fun w r0 hr0 _=>?_)
 obtain ⟨x0,x1,rfl⟩:=len2' hr0
 obtain ⟨pl,po,hpv,hcs⟩:∃ pl po,put d v=put1 pl po v∧(leaf v∨∃ d',d=d'+1∧pl=putL (put d')∧po=putO (put d')∧v.n=0#64∧v.s=[]∧(∀ x∈v.l,norm d' x)∧((v.k=5#8∧v.ns=[])∨(v.k=6#8∧v.ns.length=v.l.length∧v.ns.Nodup∧∀ s∈v.ns,Utf s))):=by
  cases d with
  | zero=>exact ⟨_,_,rfl,.inl hn⟩
  | succ d=>exact ⟨_,_,rfl,hn.imp_right fun h=>⟨d,rfl,rfl,rfl,h⟩⟩
 by_cases k0:v.k=0#8
 ·have f0:decide (v.k=0#8)=true:=decide_eq_true k0
  have hp:put d v=[110#8,117#8,108#8,108#8]:=by rw [hpv]; unfold put1; rw [if_pos k0]
  rw [hp] at hl ⊢
  have hl2:b.length+4≤70368744177664:=hl
  (repeat show _∧_;first|refine yr ?_|refine yt ?_|refine yf ?_|refine ya f0 ?_|refine yb f0 ?_|refine yo ?_)
  refine And.intro ⟨hc,by simp only [scale]; omega,by show (b.length+4)*1≤140737488355328; omega⟩ ?_
  intro c' hc'
  (repeat show _∧_;first|refine yr ?_|refine yt ?_|refine yf ?_|refine yo ?_)
  refine ⟨.a (.c (.sl 2 0 0 (b++[110#8,117#8,108#8,108#8]).length c')),_,⟨[0,1,3],⟨rfl,rfl,rfl⟩,?_⟩,c',by rw [List.length_append]; exact hc',rfl,rfl⟩
  (repeat first|exact trivial|refine ent1 ?_)
  refine And.intro (show b.length+4=_ by rw [List.length_append]; rfl) ?_
  (repeat first|exact trivial|refine ent1 ?_)
  refine ⟨fun j' hj'=>eqC_bytes (fun i hi=>?_) j',by (repeat first|exact trivial|refine ent1 ?_)⟩
  have hi':i<b.length+4:=by rw [List.length_append] at hi; exact hi
  refine app_row (l:=b) (n:=b.length) (k:=4) rfl ?_ (fun i hi=>bytesF_lt hi) (fun i hi=>?_) i hi'
  ·rfl
  ·exact rowu (m:=[110#8,117#8,108#8,108#8]) rfl i (by exact hi)
 have f0:decide (v.k=0#8)=false:=decide_eq_false k0
 by_cases k1:v.k=1#8
 ·have f1:decide (v.k=1#8)=true:=decide_eq_true k1
  have hp:put d v=[102#8,97#8,108#8,115#8,101#8]:=by rw [hpv]; unfold put1; rw [if_neg k0]; rw [if_pos k1]
  rw [hp] at hl ⊢
  have hl2:b.length+5≤70368744177664:=hl
  (repeat show _∧_;first|refine yr ?_|refine yt ?_|refine yf ?_|refine ya f0 ?_|refine yb f0 ?_|refine ya f1 ?_|refine yb f1 ?_|refine yo ?_)
  refine And.intro ⟨hc,by simp only [scale]; omega,by show (b.length+5)*1≤140737488355328; omega⟩ ?_
  intro c' hc'
  (repeat show _∧_;first|refine yr ?_|refine yt ?_|refine yf ?_|refine yo ?_)
  refine ⟨.a (.c (.sl 2 0 0 (b++[102#8,97#8,108#8,115#8,101#8]).length c')),_,⟨[0,1,3],⟨rfl,rfl,rfl⟩,?_⟩,c',by rw [List.length_append]; exact hc',rfl,rfl⟩
  (repeat first|exact trivial|refine ent1 ?_)
  refine And.intro (show b.length+5=_ by rw [List.length_append]; rfl) ?_
  (repeat first|exact trivial|refine ent1 ?_)
  refine ⟨fun j' hj'=>eqC_bytes (fun i hi=>?_) j',by (repeat first|exact trivial|refine ent1 ?_)⟩
  have hi':i<b.length+5:=by rw [List.length_append] at hi; exact hi
  refine app_row (l:=b) (n:=b.length) (k:=5) rfl ?_ (fun i hi=>bytesF_lt hi) (fun i hi=>?_) i hi'
  ·rfl
  ·exact rowu (m:=[102#8,97#8,108#8,115#8,101#8]) rfl i (by exact hi)
 have f1:decide (v.k=1#8)=false:=decide_eq_false k1
 by_cases k2:v.k=2#8
 ·have f2:decide (v.k=2#8)=true:=decide_eq_true k2
  have hp:put d v=[116#8,114#8,117#8,101#8]:=by rw [hpv]; unfold put1; rw [if_neg k0]; rw [if_neg k1]; rw [if_pos k2]
  rw [hp] at hl ⊢
  have hl2:b.length+4≤70368744177664:=hl
  (repeat show _∧_;first|refine yr ?_|refine yt ?_|refine yf ?_|refine ya f0 ?_|refine yb f0 ?_|refine ya f1 ?_|refine yb f1 ?_|refine ya f2 ?_|refine yb f2 ?_|refine yo ?_)
  refine And.intro ⟨hc,by simp only [scale]; omega,by show (b.length+4)*1≤140737488355328; omega⟩ ?_
  intro c' hc'
  (repeat show _∧_;first|refine yr ?_|refine yt ?_|refine yf ?_|refine yo ?_)
  refine ⟨.a (.c (.sl 2 0 0 (b++[116#8,114#8,117#8,101#8]).length c')),_,⟨[0,1,3],⟨rfl,rfl,rfl⟩,?_⟩,c',by rw [List.length_append]; exact hc',rfl,rfl⟩
  (repeat first|exact trivial|refine ent1 ?_)
  refine And.intro (show b.length+4=_ by rw [List.length_append]; rfl) ?_
  (repeat first|exact trivial|refine ent1 ?_)
  refine ⟨fun j' hj'=>eqC_bytes (fun i hi=>?_) j',by (repeat first|exact trivial|refine ent1 ?_)⟩
  have hi':i<b.length+4:=by rw [List.length_append] at hi; exact hi
  refine app_row (l:=b) (n:=b.length) (k:=4) rfl ?_ (fun i hi=>bytesF_lt hi) (fun i hi=>?_) i hi'
  ·rfl
  ·exact rowu (m:=[116#8,114#8,117#8,101#8]) rfl i (by exact hi)
 have f2:decide (v.k=2#8)=false:=decide_eq_false k2
 by_cases k3:v.k=3#8
 ·have f3:decide (v.k=3#8)=true:=decide_eq_true k3
  have hp:put d v=dig v.n.toNat:=by rw [hpv]; unfold put1; rw [if_neg k0,if_neg k1,if_neg k2,if_pos k3]
  rw [hp] at hl ⊢
  (repeat show _∧_;first|refine yr ?_|refine yt ?_|refine yf ?_|refine ya f0 ?_|refine yb f0 ?_|refine ya f1 ?_|refine yb f1 ?_|refine ya f2 ?_|refine yb f2 ?_|refine ya f3 ?_|refine yb f3 ?_|refine yo ?_)
  refine call_same (fn_uint hT b c (by omega) hc v.n) [0,1] rfl (by exact And.intro rfl (And.intro rfl (And.intro rfl (And.intro rfl (And.intro rfl trivial))))) (by (repeat first|exact trivial|refine ent1 ?_)) (fun _ _=>trivial) ?_
  rintro y hs ⟨c',hc',rfl,rfl⟩
  (repeat show _∧_;first|refine yr ?_|refine yt ?_|refine yf ?_|refine yo ?_)
  exact ⟨.a (.c (.sl 2 0 0 (b++dig v.n.toNat).length c')),_,⟨[0,1,3],⟨rfl,rfl,rfl⟩,by (repeat first|exact trivial|refine ent1 ?_)⟩,c',hc',rfl,rfl⟩
 have f3:decide (v.k=3#8)=false:=decide_eq_false k3
 by_cases k4:v.k=4#8
 ·have f4:decide (v.k=4#8)=true:=decide_eq_true k4
  have hp:put d v=quote v.s:=by rw [hpv]; unfold put1; rw [if_neg k0,if_neg k1,if_neg k2,if_neg k3,if_pos k4]
  have hU:Utf v.s:=by
   rcases hcs with hlf|⟨_,_,_,_,_,_,_,h5|h6⟩
   ·exact hlf.2.2.2.2.2
   ·exact absurd (k4.symm.trans h5.1) (by decide)
   ·exact absurd (k4.symm.trans h6.1) (by decide)
  rw [hp] at hl ⊢
  (repeat show _∧_;first|refine yr ?_|refine yt ?_|refine yf ?_|refine ya f0 ?_|refine yb f0 ?_|refine ya f1 ?_|refine yb f1 ?_|refine ya f2 ?_|refine yb f2 ?_|refine ya f3 ?_|refine yb f3 ?_|refine ya f4 ?_|refine yb f4 ?_|refine yo ?_)
  refine call_same (fn_quote b c hc hU hl) [1] rfl (by exact And.intro rfl (And.intro rfl (And.intro rfl (And.intro rfl trivial)))) (by (repeat first|exact trivial|refine ent1 ?_)) (fun _ _=>trivial) ?_
  rintro y hs ⟨c',hc',rfl,rfl⟩
  (repeat show _∧_;first|refine yr ?_|refine yt ?_|refine yf ?_|refine yo ?_)
  exact ⟨.a (.c (.sl 2 0 0 (b++quote v.s).length c')),_,⟨[0,1,3],⟨rfl,rfl,rfl⟩,by (repeat first|exact trivial|refine ent1 ?_)⟩,c',hc',rfl,rfl⟩
 have f4:decide (v.k=4#8)=false:=decide_eq_false k4
 rcases hcs with hlf|⟨d',rfl,rfl,rfl,hv1,hv2,hv3,hk⟩
 ·exfalso
  have h1:=hlf.2.2.2.2.1
  have kk:∀ n,n<5→v.k≠BitVec.ofNat 8 n:=by
   intro n hn
   match n,hn with
   | 0,_=>exact k0
   | 1,_=>exact k1
   | 2,_=>exact k2
   | 3,_=>exact k3
   | 4,_=>exact k4
  exact kk v.k.toNat (by omega) (by apply BitVec.eq_of_toNat_eq; simp)
 obtain ⟨⟨g1,g2,g3,g4,g5⟩,hns⟩:=hx
 obtain ⟨xa,xm,xc,xb,xp,xq⟩:=x
 dsimp only at g1 g2 g3 g4 g5 hns
 rcases hk with ⟨k5,hns0⟩|⟨k6,hnl,hnd,hnu⟩
 ·have f5:decide (v.k=5#8)=true:=decide_eq_true k5
  have hp:put (d'+1) v=91#8::(putL (put d') v.l++[93#8]):=by rw [hpv]; unfold put1; rw [if_neg k0,if_neg k1,if_neg k2,if_neg k3,if_neg k4,if_pos k5]
  rw [hp] at hl ⊢
  have hl2:b.length+(putL (put d') v.l).length+2≤70368744177664:=by simp only [List.length_cons,List.length_append,List.length_nil] at hl; omega
  (repeat show _∧_;first|refine yr ?_|refine yt ?_|refine yf ?_|refine ya f0 ?_|refine yb f0 ?_|refine ya f1 ?_|refine yb f1 ?_|refine ya f2 ?_|refine yb f2 ?_|refine ya f3 ?_|refine yb f3 ?_|refine ya f4 ?_|refine yb f4 ?_|refine ya f5 ?_|refine yb f5 ?_|refine yo ?_)
  refine And.intro ⟨hc,by simp only [scale]; omega,by show (b.length+1)*1≤140737488355328; omega⟩ ?_
  intro c1 hc1
  (repeat show _∧_;first|refine yr ?_|refine yt ?_|refine yf ?_|refine yo ?_)
  refine .inl ⟨Nat × Bs × Nat,fun x=>match x with|(j,B,c)=>⟨[.any,.a (.c (.sl 3 0 0 B.length c)),.a (.c (.p 2 0 0)),.any,.a (.c (.slc none 0 0)),.any,.any,.any,.any,.any,.a (.c (.w8 v.k)),.any,.any,.any,.any,.any,.any,.any,.any,.any,.any,.any,.any,.any,.any,.any,.any,.any,.any,.any,.any,.any,.any,.any,.any,.any,.any,.any,.any,.any,.any,.a (.c (.slc xa xm xc)),.a (.c (.int .i64 (xm))),.a (.c (.int .i64 (((j:Nat):Int)))),.any,.any,.any,.any,.any,.any,.any,.any,.any,.any,.any,.any,.any,.any,.any,.any,.any,.any,.any,.any,.any,.any,.any,.any,.any,.any,.any,.any,.any,.any,.any,.any,.any,.any,.any,.any,.any,.any,.any,.any,.any,.any,.any,.any,.any,.any,.any,.any],[[.past W ms],[],jvS v ⟨xa,xm,xc,xb,xp,xq⟩,lsC B c]⟩,
   fun x=>match x with|(j,B,c)=>j≤v.l.length∧B=(b++[91#8])++putL (put d') (v.l.take j)∧B.length≤c,fun x=>v.l.length-x.1,⟨(0,(b++[91#8]),c1),[0,1,2,4],⟨⟨rfl,rfl,rfl⟩,?_⟩,Nat.zero_le _,by rw [List.take_zero]; exact (List.append_nil _).symm,by rw [List.length_append]; exact hc1⟩,fun x hx=>?_⟩
  ·(repeat first|exact trivial|refine ent1 ?_)
   refine And.intro (show b.length+1=(b++[91#8]).length by rw [List.length_append]; rfl) ?_
   (repeat first|exact trivial|refine ent1 ?_)
   refine ⟨fun j hj=>eqC_bytes (fun i hi=>?_) j,by (repeat first|exact trivial|refine ent1 ?_)⟩
   have hi':i<b.length+1:=by rw [List.length_append] at hi; exact hi
   refine app_row (l:=b) (n:=b.length) (k:=1) rfl ?_ (fun i hi=>bytesF_lt hi) (fun i hi=>?_) i hi'
   ·rfl
   ·exact rowl i (by exact hi) rfl
  obtain ⟨j,B,c2⟩:=x
  obtain ⟨i1,i2,i3⟩:=hx
  dsimp only
  have hBl:B.length=b.length+1+(putL (put d') (v.l.take j)).length:=by rw [i2]; simp only [List.length_append,List.length_cons,List.length_nil]; try omega
  have hjl:(putL (put d') (v.l.take j)).length≤(putL (put d') v.l).length:=putL_le _ _ _
  have hBm:B.length+1≤70368744177664:=by omega
  by_cases hj:j<v.l.length
  rotate_left
  ·have e1:decide ((j:Int)<(xm:Int))=false:=decide_eq_false (by omega)
   obtain rfl:j=v.l.length:=by omega
   have hfull:b++91#8::(putL (put d') v.l++[93#8])=B++[93#8]:=by rw [i2,List.take_length]; simp
   rw [hfull]
   (repeat show _∧_;first|refine yr ?_|refine yt ?_|refine yf ?_|refine ya e1 ?_|refine yb e1 ?_|refine yo ?_)
   refine And.intro ⟨i3,by simp only [scale]; omega,by show (B.length+1)*1≤140737488355328; omega⟩ ?_
   intro c3 hc3
   (repeat show _∧_;first|refine yr ?_|refine yt ?_|refine yf ?_|refine yo ?_)
   refine ⟨.a (.c (.sl 2 0 0 (B++[93#8]).length c3)),_,⟨[0,1,5],⟨rfl,rfl,rfl⟩,?_⟩,c3,by rw [List.length_append]; exact hc3,rfl,rfl⟩
   (repeat first|exact trivial|refine ent1 ?_)
   refine And.intro (show B.length+1=(B++[93#8]).length by rw [List.length_append]; rfl) ?_
   (repeat first|exact trivial|refine ent1 ?_)
   refine ⟨fun j hj=>eqC_bytes (fun i hi=>?_) j,by (repeat first|exact trivial|refine ent1 ?_)⟩
   have hi':i<B.length+1:=by rw [List.length_append] at hi; exact hi
   refine app_row (l:=B) (n:=B.length) (k:=1) rfl ?_ (fun i hi=>bytesF_lt hi) (fun i hi=>?_) i hi'
   ·rfl
   ·exact rowl i (by exact hi) rfl
  have e1:decide ((j:Int)<(xm:Int))=true:=decide_eq_true (by omega)
  obtain ⟨A,rfl⟩:∃ A,xa=some A:=by
   cases xa with
   | none=>exact absurd (g4 rfl) (by omega)
   | some A=>exact ⟨A,rfl⟩
  obtain ⟨y,y1,y2⟩:=(g5 A rfl (by omega)).2 j v.l[j] (List.getElem?_eq_getElem hj)
  (repeat show _∧_;first|refine yr ?_|refine yt ?_|refine yf ?_|refine ya e1 ?_|refine yb e1 ?_|refine yo ?_)
  refine ⟨jvS v.l[j] y,⟨.past (i:=0) rfl (by exact y1),rfl⟩,?_⟩
  have hle1:(putL (put d') (v.l.take (j+1))).length≤(putL (put d') v.l).length:=putL_le _ _ _
  have hbs:((b++[91#8]):Bs).length=b.length+1:=by simp only [List.length_append,List.length_cons,List.length_nil]
  by_cases h0:j=0
  ·have e2:decide ((0:Int)<(j:Int))=false:=decide_eq_false (by omega)
   (repeat show _∧_;first|refine yr ?_|refine yt ?_|refine yf ?_|refine ya e2 ?_|refine yb e2 ?_|refine yo ?_)
   have hst:(b++[91#8])++putL (put d') (v.l.take (j+1))=B++put d' v.l[j]:=by rw [putL_step (put d') v.l j hj,if_pos h0,show B=(b++[91#8]) from by rw [i2,h0,List.take_zero]; exact List.append_nil _]
   have hln:=congrArg List.length hst
   simp only [List.length_append,List.length_cons,List.length_nil] at hln hbs
   refine call_same (hrec d' rfl W ms v.l[j] y B c2 hT y2 (hv3 _ (List.getElem_mem hj)) i3 (by (try simp only [List.length_append,List.length_cons,List.length_nil]); omega)) [0,3] rfl ?_ ?_ (fun _ _=>trivial) ?_
   ·(repeat first|exact trivial|refine ent1 ?_)
   ·(repeat first|exact trivial|refine ent1 ?_)
   rintro y' hs ⟨c6,hc6,rfl,rfl⟩
   (repeat show _∧_;first|refine yr ?_|refine yt ?_|refine yf ?_|refine yo ?_)
   refine ⟨(j+1,B++put d' v.l[j],c6),[0,1,2,5],⟨⟨rfl,rfl,rfl⟩,?_⟩,⟨hj,hst.symm,hc6⟩,by dsimp only; omega⟩
   dsimp only
   (repeat first|exact trivial|refine ent1 ?_)
  have e2:decide ((0:Int)<(j:Int))=true:=decide_eq_true (by omega)
  (repeat show _∧_;first|refine yr ?_|refine yt ?_|refine yf ?_|refine ya e2 ?_|refine yb e2 ?_|refine yo ?_)
  refine And.intro ⟨i3,by simp only [scale]; omega,by show (B.length+1)*1≤140737488355328; omega⟩ ?_
  intro c3 hc3
  (repeat show _∧_;first|refine yr ?_|refine yt ?_|refine yf ?_|refine yo ?_)
  have hc3':(B++[44#8]).length≤c3:=by rw [List.length_append]; exact hc3
  have hst:(b++[91#8])++putL (put d') (v.l.take (j+1))=(B++[44#8])++put d' v.l[j]:=by rw [putL_step (put d') v.l j hj,if_neg h0,← i2]
  have hln:=congrArg List.length hst
  simp only [List.length_append,List.length_cons,List.length_nil] at hln hbs
  refine call_same (hrec d' rfl W ms v.l[j] y (B++[44#8]) c3 hT y2 (hv3 _ (List.getElem_mem hj)) hc3' (by (try simp only [List.length_append,List.length_cons,List.length_nil]); omega)) [0,6] rfl ?_ ?_ (fun _ _=>trivial) ?_
  ·(repeat first|exact trivial|refine ent1 ?_)
   exact And.intro (show B.length+1=_ by rw [List.length_append]; rfl) (by (repeat first|exact trivial|refine ent1 ?_))
  ·(repeat first|exact trivial|refine ent1 ?_)
   refine ⟨fun j' hj'=>eqC_bytes (fun i hi=>?_) j',by (repeat first|exact trivial|refine ent1 ?_)⟩
   have hi':i<(B).length+1:=by rw [List.length_append] at hi; exact hi
   refine app_row (l:=B) (n:=(B).length) (k:=1) rfl ?_ (fun i hi=>bytesF_lt hi) (fun i hi=>?_) i hi'
   ·rfl
   ·exact rowl i (by exact hi) rfl
  rintro y' hs ⟨c6,hc6,rfl,rfl⟩
  (repeat show _∧_;first|refine yr ?_|refine yt ?_|refine yf ?_|refine yo ?_)
  refine ⟨(j+1,(B++[44#8])++put d' v.l[j],c6),[0,1,2,7],⟨⟨rfl,rfl,rfl⟩,?_⟩,⟨hj,hst.symm,hc6⟩,by dsimp only; omega⟩
  dsimp only
  (repeat first|exact trivial|refine ent1 ?_)
 ·have f5:decide (v.k=5#8)=false:=decide_eq_false (by rw [k6]; decide)
  have hp:put (d'+1) v=123#8::(putO (put d') v.ns v.l++[125#8]):=by rw [hpv]; unfold put1; rw [if_neg k0,if_neg k1,if_neg k2,if_neg k3,if_neg k4,if_neg (by rw [k6]; decide)]
  rw [hp] at hl ⊢
  have hl2:b.length+(putO (put d') v.ns v.l).length+2≤70368744177664:=by simp only [List.length_cons,List.length_append,List.length_nil] at hl; omega
  (repeat show _∧_;first|refine yr ?_|refine yt ?_|refine yf ?_|refine ya f0 ?_|refine yb f0 ?_|refine ya f1 ?_|refine yb f1 ?_|refine ya f2 ?_|refine yb f2 ?_|refine ya f3 ?_|refine yb f3 ?_|refine ya f4 ?_|refine yb f4 ?_|refine ya f5 ?_|refine yb f5 ?_|refine yo ?_)
  refine And.intro ⟨hc,by simp only [scale]; omega,by show (b.length+1)*1≤140737488355328; omega⟩ ?_
  intro c1 hc1
  (repeat show _∧_;first|refine yr ?_|refine yt ?_|refine yf ?_|refine yo ?_)
  refine .inl ⟨Nat × Bs × Nat,fun x=>match x with|(j,B,c)=>⟨[.any,.a (.c (.sl 3 0 0 B.length c)),.a (.c (.p 2 0 0)),.any,.a (.c (.slc none 0 0)),.any,.any,.any,.any,.any,.a (.c (.w8 v.k)),.any,.any,.any,.any,.any,.any,.any,.any,.any,.any,.any,.any,.any,.any,.any,.any,.any,.any,.any,.any,.any,.any,.any,.any,.any,.any,.any,.any,.any,.any,.any,.any,.any,.any,.any,.any,.any,.any,.any,.any,.any,.any,.any,.any,.any,.any,.any,.any,.any,.any,.any,.any,.any,.a (.c (.slc xa xm xc)),.a (.c (.int .i64 (xm))),.a (.c (.int .i64 (((j:Nat):Int)))),.any,.any,.any,.any,.any,.any,.any,.any,.any,.any,.any,.any,.any,.any,.any,.any,.any,.any,.any,.any,.any,.any,.any,.any,.any],[[.past W ms],[],jvS v ⟨xa,xm,xc,xb,xp,xq⟩,lsC B c]⟩,
   fun x=>match x with|(j,B,c)=>j≤v.l.length∧B=(b++[123#8])++putO (put d') (v.ns.take j) (v.l.take j)∧B.length≤c,fun x=>v.l.length-x.1,⟨(0,(b++[123#8]),c1),[0,1,2,4],⟨⟨rfl,rfl,rfl⟩,?_⟩,Nat.zero_le _,by rw [List.take_zero,List.take_zero]; exact (List.append_nil _).symm,by rw [List.length_append]; exact hc1⟩,fun x hx=>?_⟩
  ·(repeat first|exact trivial|refine ent1 ?_)
   refine And.intro (show b.length+1=(b++[123#8]).length by rw [List.length_append]; rfl) ?_
   (repeat first|exact trivial|refine ent1 ?_)
   refine ⟨fun j hj=>eqC_bytes (fun i hi=>?_) j,by (repeat first|exact trivial|refine ent1 ?_)⟩
   have hi':i<b.length+1:=by rw [List.length_append] at hi; exact hi
   refine app_row (l:=b) (n:=b.length) (k:=1) rfl ?_ (fun i hi=>bytesF_lt hi) (fun i hi=>?_) i hi'
   ·rfl
   ·exact rowl i (by exact hi) rfl
  obtain ⟨j,B,c2⟩:=x
  obtain ⟨i1,i2,i3⟩:=hx
  dsimp only
  have hBl:B.length=b.length+1+(putO (put d') (v.ns.take j) (v.l.take j)).length:=by rw [i2]; simp only [List.length_append,List.length_cons,List.length_nil]; try omega
  have hjl:(putO (put d') (v.ns.take j) (v.l.take j)).length≤(putO (put d') v.ns v.l).length:=putO_le _ _ _ _ hnl
  have hBm:B.length+1≤70368744177664:=by omega
  by_cases hj:j<v.l.length
  rotate_left
  ·have e1:decide ((j:Int)<(xm:Int))=false:=decide_eq_false (by omega)
   obtain rfl:j=v.l.length:=by omega
   have hfull:b++123#8::(putO (put d') v.ns v.l++[125#8])=B++[125#8]:=by rw [i2,show v.ns.take v.l.length=v.ns by rw [← hnl,List.take_length],List.take_length]; simp
   rw [hfull]
   (repeat show _∧_;first|refine yr ?_|refine yt ?_|refine yf ?_|refine ya e1 ?_|refine yb e1 ?_|refine yo ?_)
   refine And.intro ⟨i3,by simp only [scale]; omega,by show (B.length+1)*1≤140737488355328; omega⟩ ?_
   intro c3 hc3
   (repeat show _∧_;first|refine yr ?_|refine yt ?_|refine yf ?_|refine yo ?_)
   refine ⟨.a (.c (.sl 2 0 0 (B++[125#8]).length c3)),_,⟨[0,1,5],⟨rfl,rfl,rfl⟩,?_⟩,c3,by rw [List.length_append]; exact hc3,rfl,rfl⟩
   (repeat first|exact trivial|refine ent1 ?_)
   refine And.intro (show B.length+1=(B++[125#8]).length by rw [List.length_append]; rfl) ?_
   (repeat first|exact trivial|refine ent1 ?_)
   refine ⟨fun j hj=>eqC_bytes (fun i hi=>?_) j,by (repeat first|exact trivial|refine ent1 ?_)⟩
   have hi':i<B.length+1:=by rw [List.length_append] at hi; exact hi
   refine app_row (l:=B) (n:=B.length) (k:=1) rfl ?_ (fun i hi=>bytesF_lt hi) (fun i hi=>?_) i hi'
   ·rfl
   ·exact rowl i (by exact hi) rfl
  have e1:decide ((j:Int)<(xm:Int))=true:=decide_eq_true (by omega)
  obtain ⟨A,rfl⟩:∃ A,xa=some A:=by
   cases xa with
   | none=>exact absurd (g4 rfl) (by omega)
   | some A=>exact ⟨A,rfl⟩
  obtain ⟨y,y1,y2⟩:=(g5 A rfl (by omega)).2 j v.l[j] (List.getElem?_eq_getElem hj)
  obtain ⟨Bn,rfl⟩:∃ Bn,xb=some Bn:=by
   cases xb with
   | none=>exact absurd (show v.ns.length=0 by have h1:=hns.len; simp only [List.length_map] at h1; have h2:=hns.le; have h3:=hns.nil rfl; omega) (by omega)
   | some Bn=>exact ⟨Bn,rfl⟩
  have hjn:j<v.ns.length:=by omega
  have hjp:j<xp:=by have h1:=hns.len; simp only [List.length_map] at h1; omega
  (repeat show _∧_;first|refine yr ?_|refine yt ?_|refine yf ?_|refine ya e1 ?_|refine yb e1 ?_|refine yo ?_)
  refine ⟨jvS v.l[j] y,⟨.past (i:=0) rfl (by exact y1),rfl⟩,?_⟩
  have hle1:(putO (put d') (v.ns.take (j+1)) (v.l.take (j+1))).length≤(putO (put d') v.ns v.l).length:=putO_le _ _ _ _ hnl
  have hbs:((b++[123#8]):Bs).length=b.length+1:=by simp only [List.length_append,List.length_cons,List.length_nil]
  by_cases h0:j=0
  ·have e2:decide ((0:Int)<(j:Int))=false:=decide_eq_false (by omega)
   (repeat show _∧_;first|refine yr ?_|refine yt ?_|refine yf ?_|refine ya e2 ?_|refine yb e2 ?_|refine yo ?_)
   have hst:(b++[123#8])++putO (put d') (v.ns.take (j+1)) (v.l.take (j+1))=(B++quote v.ns[j]++[58#8])++put d' v.l[j]:=by rw [putO_step (put d') v.ns v.l j hj hnl,if_pos h0,show B=(b++[123#8]) from by rw [i2,h0,List.take_zero,List.take_zero]; exact List.append_nil _]
   have hln:=congrArg List.length hst
   simp only [List.length_append,List.length_cons,List.length_nil] at hln hbs
   refine And.intro (show (0:Int)≤(j:Int)∧(j:Int)<(xp:Int) by omega) ?_
   have him:=(hns.im Bn rfl (by have:=hns.le; omega)).one (show ((v.ns.map U8).map SC.str)[j]?=some (.str (U8 v.ns[j])) by simp [hjn])
   refine ⟨[.one (.str (U8 v.ns[j]))],⟨.past (i:=0) rfl (by show ImAt W ms (Bn.add (j*1)) _; rw [Nat.mul_one]; exact him),rfl⟩,?_⟩
   (repeat show _∧_;first|refine yr ?_|refine yt ?_|refine yf ?_|refine yo ?_)
   refine call_same (fn_quote B c2 i3 (hnu _ (List.getElem_mem hjn)) (by (try simp only [List.length_append,List.length_cons,List.length_nil]); omega)) [3] rfl (by exact And.intro rfl (And.intro rfl (And.intro rfl (And.intro rfl trivial)))) ?_ (fun _ _=>trivial) ?_
   ·(repeat first|exact trivial|refine ent1 ?_)
   rintro y' hs ⟨c4,hc4,rfl,rfl⟩
   (repeat show _∧_;first|refine yr ?_|refine yt ?_|refine yf ?_|refine yo ?_)
   refine And.intro ⟨hc4,by simp only [scale]; omega,by show ((B++quote v.ns[j]).length+1)*1≤140737488355328; simp only [List.length_append,List.length_cons,List.length_nil]; omega⟩ ?_
   intro c5 hc5
   (repeat show _∧_;first|refine yr ?_|refine yt ?_|refine yf ?_|refine yo ?_)
   have hc5':((B++quote v.ns[j])++[58#8]).length≤c5:=by rw [List.length_append]; exact hc5
   refine call_same (hrec d' rfl W ms v.l[j] y ((B++quote v.ns[j])++[58#8]) c5 hT y2 (hv3 _ (List.getElem_mem hj)) hc5' (by (try simp only [List.length_append,List.length_cons,List.length_nil]); omega)) [0,7] rfl ?_ ?_ (fun _ _=>trivial) ?_
   ·(repeat first|exact trivial|refine ent1 ?_)
    exact And.intro (show (B++quote v.ns[j]).length+1=_ by simp only [List.length_append,List.length_cons,List.length_nil]) (by (repeat first|exact trivial|refine ent1 ?_))
   ·(repeat first|exact trivial|refine ent1 ?_)
    refine ⟨fun j' hj'=>eqC_bytes (fun i hi=>?_) j',by (repeat first|exact trivial|refine ent1 ?_)⟩
    have hi':i<((B++quote v.ns[j])).length+1:=by rw [List.length_append] at hi; exact hi
    refine app_row (l:=(B++quote v.ns[j])) (n:=((B++quote v.ns[j])).length) (k:=1) rfl ?_ (fun i hi=>bytesM_lt hi) (fun i hi=>?_) i hi'
    ·rfl
    ·exact rowl i (by exact hi) rfl
   rintro y' hs ⟨c6,hc6,rfl,rfl⟩
   (repeat show _∧_;first|refine yr ?_|refine yt ?_|refine yf ?_|refine yo ?_)
   refine ⟨(j+1,((B++quote v.ns[j])++[58#8])++put d' v.l[j],c6),[0,1,2,8],⟨⟨rfl,rfl,rfl⟩,?_⟩,⟨hj,hst.symm,hc6⟩,by dsimp only; omega⟩
   dsimp only
   (repeat first|exact trivial|refine ent1 ?_)
  have e2:decide ((0:Int)<(j:Int))=true:=decide_eq_true (by omega)
  (repeat show _∧_;first|refine yr ?_|refine yt ?_|refine yf ?_|refine ya e2 ?_|refine yb e2 ?_|refine yo ?_)
  refine And.intro ⟨i3,by simp only [scale]; omega,by show (B.length+1)*1≤140737488355328; omega⟩ ?_
  intro c3 hc3
  (repeat show _∧_;first|refine yr ?_|refine yt ?_|refine yf ?_|refine yo ?_)
  have hc3':(B++[44#8]).length≤c3:=by rw [List.length_append]; exact hc3
  have hst:(b++[123#8])++putO (put d') (v.ns.take (j+1)) (v.l.take (j+1))=((B++[44#8])++quote v.ns[j]++[58#8])++put d' v.l[j]:=by rw [putO_step (put d') v.ns v.l j hj hnl,if_neg h0,← i2]
  have hln:=congrArg List.length hst
  simp only [List.length_append,List.length_cons,List.length_nil] at hln hbs
  refine And.intro (show (0:Int)≤(j:Int)∧(j:Int)<(xp:Int) by omega) ?_
  have him:=(hns.im Bn rfl (by have:=hns.le; omega)).one (show ((v.ns.map U8).map SC.str)[j]?=some (.str (U8 v.ns[j])) by simp [hjn])
  refine ⟨[.one (.str (U8 v.ns[j]))],⟨.past (i:=0) rfl (by show ImAt W ms (Bn.add (j*1)) _; rw [Nat.mul_one]; exact him),rfl⟩,?_⟩
  (repeat show _∧_;first|refine yr ?_|refine yt ?_|refine yf ?_|refine yo ?_)
  refine call_same (fn_quote (B++[44#8]) c3 hc3' (hnu _ (List.getElem_mem hjn)) (by (try simp only [List.length_append,List.length_cons,List.length_nil]); omega)) [6] rfl (by exact And.intro rfl (And.intro (show B.length+1=_ by rw [List.length_append]; rfl) (And.intro rfl (And.intro rfl trivial)))) ?_ (fun _ _=>trivial) ?_
  ·(repeat first|exact trivial|refine ent1 ?_)
   refine ⟨fun j' hj'=>eqC_bytes (fun i hi=>?_) j',by (repeat first|exact trivial|refine ent1 ?_)⟩
   have hi':i<(B).length+1:=by rw [List.length_append] at hi; exact hi
   refine app_row (l:=B) (n:=(B).length) (k:=1) rfl ?_ (fun i hi=>bytesF_lt hi) (fun i hi=>?_) i hi'
   ·rfl
   ·exact rowl i (by exact hi) rfl
  rintro y' hs ⟨c4,hc4,rfl,rfl⟩
  (repeat show _∧_;first|refine yr ?_|refine yt ?_|refine yf ?_|refine yo ?_)
  refine And.intro ⟨hc4,by simp only [scale]; omega,by show (((B++[44#8])++quote v.ns[j]).length+1)*1≤140737488355328; simp only [List.length_append,List.length_cons,List.length_nil]; omega⟩ ?_
  intro c5 hc5
  (repeat show _∧_;first|refine yr ?_|refine yt ?_|refine yf ?_|refine yo ?_)
  have hc5':(((B++[44#8])++quote v.ns[j])++[58#8]).length≤c5:=by rw [List.length_append]; exact hc5
  refine call_same (hrec d' rfl W ms v.l[j] y (((B++[44#8])++quote v.ns[j])++[58#8]) c5 hT y2 (hv3 _ (List.getElem_mem hj)) hc5' (by (try simp only [List.length_append,List.length_cons,List.length_nil]); omega)) [0,9] rfl ?_ ?_ (fun _ _=>trivial) ?_
  ·(repeat first|exact trivial|refine ent1 ?_)
   exact And.intro (show ((B++[44#8])++quote v.ns[j]).length+1=_ by simp only [List.length_append,List.length_cons,List.length_nil]) (by (repeat first|exact trivial|refine ent1 ?_))
  ·(repeat first|exact trivial|refine ent1 ?_)
   refine ⟨fun j' hj'=>eqC_bytes (fun i hi=>?_) j',by (repeat first|exact trivial|refine ent1 ?_)⟩
   have hi':i<(((B++[44#8])++quote v.ns[j])).length+1:=by rw [List.length_append] at hi; exact hi
   refine app_row (l:=((B++[44#8])++quote v.ns[j])) (n:=(((B++[44#8])++quote v.ns[j])).length) (k:=1) rfl ?_ (fun i hi=>bytesM_lt hi) (fun i hi=>?_) i hi'
   ·rfl
   ·exact rowl i (by exact hi) rfl
  rintro y' hs ⟨c6,hc6,rfl,rfl⟩
  (repeat show _∧_;first|refine yr ?_|refine yt ?_|refine yf ?_|refine yo ?_)
  refine ⟨(j+1,(((B++[44#8])++quote v.ns[j])++[58#8])++put d' v.l[j],c6),[0,1,2,10],⟨⟨rfl,rfl,rfl⟩,?_⟩,⟨hj,hst.symm,hc6⟩,by dsimp only; omega⟩
  dsimp only
  (repeat first|exact trivial|refine ent1 ?_)
end Sx
end
section
namespace Js
open Sha
theorem isDig_iff (c:BitVec 8):isDig c=(decide (48#8≤c) && decide (c≤57#8)):=by
 revert c; decide +kernel
theorem dig_toNat:∀ c:BitVec 8,isDig c=true→(c-48#8).toNat=c.toNat-48∧c.toNat-48≤9:=by decide +kernel
theorem pnum_stop {n:Nat} {s:Bs} {j:Nat} (h:isDig (L s j)=false):pnum n (s.drop j)=some (n,s.drop j):=by
 rcases Nat.lt_or_ge j s.length with hj|hj
 ·rw [drop_cons s j hj,pnum,if_neg (by rw [h]; decide)]
 ·rw [List.drop_eq_nil_of_le hj]; rfl
theorem dig_lt {s:Bs} {j:Nat} (h:isDig (L s j)=true):j<s.length:=by
 apply Classical.byContradiction
 intro hc
 rw [L_ge (by omega)] at h
 revert h; decide
theorem pnum_step {n:Nat} {s:Bs} {j:Nat} (h:isDig (L s j)=true):pnum n (s.drop j)=if 18446744073709551616≤n*10+((L s j).toNat-48) then none else pnum (n*10+((L s j).toNat-48)) (s.drop (j+1)):=by
 rw [drop_cons s j (dig_lt h),pnum,if_pos h]
theorem w64_mul10 {n d:Nat} (h:n*10+d<18446744073709551616):BitVec.ofNat 64 n*10#64+BitVec.ofNat 64 d=BitVec.ofNat 64 (n*10+d):=by
 apply BitVec.eq_of_toNat_eq
 simp only [BitVec.toNat_add,BitVec.toNat_mul,BitVec.toNat_ofNat]
 omega
theorem big_dec {n d:Nat} (hn:n<18446744073709551616) (hd:d≤9):decide ((18446744073709551615#64-BitVec.ofNat 64 d) / 10#64<BitVec.ofNat 64 n)=decide (18446744073709551616≤n*10+d):=by
 refine decide_eq_decide.2 ?_
 rw [BitVec.lt_def,BitVec.toNat_udiv,BitVec.toNat_sub_of_le (by rw [BitVec.le_def]; simp only [BitVec.toNat_ofNat]; omega)]
 simp only [BitVec.toNat_ofNat]
 rw [show (18446744073709551615:Nat) % 2 ^ 64=18446744073709551615 by decide,show (10:Nat) % 2 ^ 64=10 by decide,Nat.mod_eq_of_lt (show d<2 ^ 64 by omega),Nat.mod_eq_of_lt (show n<2 ^ 64 by omega)]
 omega
theorem set_dig {c:BitVec 8} (h:isDig c=true):(c-48#8).setWidth 64=BitVec.ofNat 64 (c.toNat-48):=by
 apply BitVec.eq_of_toNat_eq
 have:=dig_toNat c h
 rw [BitVec.toNat_setWidth,this.1,BitVec.toNat_ofNat]
end Js
namespace Sx
open Go.RowKit Sha Vi Js

def NumA (s:Bs) (k:Nat) (r:R Nat) (y:SV) (hs:List (List Seg)):Prop :=
 (∃ n k',r=.ok n (s.drop k')∧k≤k'∧k'≤s.length∧y=.tup [.c (.w64 (BitVec.ofNat 64 n)),.c (.int .i64 0)]∧hs=[psr s k']) ∨
 (∃ e v k',r=.bad e∧e≠0∧k≤k'∧k'≤s.length∧y=.tup [.c (.w64 v),.c (.int .i64 e)]∧hs=[psr s k'])
set_option maxRecDepth 20000 in
set_option maxHeartbeats 8000000 in
theorem fn_number' (s:Bs) (k:Nat) (hk:isDig (L s k)=true) (hs:s.length≤1048576):Fn Tryd.prog tds 55 [psr s k] [.c (.p 0 0 0)] (fun _=>True) (NumA s k (number (s.drop k))):=by
 have hkl:=dig_lt hk
 refine fn_of_body tds_ok follows_ Tryd.func55 rfl (t:=.a (.c (.p 0 0 0))::anys (Tryd.f55.ntmps-1)) rfl (fun w r0 hr0 _=>?_)
 obtain ⟨x0,rfl⟩:=len1' hr0
 (repeat show _∧_;first|refine yr ?_|refine yt ?_|refine yf ?_|refine yo ?_)
 refine call_same (fn_peek s k) [0] rfl (by (repeat first|exact trivial|refine ent1 ?_)) (by (repeat first|exact trivial|refine ent1 ?_)) (fun _ _=>trivial) ?_
 rintro x hs' ⟨rfl,rfl⟩
 refine .inl ⟨Nat × Nat,fun (j,n)=>⟨[.a (.c (.p 0 0 0)),.any,.a (.c (.w64 (0#64))),.a (.c (.int .i64 (0))),.a (.c (.int .i64 ((k:Int)))),.a (.c (.w64 ((BitVec.ofNat 64 n)))),.a (.c (.w8 ((L s j)))),.any,.any,.any,.any,.any,.any,.any,.any,.any,.any,.any,.any,.any,.any,.any,.any,.any,.any,.any,.any,.any,.any,.any,.any,.any,.any,.any,.any,.any,.any,.any,.any,.any,.any,.any,.any,.any,.any,.any,.any,.any,.any,.any,.any,.any,.any,.any,.any,.any,.any,.any],[psr s j]⟩,fun (j,n)=>k≤j∧j≤s.length∧n<18446744073709551616∧pnum 0 (s.drop k)=pnum n (s.drop j),fun (j,_)=>s.length-j,⟨(k,0),[0],⟨⟨rfl,rfl,rfl⟩,by (repeat first|exact trivial|refine ent1 ?_)⟩,Nat.le_refl _,by omega,by decide,rfl⟩,fun (j,n) hj=>?_⟩
 obtain ⟨g1,g2,g3,g4⟩:=hj
 have hD:=isDig_iff (L s j)
 dsimp only
 by_cases hd:isDig (L s j)=true
 ·have hjl:=dig_lt hd
  rw [hd] at hD
  have hD:=hD.symm
  rw [Bool.and_eq_true] at hD
  obtain ⟨e1,e2⟩:=hD
  have hst:=pnum_step (n:=n) hd
  obtain ⟨d1,d2⟩:=dig_toNat _ hd
  obtain ⟨d,hdd⟩:∃ d,(L s j).toNat-48=d:=⟨_,rfl⟩
  have hsw:=set_dig hd
  rw [hdd] at hst d2 hsw
  have hbig:=big_dec (d:=d) g3 d2
  rw [← hsw] at hbig
  by_cases hb:18446744073709551616≤n*10+d
  ·rw [decide_eq_true hb] at hbig
   rw [if_pos hb] at hst
   (repeat show _∧_;first|refine yr ?_|refine yt ?_|refine yf ?_|refine ya e1 ?_|refine yb e1 ?_|refine ya e2 ?_|refine yb e2 ?_|refine ya hbig ?_|refine yb hbig ?_|refine yo ?_)
   refine ⟨.tup [.c (.w64 0#64),.c (.int .i64 2)],_,⟨[0],⟨rfl,rfl,rfl⟩,by (repeat first|exact trivial|refine ent1 ?_)⟩,.inr ⟨2,0#64,j,?_,by decide,g1,g2,rfl,rfl⟩⟩
   unfold number
   rw [g4,hst]
  ·rw [decide_eq_false hb] at hbig
   rw [if_neg hb] at hst
   (repeat show _∧_;first|refine yr ?_|refine yt ?_|refine yf ?_|refine ya e1 ?_|refine yb e1 ?_|refine ya e2 ?_|refine yb e2 ?_|refine ya hbig ?_|refine yb hbig ?_|refine yo ?_)
   refine call_same (fn_peek s (j+1)) [0] rfl (by (repeat first|exact trivial|refine ent1 ?_)) (by (repeat first|exact trivial|refine ent1 ?_)) (fun _ _=>trivial) ?_
   rintro x hs' ⟨rfl,rfl⟩
   refine ⟨(j+1,n*10+d),[0],⟨⟨rfl,rfl,rfl⟩,?_⟩,⟨by omega,by omega,by omega,g4.trans hst⟩,by dsimp only; omega⟩
   (repeat first|exact trivial|refine ent1 ?_)
   refine And.intro (by rw [hsw]; exact w64_mul10 (by omega)) ?_
   (repeat first|exact trivial|refine ent1 ?_)
 ·rw [Bool.not_eq_true] at hd
  rw [hd] at hD
  have hD:=hD.symm
  have hst:=pnum_stop (n:=n) hd
  have hN:number (s.drop k)=if 1<(s.drop k).length-(s.drop j).length∧(s.drop k).head?=some 48#8 then .bad 4 else .ok n (s.drop j):=by
   unfold number
   rw [g4,hst]
  have hlen:(s.drop k).length-(s.drop j).length=j-k:=by rw [List.length_drop,List.length_drop]; omega
  have hhead:(s.drop k).head?=some (L s k):=by rw [drop_cons s k hkl]; rfl
  rw [hlen,hhead] at hN
  rcases e1:decide (48#8≤L s j) with _|_
  ·by_cases c1:(k:Int)+1<(j:Int)
   ·have f1:decide ((k:Int)+1<(j:Int))=true:=decide_eq_true c1
    by_cases c2:L s k=48#8
    ·have f2:decide (L s k=48#8)=true:=decide_eq_true c2
     rw [if_pos ⟨by omega,congrArg some c2⟩] at hN
     (repeat show _∧_;first|refine yr ?_|refine yt ?_|refine yf ?_|refine ya e1 ?_|refine yb e1 ?_|refine ya f1 ?_|refine yb f1 ?_|refine yo ?_)
     refine And.intro ⟨by omega,by rw [U8_len]; omega⟩ ?_
     rw [show ((U8 s).getD ((k:Int)).toNat 0).toBitVec=L s k from U8_get s k hkl]
     (repeat show _∧_;first|refine yr ?_|refine yt ?_|refine yf ?_|refine ya f1 ?_|refine yb f1 ?_|refine ya f2 ?_|refine yb f2 ?_|refine yo ?_)
     exact ⟨.tup [.c (.w64 0#64),.c (.int .i64 4)],_,⟨[0],⟨rfl,rfl,rfl⟩,by (repeat first|exact trivial|refine ent1 ?_)⟩,.inr ⟨4,0#64,j,hN,by decide,g1,g2,rfl,rfl⟩⟩
    ·have f2:decide (L s k=48#8)=false:=decide_eq_false c2
     rw [if_neg (fun h=>c2 (Option.some.inj h.2))] at hN
     (repeat show _∧_;first|refine yr ?_|refine yt ?_|refine yf ?_|refine ya e1 ?_|refine yb e1 ?_|refine ya f1 ?_|refine yb f1 ?_|refine yo ?_)
     refine And.intro ⟨by omega,by rw [U8_len]; omega⟩ ?_
     rw [show ((U8 s).getD ((k:Int)).toNat 0).toBitVec=L s k from U8_get s k hkl]
     (repeat show _∧_;first|refine yr ?_|refine yt ?_|refine yf ?_|refine ya f1 ?_|refine yb f1 ?_|refine ya f2 ?_|refine yb f2 ?_|refine yo ?_)
     exact ⟨.tup [.c (.w64 (BitVec.ofNat 64 n)),.c (.int .i64 0)],_,⟨[0],⟨rfl,rfl,rfl⟩,by (repeat first|exact trivial|refine ent1 ?_)⟩,.inl ⟨n,j,hN,g1,g2,rfl,rfl⟩⟩
   ·have f1:decide ((k:Int)+1<(j:Int))=false:=decide_eq_false c1
    rw [if_neg (fun h=>c1 (by omega))] at hN
    (repeat show _∧_;first|refine yr ?_|refine yt ?_|refine yf ?_|refine ya e1 ?_|refine yb e1 ?_|refine ya f1 ?_|refine yb f1 ?_|refine yo ?_)
    exact ⟨.tup [.c (.w64 (BitVec.ofNat 64 n)),.c (.int .i64 0)],_,⟨[0],⟨rfl,rfl,rfl⟩,by (repeat first|exact trivial|refine ent1 ?_)⟩,.inl ⟨n,j,hN,g1,g2,rfl,rfl⟩⟩
  ·rw [e1] at hD
   have e2:decide (L s j≤57#8)=false:=hD
   by_cases c1:(k:Int)+1<(j:Int)
   ·have f1:decide ((k:Int)+1<(j:Int))=true:=decide_eq_true c1
    by_cases c2:L s k=48#8
    ·have f2:decide (L s k=48#8)=true:=decide_eq_true c2
     rw [if_pos ⟨by omega,congrArg some c2⟩] at hN
     (repeat show _∧_;first|refine yr ?_|refine yt ?_|refine yf ?_|refine ya e1 ?_|refine yb e1 ?_|refine ya e2 ?_|refine yb e2 ?_|refine ya f1 ?_|refine yb f1 ?_|refine yo ?_)
     refine And.intro ⟨by omega,by rw [U8_len]; omega⟩ ?_
     rw [show ((U8 s).getD ((k:Int)).toNat 0).toBitVec=L s k from U8_get s k hkl]
     (repeat show _∧_;first|refine yr ?_|refine yt ?_|refine yf ?_|refine ya f1 ?_|refine yb f1 ?_|refine ya f2 ?_|refine yb f2 ?_|refine yo ?_)
     exact ⟨.tup [.c (.w64 0#64),.c (.int .i64 4)],_,⟨[0],⟨rfl,rfl,rfl⟩,by (repeat first|exact trivial|refine ent1 ?_)⟩,.inr ⟨4,0#64,j,hN,by decide,g1,g2,rfl,rfl⟩⟩
    ·have f2:decide (L s k=48#8)=false:=decide_eq_false c2
     rw [if_neg (fun h=>c2 (Option.some.inj h.2))] at hN
     (repeat show _∧_;first|refine yr ?_|refine yt ?_|refine yf ?_|refine ya e1 ?_|refine yb e1 ?_|refine ya e2 ?_|refine yb e2 ?_|refine ya f1 ?_|refine yb f1 ?_|refine yo ?_)
     refine And.intro ⟨by omega,by rw [U8_len]; omega⟩ ?_
     rw [show ((U8 s).getD ((k:Int)).toNat 0).toBitVec=L s k from U8_get s k hkl]
     (repeat show _∧_;first|refine yr ?_|refine yt ?_|refine yf ?_|refine ya f1 ?_|refine yb f1 ?_|refine ya f2 ?_|refine yb f2 ?_|refine yo ?_)
     exact ⟨.tup [.c (.w64 (BitVec.ofNat 64 n)),.c (.int .i64 0)],_,⟨[0],⟨rfl,rfl,rfl⟩,by (repeat first|exact trivial|refine ent1 ?_)⟩,.inl ⟨n,j,hN,g1,g2,rfl,rfl⟩⟩
   ·have f1:decide ((k:Int)+1<(j:Int))=false:=decide_eq_false c1
    rw [if_neg (fun h=>c1 (by omega))] at hN
    (repeat show _∧_;first|refine yr ?_|refine yt ?_|refine yf ?_|refine ya e1 ?_|refine yb e1 ?_|refine ya e2 ?_|refine yb e2 ?_|refine ya f1 ?_|refine yb f1 ?_|refine yo ?_)
    exact ⟨.tup [.c (.w64 (BitVec.ofNat 64 n)),.c (.int .i64 0)],_,⟨[0],⟨rfl,rfl,rfl⟩,by (repeat first|exact trivial|refine ent1 ?_)⟩,.inl ⟨n,j,hN,g1,g2,rfl,rfl⟩⟩
end Sx
end
section
namespace Sx
open Go.RowKit Sha Vi Js

theorem U8_dj (a b:Bs):decide (U8 a=U8 b)=decide (a=b):=decide_eq_decide.2 ⟨U8_inj,congrArg U8⟩
theorem hasS_U8 (t:Bs):∀ ns:List Bs,hasS (U8 t) (ns.map U8)=decide (t∈ns)
 | []=>rfl
 | n::ns=>by
  rw [List.map_cons,hasS,hasS_U8 t ns,U8_dj]
  by_cases h:t=n
  ·subst h; simp
  ·rw [decide_eq_false h]; simp [h]
def hadC (ns:List Bs):List Seg:=[.obj (.strs (ns.map U8))]
def NameA (W:World) (ms:List Nat) (s:Bs) (k:Nat) (ns:List Bs) (r:R Bs) (y:SV) (hs:List (List Seg)):Prop :=
 (∃ t k',r=.ok t (s.drop k')∧k≤k'∧k'≤s.length∧y=.tup [.c (.str (U8 t)),.c (.int .i64 0)]∧hs=[[.past W ms],psr s k',hadC (ns++[t])]) ∨
 (∃ e k' l,r=.bad e∧e≠0∧k≤k'∧k'≤s.length∧y=.tup [.c (.str []),.c (.int .i64 e)]∧hs=[[.past W ms],psr s k',hadC l])
theorem drop_L {s:Bs} {k:Nat}:(k<s.length∧s.drop k=L s k::s.drop (k+1))∨(s.length≤k∧s.drop k=[]∧L s k=0#8):=by
 rcases Nat.lt_or_ge k s.length with h|h
 ·exact .inl ⟨h,drop_cons s k h⟩
 ·exact .inr ⟨h,List.drop_eq_nil_of_le h,L_ge h⟩
set_option maxRecDepth 20000 in
set_option maxHeartbeats 8000000 in
theorem fn_name {W:World} {ms:List Nat} (hT:Tabs W ms) (s:Bs) (k:Nat) (ns:List Bs) (hk:k≤s.length) (hs:s.length≤1048576):FnR Tryd.prog tds 72 1 [[.past W ms],psr s k,hadC ns] [.c (.p 1 0 0),.c (.mh 2)] (fun _=>True) (NameA W ms s k ns (pname (s.drop k) ns)):=by
 refine fn_of_body tds_ok follows_ Tryd.func72 rfl (t:=.a (.c (.p 1 0 0))::.a (.c (.mh 2))::anys (Tryd.f72.ntmps-2)) rfl (fun w r0 hr0 _=>?_)
 obtain ⟨x0,x1,x2,rfl⟩:=len3' hr0
 (repeat show _∧_;first|refine yr ?_|refine yt ?_|refine yf ?_|refine yo ?_)
 refine call_same (fn_blanks s k hk hs) [1] rfl (by (repeat first|exact trivial|refine ent1 ?_)) (by (repeat first|exact trivial|refine ent1 ?_)) (fun _ _=>trivial) ?_
 rintro x hs' ⟨k1,g1,g2,g3,rfl,rfl⟩
 (repeat show _∧_;first|refine yr ?_|refine yt ?_|refine yf ?_|refine yo ?_)
 refine call_same (fn_peek s k1) [1] rfl (by (repeat first|exact trivial|refine ent1 ?_)) (by (repeat first|exact trivial|refine ent1 ?_)) (fun _ _=>trivial) ?_
 rintro x hs' ⟨rfl,rfl⟩
 by_cases c1:L s k1=34#8
 rotate_left
 ·have e1:decide (L s k1≠34#8)=true:=decide_eq_true c1
  (repeat show _∧_;first|refine yr ?_|refine yt ?_|refine yf ?_|refine ya e1 ?_|refine yb e1 ?_|refine yo ?_)
  refine ⟨.tup [.c (.str []),.c (.int .i64 4)],_,⟨[0,1,2],⟨rfl,rfl,rfl⟩,by (repeat first|exact trivial|refine ent1 ?_)⟩,.inr ⟨4,k1,ns,?_,by decide,g1,g2,rfl,rfl⟩⟩
  unfold pname
  rw [← g3]
  rcases drop_L (s:=s) (k:=k1) with ⟨_,h⟩|⟨_,h,_⟩
  ·rw [h]; dsimp only; rw [if_neg c1]
  ·rw [h]
 have e1:decide (L s k1≠34#8)=false:=decide_eq_false (not_not_intro c1)
 have hk1:k1<s.length:=by
  rcases drop_L (s:=s) (k:=k1) with ⟨h,_⟩|⟨_,_,h⟩
  ·exact h
  ·rw [h] at c1; exact absurd c1 (by decide)
 have hP:pname (s.drop k) ns=match text (s.drop (k1+1)) with
   | .bad e=>.bad e
   | .ok t r=>if t∈ns then .bad 18 else match blanks r with
    | []=>.bad 4
    | c::r=>if c=58#8 then .ok t r else .bad 4:=by
  unfold pname
  rw [← g3,drop_cons s k1 hk1]
  dsimp only
  rw [if_pos c1]
  cases text (s.drop (k1+1)) with
  | bad e=>rfl
  | ok t r =>
   dsimp only
   cases blanks r <;> rfl
 (repeat show _∧_;first|refine yr ?_|refine yt ?_|refine yf ?_|refine ya e1 ?_|refine yb e1 ?_|refine yo ?_)
 refine call_same (fn_text hT s k1 hk1 hs) [0,1] rfl (by (repeat first|exact trivial|refine ent1 ?_)) (by (repeat first|exact trivial|refine ent1 ?_)) (fun _ _=>trivial) ?_
 rintro x hs' (⟨t,k2,q1,q2,q3,rfl,rfl⟩|⟨e,k2,q1,q0,q2,q3,rfl,rfl⟩)
 rotate_left
 ·have f1:decide (e≠0)=true:=decide_eq_true q0
  (repeat show _∧_;first|refine yr ?_|refine yt ?_|refine yf ?_|refine ya f1 ?_|refine yb f1 ?_|refine yo ?_)
  exact ⟨.tup [.c (.str []),.c (.int .i64 e)],_,⟨[0,1,2],⟨rfl,rfl,rfl⟩,by (repeat first|exact trivial|refine ent1 ?_)⟩,.inr ⟨e,k2,ns,by rw [hP,q1],q0,by omega,q3,rfl,rfl⟩⟩
 rw [q1] at hP
 dsimp only at hP
 (repeat show _∧_;first|refine yr ?_|refine yt ?_|refine yf ?_|refine yo ?_)
 have hh:=hasS_U8 t ns
 by_cases c2:t∈ns
 ·rw [decide_eq_true c2] at hh
  rw [if_pos c2] at hP
  (repeat show _∧_;first|refine yr ?_|refine yt ?_|refine yf ?_|refine ya hh ?_|refine yb hh ?_|refine yo ?_)
  exact ⟨.tup [.c (.str []),.c (.int .i64 18)],_,⟨[0,1,2],⟨rfl,rfl,rfl⟩,by (repeat first|exact trivial|refine ent1 ?_)⟩,.inr ⟨18,k2,ns,hP,by decide,by omega,q3,rfl,rfl⟩⟩
 rw [decide_eq_false c2] at hh
 rw [if_neg c2] at hP
 have hput:putL' (U8 t) (ns.map U8)=(ns++[t]).map U8:=by
  unfold putL'; rw [hh]; simp
 (repeat show _∧_;first|refine yr ?_|refine yt ?_|refine yf ?_|refine ya hh ?_|refine yb hh ?_|refine yo ?_)
 rw [hput]
 (repeat show _∧_;first|refine yr ?_|refine yt ?_|refine yf ?_|refine yo ?_)
 refine call_same (fn_blanks s k2 q3 hs) [1] rfl (by (repeat first|exact trivial|refine ent1 ?_)) (by (repeat first|exact trivial|refine ent1 ?_)) (fun _ _=>trivial) ?_
 rintro x hs' ⟨k3,r1,r2,r3,rfl,rfl⟩
 (repeat show _∧_;first|refine yr ?_|refine yt ?_|refine yf ?_|refine yo ?_)
 refine call_same (fn_peek s k3) [1] rfl (by (repeat first|exact trivial|refine ent1 ?_)) (by (repeat first|exact trivial|refine ent1 ?_)) (fun _ _=>trivial) ?_
 rintro x hs' ⟨rfl,rfl⟩
 rw [← r3] at hP
 by_cases c3:L s k3=58#8
 ·have f3:decide (L s k3≠58#8)=false:=decide_eq_false (not_not_intro c3)
  have hk3:k3<s.length:=by
   rcases drop_L (s:=s) (k:=k3) with ⟨h,_⟩|⟨_,_,h⟩
   ·exact h
   ·rw [h] at c3; exact absurd c3 (by decide)
  rw [drop_cons s k3 hk3] at hP
  dsimp only at hP
  rw [if_pos c3] at hP
  (repeat show _∧_;first|refine yr ?_|refine yt ?_|refine yf ?_|refine ya f3 ?_|refine yb f3 ?_|refine yo ?_)
  exact ⟨.tup [.c (.str (U8 t)),.c (.int .i64 0)],_,⟨[0,1,2],⟨rfl,rfl,rfl⟩,by (repeat first|exact trivial|refine ent1 ?_)⟩,.inl ⟨t,k3+1,hP,by omega,by omega,rfl,rfl⟩⟩
 ·have f3:decide (L s k3≠58#8)=true:=decide_eq_true c3
  (repeat show _∧_;first|refine yr ?_|refine yt ?_|refine yf ?_|refine ya f3 ?_|refine yb f3 ?_|refine yo ?_)
  refine ⟨.tup [.c (.str []),.c (.int .i64 4)],_,⟨[0,1,2],⟨rfl,rfl,rfl⟩,by (repeat first|exact trivial|refine ent1 ?_)⟩,.inr ⟨4,k3,ns++[t],?_,by decide,by omega,r2,rfl,rfl⟩⟩
  rcases drop_L (s:=s) (k:=k3) with ⟨_,h⟩|⟨_,h,_⟩
  ·rw [h] at hP; dsimp only at hP; rw [if_neg c3] at hP; exact hP
  ·rw [h] at hP; exact hP
end Sx
end
section
namespace Sx
open Go.RowKit Sha Vi Js

def ValA (W:World) (ms:List Nat) (d:Nat) (s:Bs) (k:Nat) (r:R JT) (y:SV) (hs:List (List Seg)):Prop :=
 (∃ v x k' W' ms',r=.ok v (s.drop k')∧k≤k'∧k'≤s.length∧Later W ms W' ms'∧TAt W' ms' d v x∧y=.tup [.agg (jvS v x),.c (.int .i64 0)]∧hs=[[.past W' ms'],psr s k']) ∨
 (∃ e v x k' W' ms',r=.bad e∧e≠0∧k≤k'∧k'≤s.length∧Later W ms W' ms'∧y=.tup [.agg (jvS v x),.c (.int .i64 e)]∧hs=[[.past W' ms'],psr s k'])
def jt0:JT:=.mk 0#8 0#64 [] [] []
abbrev vl0:List Seg:=[.one (.w8 5#8),.one (.w64 0#64),.one (.str []),.one (.slc none 0 0),.one (.slc none 0 0)]
abbrev vl1 (i n c:Nat):List Seg:=[.one (.w8 5#8),.one (.w64 0#64),.one (.str []),.one (.sl i 0 0 n c),.one (.slc none 0 0)]
abbrev vz:List Seg:=[.one (.w8 0#8),.one (.w64 0#64),.one (.str []),.one (.slc none 0 0),.one (.slc none 0 0)]
theorem marks_off:marksOk=false:=rfl
theorem plist_bad {pv:Bs→R JT} {f:Nat} {l:Bs} {acc:List JT} {e:Int} (h:pv l=.bad e):plist pv (f+1) l acc=.bad e:=by
 rw [plist,h]
theorem plist_next {pv:Bs→R JT} {f:Nat} {l r r':Bs} {acc:List JT} {x:JT} (h:pv l=.ok x r) (hb:blanks r=44#8::r'):plist pv (f+1) l acc=plist pv f r' (acc++[x]):=by
 rw [plist,h]
 dsimp only
 rw [hb]
 dsimp only
 rw [if_pos rfl]
theorem plist_end {pv:Bs→R JT} {f:Nat} {l r r':Bs} {acc:List JT} {x:JT} (h:pv l=.ok x r) (hb:blanks r=93#8::r'):plist pv (f+1) l acc=.ok (.mk 5#8 0#64 [] (acc++[x]) []) r':=by
 rw [plist,h]
 dsimp only
 rw [hb]
 dsimp only
 rw [if_neg (by decide),if_pos rfl]
theorem plist_no {pv:Bs→R JT} {f:Nat} {l r:Bs} {acc:List JT} {x:JT} {c:BitVec 8} (h:pv l=.ok x r) (h1:∀ r',blanks r≠44#8::r') (h2:∀ r',blanks r≠93#8::r'):plist pv (f+1) l acc=.bad 4:=by
 rw [plist,h]
 dsimp only
 cases hb:blanks r with
 | nil=>rfl
 | cons c r' =>
  dsimp only
  rw [if_neg (fun hc=>h1 r' (by rw [hb,hc])),if_neg (fun hc=>h2 r' (by rw [hb,hc]))]
theorem L_of {s r:Bs} {k:Nat} {c:BitVec 8} (h:s.drop k=c::r):L s k=c∧k<s.length∧r=s.drop (k+1):=by
 rcases drop_L (s:=s) (k:=k) with ⟨h1,h2⟩|⟨_,h2,_⟩
 ·rw [h] at h2
  injection h2 with h2 h3
  exact ⟨h2.symm,h1,h3⟩
 ·rw [h] at h2; cases h2
theorem of_L {s:Bs} {k:Nat} {c:BitVec 8} (h:L s k=c) (hc:c≠0#8):s.drop k=c::s.drop (k+1)∧k<s.length:=by
 rcases drop_L (s:=s) (k:=k) with ⟨h1,h2⟩|⟨_,_,h2⟩
 ·rw [h] at h2; exact ⟨h2,h1⟩
 ·rw [h] at h2; exact absurd h2 hc
set_option maxRecDepth 20000 in
set_option maxHeartbeats 16000000 in
theorem fn_list {W:World} {ms:List Nat} (hT:Tabs W ms) (d:Nat) (depth:Nat) (hd:depth≤8) (s:Bs) (hs:s.length≤1048576) (hv:∀ (W:World) (ms:List Nat) (k:Nat),Tabs W ms→k≤s.length→FnR Tryd.prog tds 42 1 [[.past W ms],psr s k] [.c (.p 1 0 0),.c (.int .i64 ((depth+1:Nat):Int))] (fun _=>True) (ValA W ms d s k (pval d (s.drop k))))
  (k:Nat) (hk:k<s.length):FnR Tryd.prog tds 56 1 [[.past W ms],psr s k] [.c (.p 1 0 0),.c (.int .i64 (depth:Int))] (fun _=>True) (ValA W ms (d+1) s k (lists (pval d) (s.drop (k+1)))):=by
 refine fn_of_bodyW tds_ok follows_ Tryd.func56 rfl (t:=.a (.c (.p 1 0 0))::.a (.c (.int .i64 (depth:Int)))::anys (Tryd.f56.ntmps-2)) rfl (fun w r0 hr0 _=>?_)
 obtain ⟨x0,x1,rfl⟩:=len2' hr0
 (repeat show _∧_;first|refine yr ?_|refine yt ?_|refine yf ?_|refine yo ?_)
 refine call_same (fn_blanks s (k+1) (by omega) hs) [1] rfl (by (repeat first|exact trivial|refine ent1 ?_)) (by (repeat first|exact trivial|refine ent1 ?_)) (fun _ _=>trivial) ?_
 rintro x hs' ⟨k1,g1,g2,g3,rfl,rfl⟩
 (repeat show _∧_;first|refine yr ?_|refine yt ?_|refine yf ?_|refine yo ?_)
 refine call_same (fn_peek s k1) [1] rfl (by (repeat first|exact trivial|refine ent1 ?_)) (by (repeat first|exact trivial|refine ent1 ?_)) (fun _ _=>trivial) ?_
 rintro x hs' ⟨rfl,rfl⟩
 by_cases c1:L s k1=93#8
 ·have e1:decide (L s k1=93#8)=true:=decide_eq_true c1
  obtain ⟨h1,h2⟩:=of_L c1 (by decide)
  have hP:lists (pval d) (s.drop (k+1))=.ok (.mk 5#8 0#64 [] [] []) (s.drop (k1+1)):=by
   unfold lists
   rw [← g3,h1]
   dsimp only
   rw [if_pos rfl]
  (repeat show _∧_;first|refine yr ?_|refine yt ?_|refine yf ?_|refine ya e1 ?_|refine yb e1 ?_|refine yo ?_)
  exact FinW.of ⟨.tup [.agg (jvS (.mk 5#8 0#64 [] [] []) jc0),.c (.int .i64 0)],_,⟨[0,1],⟨rfl,rfl,rfl⟩,by (repeat first|exact trivial|refine ent1 ?_)⟩,.inl ⟨_,jc0,k1+1,W,ms,hP,by omega,by omega,Later.refl _ _,TAt.leaf rfl rfl _,rfl,rfl⟩⟩
 have e1:decide (L s k1=93#8)=false:=decide_eq_false c1
 obtain ⟨f0,hf0,hP0⟩:∃ f,s.length-k1<f∧lists (pval d) (s.drop (k+1))=plist (pval d) f (s.drop k1) []:=by
  rcases drop_L (s:=s) (k:=k1) with ⟨h1,h2⟩|⟨h1,h2,_⟩
  ·refine ⟨(s.drop k1).length+1,by rw [List.length_drop]; omega,?_⟩
   unfold lists
   rw [← g3,h2]
   dsimp only
   rw [if_neg c1]
  ·refine ⟨1,by omega,?_⟩
   unfold lists
   rw [← g3,h2]
 (repeat show _∧_;first|refine yr ?_|refine yt ?_|refine yf ?_|refine ya e1 ?_|refine yb e1 ?_|refine yo ?_)
 refine .inl ⟨Option (List JT × List SC × Nat) × Nat × World × List Nat,fun x=>match x with
  | (none,j,W',ms')=>⟨[.a (.c (.p 1 0 0)),.a (.c (.int .i64 ((depth:Int)))),.any,.any,.a (.c (.p 2 0 0)),.a (.c (.int .i64 (0))),.a (.c (.p 3 0 0)),.any,.any,.any,.any,.any,.any,.any,.any,.any,.any,.any,.any,.any,.any,.any,.any,.any,.any,.any,.any,.any,.any,.any,.any,.any,.any,.any,.any,.any,.any,.any,.any,.any,.any,.any,.any,.any,.any,.any,.any,.any,.any,.any,.any,.any,.any,.any,.any,.any,.any,.any,.any,.any,.any,.any,.any,.any,.any,.any,.any,.any,.any,.any,.any],[[.past W' ms'],psr s j,vz,vl0]⟩
  | (some (done,cs,c),j,W',ms')=>⟨[.a (.c (.p 1 0 0)),.a (.c (.int .i64 ((depth:Int)))),.any,.any,.a (.c (.p 2 0 0)),.a (.c (.int .i64 (0))),.a (.c (.p 3 0 0)),.any,.any,.any,.any,.any,.any,.any,.any,.any,.any,.any,.any,.any,.any,.any,.any,.any,.any,.any,.any,.any,.any,.any,.any,.any,.any,.any,.any,.any,.any,.any,.any,.any,.any,.any,.any,.any,.any,.any,.any,.any,.any,.any,.any,.any,.any,.any,.any,.any,.any,.any,.any,.any,.any,.any,.any,.any,.any,.any,.any,.any,.any,.any,.any],[[.past W' ms'],psr s j,vz,vl1 4 done.length c,[.row (scale c (4+1)) (nthC cs)]]⟩,
  fun x=>match x with
  | (none,j,W',ms')=>k<j∧j≤s.length∧Later W ms W' ms'∧∃ f,s.length-j<f∧lists (pval d) (s.drop (k+1))=plist (pval d) f (s.drop j) []
  | (some (done,cs,c),j,W',ms')=>k<j∧j≤s.length∧Later W ms W' ms'∧done.length≤j∧done.length≤c∧RowJ W' ms' d cs done∧∃ f,s.length-j<f∧lists (pval d) (s.drop (k+1))=plist (pval d) f (s.drop j) done,
  fun x=>s.length-x.2.1,⟨(none,k1,W,ms),[0,1,2,3],⟨⟨rfl,rfl,rfl⟩,by (repeat first|exact trivial|refine ent1 ?_)⟩,by omega,g2,Later.refl _ _,f0,hf0,hP0⟩,fun x hx=>?_⟩
 rcases x with ⟨_|⟨done,cs,c⟩,j,W',ms'⟩
 ·obtain ⟨q1,q2,hL,f,hf,hP⟩:=hx
  obtain ⟨f,rfl⟩:∃ f',f=f'+1:=⟨f-1,by omega⟩
  dsimp only
  (repeat show _∧_;first|refine yr ?_|refine yt ?_|refine yf ?_|refine yo ?_)
  refine call_past (hv W' ms' j (hT.later hL) q2) 0 [1] rfl rfl (by (repeat first|exact trivial|refine ent1 ?_)) (by (repeat first|exact trivial|refine ent1 ?_)) (fun _ _=>trivial) (fun x hs hr=>?_) ?_
  ·rcases hr with ⟨v,x,k',W5,ms5,_,_,_,hL5,_,_,rfl⟩|⟨e,v,x,k',W5,ms5,_,_,_,_,hL5,_,rfl⟩
   ·exact ⟨W5,ms5,rfl,hL5⟩
   ·exact ⟨W5,ms5,rfl,hL5⟩
  rintro y hs' (⟨v,x,k',W5,ms5,p1,p2,p3,hL5,hx5,rfl,rfl⟩|⟨e,v,x,k',W5,ms5,p1,p0,p2,p3,hL5,rfl,rfl⟩)
  rotate_left
  ·have f1:decide (e≠0)=true:=decide_eq_true p0
   (repeat show _∧_;first|refine yr ?_|refine yt ?_|refine yf ?_|refine ya f1 ?_|refine yb f1 ?_|refine yo ?_)
   exact FinW.of ⟨.tup [.agg (jvS jt0 jc0),.c (.int .i64 e)],_,⟨[0,1],⟨rfl,rfl,rfl⟩,by (repeat first|exact trivial|refine ent1 ?_)⟩,.inr ⟨e,jt0,jc0,k',W5,ms5,by rw [hP,plist_bad p1],p0,by omega,p3,hL.trans hL5,rfl,rfl⟩⟩
  have hrw:RowJ W5 ms5 d (flat (jvS v x)) [v]:=RowJ.nil.snoc hx5
  (repeat show _∧_;first|refine yr ?_|refine yt ?_|refine yf ?_|refine yo ?_)
  refine And.intro (show 0+5≤5 by decide) ?_
  (repeat show _∧_;first|refine yr ?_|refine yt ?_|refine yf ?_|refine yo ?_)
  intro c2 hc2
  (repeat show _∧_;first|refine yr ?_|refine yt ?_|refine yf ?_|refine yo ?_)
  refine call_same (fn_blanks s k' p3 hs) [1] rfl (by (repeat first|exact trivial|refine ent1 ?_)) (by (repeat first|exact trivial|refine ent1 ?_)) (fun _ _=>trivial) ?_
  rintro y hs' ⟨k2,r1,r2,r3,rfl,rfl⟩
  (repeat show _∧_;first|refine yr ?_|refine yt ?_|refine yf ?_|refine yo ?_)
  refine call_same (fn_peek s k2) [1] rfl (by (repeat first|exact trivial|refine ent1 ?_)) (by (repeat first|exact trivial|refine ent1 ?_)) (fun _ _=>trivial) ?_
  rintro y hs' ⟨rfl,rfl⟩
  by_cases c2':L s k2=44#8
  ·have f1:decide (L s k2=44#8)=true:=decide_eq_true c2'
   obtain ⟨h1,h2⟩:=of_L c2' (by decide)
   rw [plist_next p1 (by rw [← r3]; exact h1)] at hP
   (repeat show _∧_;first|refine yr ?_|refine yt ?_|refine yf ?_|refine ya f1 ?_|refine yb f1 ?_|refine yo ?_)
   refine ⟨(some ([v],(flat (jvS v x)),c2),k2+1,W5,ms5),[0,1,2,3,6],⟨⟨rfl,rfl,rfl⟩,?_⟩,⟨by omega,by omega,hL.trans hL5,by show 1≤_; omega,by exact hc2,hrw,f,by omega,hP⟩,by dsimp only; omega⟩
   (repeat first|exact trivial|refine ent1 ?_)
   exact ⟨fun j hj=>eqJ_cs hrw.raw (newJ_cs (m:=1) (sz:=4) rfl fun j hj=>updJ_new hj) j,by (repeat first|exact trivial|refine ent1 ?_)⟩
  have f1:decide (L s k2=44#8)=false:=decide_eq_false c2'
  by_cases c3:L s k2=93#8
  ·have f2:decide (L s k2=93#8)=true:=decide_eq_true c3
   obtain ⟨h1,h2⟩:=of_L c3 (by decide)
   rw [plist_end p1 (by rw [← r3]; exact h1)] at hP
   (repeat show _∧_;first|refine yr ?_|refine yt ?_|refine yf ?_|refine ya f1 ?_|refine yb f1 ?_|refine ya f2 ?_|refine yb f2 ?_|refine yo ?_)
   refine finW_frzU [0,1] rfl (Nat.zero_lt_one) cx0_m rfl (fun W9 ms9 α hL9 hI=>?_)
   have hfz:=hrw.frz (F:=fun j=>!memB j [0,1]) hL9 (newJ_cs (m:=1) (sz:=4) rfl fun j hj=>updJ_new hj) (hI 6 rfl) marks_off (n:=1) rfl hc2 (by omega)
   refine ⟨.tup [.agg (jvS (.mk 5#8 0#64 [] ([v]) []) ⟨some ((α 6).add (0+0)),1,c2,none,0,0⟩),.c (.int .i64 0)],[psr s (k2+1)],⟨⟨rfl,rfl,rfl⟩,by (repeat first|exact trivial|refine ent1 ?_)⟩,.inl ⟨_,⟨some ((α 6).add (0+0)),1,c2,none,0,0⟩,k2+1,W9,ms9,hP,by omega,by omega,hL.trans (hL5.trans hL9),⟨hfz,SlAt.nul⟩,rfl,rfl⟩⟩
  have f2:decide (L s k2=93#8)=false:=decide_eq_false c3
  (repeat show _∧_;first|refine yr ?_|refine yt ?_|refine yf ?_|refine ya f1 ?_|refine yb f1 ?_|refine ya f2 ?_|refine yb f2 ?_|refine yo ?_)
  refine FinW.of ⟨.tup [.agg (jvS jt0 jc0),.c (.int .i64 4)],_,⟨[0,1],⟨rfl,rfl,rfl⟩,by (repeat first|exact trivial|refine ent1 ?_)⟩,.inr ⟨4,jt0,jc0,k2,W5,ms5,?_,by decide,by omega,r2,hL.trans hL5,rfl,rfl⟩⟩
  rw [hP,plist_no (c:=0#8) p1 (fun r' h=>c2' (L_of (r3.trans h)).1) (fun r' h=>c3 (L_of (r3.trans h)).1)]
 ·obtain ⟨q1,q2,hL,q3,q4,hrow,f,hf,hP⟩:=hx
  obtain ⟨f,rfl⟩:∃ f',f=f'+1:=⟨f-1,by omega⟩
  have hlen:=hrow.len
  dsimp only
  (repeat show _∧_;first|refine yr ?_|refine yt ?_|refine yf ?_|refine yo ?_)
  refine call_past (hv W' ms' j (hT.later hL) q2) 0 [1] rfl rfl (by (repeat first|exact trivial|refine ent1 ?_)) (by (repeat first|exact trivial|refine ent1 ?_)) (fun _ _=>trivial) (fun x hs hr=>?_) ?_
  ·rcases hr with ⟨v,x,k',W5,ms5,_,_,_,hL5,_,_,rfl⟩|⟨e,v,x,k',W5,ms5,_,_,_,_,hL5,_,rfl⟩
   ·exact ⟨W5,ms5,rfl,hL5⟩
   ·exact ⟨W5,ms5,rfl,hL5⟩
  rintro y hs' (⟨v,x,k',W5,ms5,p1,p2,p3,hL5,hx5,rfl,rfl⟩|⟨e,v,x,k',W5,ms5,p1,p0,p2,p3,hL5,rfl,rfl⟩)
  rotate_left
  ·have f1:decide (e≠0)=true:=decide_eq_true p0
   (repeat show _∧_;first|refine yr ?_|refine yt ?_|refine yf ?_|refine ya f1 ?_|refine yb f1 ?_|refine yo ?_)
   exact FinW.of ⟨.tup [.agg (jvS jt0 jc0),.c (.int .i64 e)],_,⟨[0,1],⟨rfl,rfl,rfl⟩,by (repeat first|exact trivial|refine ent1 ?_)⟩,.inr ⟨e,jt0,jc0,k',W5,ms5,by rw [hP,plist_bad p1],p0,by omega,p3,hL.trans hL5,rfl,rfl⟩⟩
  have hrw:RowJ W5 ms5 d (cs++flat (jvS v x)) (done++[v]):=(hrow.later hL5).snoc hx5
  have hdl:(done++[v]).length=done.length+1:=by rw [List.length_append]; rfl
  (repeat show _∧_;first|refine yr ?_|refine yt ?_|refine yf ?_|refine yo ?_)
  refine And.intro (show 0+5≤5 by decide) ?_
  refine And.intro (show 0+scale 1 (4+1)≤5 by decide) ?_
  refine And.intro ⟨q4,by rw [sc5]; omega,show (done.length+1)*80≤140737488355328 by omega⟩ ?_
  intro c2 hc2
  (repeat show _∧_;first|refine yr ?_|refine yt ?_|refine yf ?_|refine yo ?_)
  refine call_same (fn_blanks s k' p3 hs) [1] rfl (by (repeat first|exact trivial|refine ent1 ?_)) (by (repeat first|exact trivial|refine ent1 ?_)) (fun _ _=>trivial) ?_
  rintro y hs' ⟨k2,r1,r2,r3,rfl,rfl⟩
  (repeat show _∧_;first|refine yr ?_|refine yt ?_|refine yf ?_|refine yo ?_)
  refine call_same (fn_peek s k2) [1] rfl (by (repeat first|exact trivial|refine ent1 ?_)) (by (repeat first|exact trivial|refine ent1 ?_)) (fun _ _=>trivial) ?_
  rintro y hs' ⟨rfl,rfl⟩
  by_cases c2':L s k2=44#8
  ·have f1:decide (L s k2=44#8)=true:=decide_eq_true c2'
   obtain ⟨h1,h2⟩:=of_L c2' (by decide)
   rw [plist_next p1 (by rw [← r3]; exact h1)] at hP
   (repeat show _∧_;first|refine yr ?_|refine yt ?_|refine yf ?_|refine ya f1 ?_|refine yb f1 ?_|refine yo ?_)
   refine ⟨(some ((done++[v]),(cs++flat (jvS v x)),c2),k2+1,W5,ms5),[0,1,2,3,7],⟨⟨rfl,rfl,rfl⟩,?_⟩,⟨by omega,by omega,hL.trans hL5,by rw [hdl]; omega,by rw [hdl]; exact hc2,hrw,f,by omega,hP⟩,by dsimp only; omega⟩
   (repeat first|exact trivial|refine ent1 ?_)
   exact ⟨fun j hj=>eqJ_cs hrw.raw (appJ_cs (m:=1) (sz:=4) (by rw [hrow.len]) (fun _ _=>rfl) rfl fun j hj=>updJ_new hj) j,by (repeat first|exact trivial|refine ent1 ?_)⟩
  have f1:decide (L s k2=44#8)=false:=decide_eq_false c2'
  by_cases c3:L s k2=93#8
  ·have f2:decide (L s k2=93#8)=true:=decide_eq_true c3
   obtain ⟨h1,h2⟩:=of_L c3 (by decide)
   rw [plist_end p1 (by rw [← r3]; exact h1)] at hP
   (repeat show _∧_;first|refine yr ?_|refine yt ?_|refine yf ?_|refine ya f1 ?_|refine yb f1 ?_|refine ya f2 ?_|refine yb f2 ?_|refine yo ?_)
   refine finW_frzU [0,1] rfl (Nat.zero_lt_one) cx0_m rfl (fun W9 ms9 α hL9 hI=>?_)
   have hfz:=hrw.frz (F:=fun j=>!memB j [0,1]) hL9 (appJ_cs (m:=1) (sz:=4) (by rw [hrow.len]) (fun _ _=>rfl) rfl fun j hj=>updJ_new hj) (hI 7 rfl) marks_off (n:=(done.length+1)) hdl hc2 (by omega)
   refine ⟨.tup [.agg (jvS (.mk 5#8 0#64 [] (done++[v]) []) ⟨some ((α 7).add (0+0)),(done.length+1),c2,none,0,0⟩),.c (.int .i64 0)],[psr s (k2+1)],⟨⟨rfl,rfl,rfl⟩,by (repeat first|exact trivial|refine ent1 ?_)⟩,.inl ⟨_,⟨some ((α 7).add (0+0)),(done.length+1),c2,none,0,0⟩,k2+1,W9,ms9,hP,by omega,by omega,hL.trans (hL5.trans hL9),⟨hfz,SlAt.nul⟩,rfl,rfl⟩⟩
  have f2:decide (L s k2=93#8)=false:=decide_eq_false c3
  (repeat show _∧_;first|refine yr ?_|refine yt ?_|refine yf ?_|refine ya f1 ?_|refine yb f1 ?_|refine ya f2 ?_|refine yb f2 ?_|refine yo ?_)
  refine FinW.of ⟨.tup [.agg (jvS jt0 jc0),.c (.int .i64 4)],_,⟨[0,1],⟨rfl,rfl,rfl⟩,by (repeat first|exact trivial|refine ent1 ?_)⟩,.inr ⟨4,jt0,jc0,k2,W5,ms5,?_,by decide,by omega,r2,hL.trans hL5,rfl,rfl⟩⟩
  rw [hP,plist_no (c:=0#8) p1 (fun r' h=>c2' (L_of (r3.trans h)).1) (fun r' h=>c3 (L_of (r3.trans h)).1)]
end Sx
end
section
namespace Sx
open Go.RowKit Sha Vi Js

abbrev vo0:List Seg:=[.one (.w8 6#8),.one (.w64 0#64),.one (.str []),.one (.slc none 0 0),.one (.slc none 0 0)]
abbrev vo1 (i n c j m e:Nat):List Seg:=[.one (.w8 6#8),.one (.w64 0#64),.one (.str []),.one (.sl i 0 0 n c),.one (.sl j 0 0 m e)]
theorem pobj_name {pv:Bs→R JT} {f:Nat} {l:Bs} {acc:List JT} {ns:List Bs} {e:Int} (h:pname l ns=.bad e):pobj pv (f+1) l acc ns=.bad e:=by
 rw [pobj,h]
theorem pobj_val {pv:Bs→R JT} {f:Nat} {l r:Bs} {acc:List JT} {ns:List Bs} {t:Bs} {e:Int} (h:pname l ns=.ok t r) (h2:pv r=.bad e):pobj pv (f+1) l acc ns=.bad e:=by
 rw [pobj,h]
 dsimp only
 rw [h2]
theorem pobj_next {pv:Bs→R JT} {f:Nat} {l r q r':Bs} {acc:List JT} {ns:List Bs} {t:Bs} {x:JT} (h:pname l ns=.ok t r) (h2:pv r=.ok x q) (hb:blanks q=44#8::r'):pobj pv (f+1) l acc ns=pobj pv f r' (acc++[x]) (ns++[t]):=by
 rw [pobj,h]
 dsimp only
 rw [h2]
 dsimp only
 rw [hb]
 dsimp only
 rw [if_pos rfl]
theorem pobj_end {pv:Bs→R JT} {f:Nat} {l r q r':Bs} {acc:List JT} {ns:List Bs} {t:Bs} {x:JT} (h:pname l ns=.ok t r) (h2:pv r=.ok x q) (hb:blanks q=125#8::r'):pobj pv (f+1) l acc ns=.ok (.mk 6#8 0#64 [] (acc++[x]) (ns++[t])) r':=by
 rw [pobj,h]
 dsimp only
 rw [h2]
 dsimp only
 rw [hb]
 dsimp only
 rw [if_neg (by decide),if_pos rfl]
theorem pobj_no {pv:Bs→R JT} {f:Nat} {l r q:Bs} {acc:List JT} {ns:List Bs} {t:Bs} {x:JT} (h:pname l ns=.ok t r) (h2:pv r=.ok x q) (h3:∀ r',blanks q≠44#8::r') (h4:∀ r',blanks q≠125#8::r'):pobj pv (f+1) l acc ns=.bad 4:=by
 rw [pobj,h]
 dsimp only
 rw [h2]
 dsimp only
 cases hb:blanks q with
 | nil=>rfl
 | cons c r' =>
  dsimp only
  rw [if_neg (fun hc=>h3 r' (by rw [hb,hc])),if_neg (fun hc=>h4 r' (by rw [hb,hc]))]
def nmJ (ns:List Bs):List SC:=(ns.map U8).map SC.str
theorem nmL_raw (ns:List Bs):∀ x∈nmJ ns,x.raw=x:=fun x hx=>by
 obtain ⟨b,_,rfl⟩:=List.mem_map.1 hx
 rfl
theorem nmL_len (ns:List Bs):(nmJ ns).length=ns.length:=by simp [nmJ]
theorem nmL_app (ns:List Bs) (t:Bs):nmJ (ns++[t])=nmJ ns++[.str (U8 t)]:=by simp [nmJ]
theorem nmL_newrow {t:Bs} (j:Nat) (hj:j<(nmJ [t]).length):newF (scale 1 (0+1)) (fun q=>nthC [SC.str (U8 t)] (q+0)) j=nthC (nmJ [t]) j :=
 newJ_cs (new:=nmJ [t]) (m:=1) (sz:=0) rfl (fun _ _=>rfl) j hj
theorem nmL_approw {ns:List Bs} {t:Bs} {n:Nat} (hn:ns.length=n) (j:Nat) (hj:j<(nmJ (ns++[t])).length):appF (nthC (nmJ ns)) 0 (scale n (0+1)) (scale 1 (0+1)) (fun q=>nthC [SC.str (U8 t)] (q+0)) j=nthC (nmJ (ns++[t])) j:=by
 rw [nmL_app] at hj ⊢
 exact appJ_cs (cs:=nmJ ns) (new:=[SC.str (U8 t)]) (m:=1) (sz:=0) (by rw [nmL_len,hn]; omega) (fun _ _=>rfl) rfl (fun _ _=>rfl) j hj
set_option maxRecDepth 20000 in
set_option maxHeartbeats 32000000 in
theorem fn_object {W:World} {ms:List Nat} (hT:Tabs W ms) (d:Nat) (depth:Nat) (hd:depth≤8) (s:Bs) (hs:s.length≤1048576) (hv:∀ (W:World) (ms:List Nat) (k:Nat),Tabs W ms→k≤s.length→FnR Tryd.prog tds 42 1 [[.past W ms],psr s k] [.c (.p 1 0 0),.c (.int .i64 ((depth+1:Nat):Int))] (fun _=>True) (ValA W ms d s k (pval d (s.drop k))))
  (k:Nat) (hk:k<s.length):FnR Tryd.prog tds 57 1 [[.past W ms],psr s k] [.c (.p 1 0 0),.c (.int .i64 (depth:Int))] (fun _=>True) (ValA W ms (d+1) s k (objs (pval d) (s.drop (k+1)))):=by
 refine fn_of_bodyW tds_ok follows_ Tryd.func57 rfl (t:=.a (.c (.p 1 0 0))::.a (.c (.int .i64 (depth:Int)))::anys (Tryd.f57.ntmps-2)) rfl (fun w r0 hr0 _=>?_)
 obtain ⟨x0,x1,rfl⟩:=len2' hr0
 (repeat show _∧_;first|refine yr ?_|refine yt ?_|refine yf ?_|refine yo ?_)
 refine call_same (fn_blanks s (k+1) (by omega) hs) [1] rfl (by (repeat first|exact trivial|refine ent1 ?_)) (by (repeat first|exact trivial|refine ent1 ?_)) (fun _ _=>trivial) ?_
 rintro x hs' ⟨k1,g1,g2,g3,rfl,rfl⟩
 (repeat show _∧_;first|refine yr ?_|refine yt ?_|refine yf ?_|refine yo ?_)
 refine call_same (fn_peek s k1) [1] rfl (by (repeat first|exact trivial|refine ent1 ?_)) (by (repeat first|exact trivial|refine ent1 ?_)) (fun _ _=>trivial) ?_
 rintro x hs' ⟨rfl,rfl⟩
 by_cases c1:L s k1=125#8
 ·have e1:decide (L s k1=125#8)=true:=decide_eq_true c1
  obtain ⟨h1,h2⟩:=of_L c1 (by decide)
  have hP:objs (pval d) (s.drop (k+1))=.ok (.mk 6#8 0#64 [] [] []) (s.drop (k1+1)):=by
   unfold objs
   rw [← g3,h1]
   dsimp only
   rw [if_pos rfl]
  (repeat show _∧_;first|refine yr ?_|refine yt ?_|refine yf ?_|refine ya e1 ?_|refine yb e1 ?_|refine yo ?_)
  exact FinW.of ⟨.tup [.agg (jvS (.mk 6#8 0#64 [] [] []) jc0),.c (.int .i64 0)],_,⟨[0,1],⟨rfl,rfl,rfl⟩,by (repeat first|exact trivial|refine ent1 ?_)⟩,.inl ⟨_,jc0,k1+1,W,ms,hP,by omega,by omega,Later.refl _ _,TAt.leaf rfl rfl _,rfl,rfl⟩⟩
 have e1:decide (L s k1=125#8)=false:=decide_eq_false c1
 obtain ⟨f0,hf0,hP0⟩:∃ f,s.length-k1<f∧objs (pval d) (s.drop (k+1))=pobj (pval d) f (s.drop k1) [] []:=by
  rcases drop_L (s:=s) (k:=k1) with ⟨h1,h2⟩|⟨h1,h2,_⟩
  ·refine ⟨(s.drop k1).length+1,by rw [List.length_drop]; omega,?_⟩
   unfold objs
   rw [← g3,h2]
   dsimp only
   rw [if_neg c1]
  ·refine ⟨1,by omega,?_⟩
   unfold objs
   rw [← g3,h2]
 (repeat show _∧_;first|refine yr ?_|refine yt ?_|refine yf ?_|refine ya e1 ?_|refine yb e1 ?_|refine yo ?_)
 refine .inl ⟨Option (List JT × List SC × List Bs × Nat × Nat) × Nat × World × List Nat,fun x=>match x with
  | (none,j,W',ms')=>⟨[.a (.c (.p 1 0 0)),.a (.c (.int .i64 ((depth:Int)))),.any,.any,.a (.c (.p 2 0 0)),.a (.c (.int .i64 (0))),.a (.c (.p 3 0 0)),.a (.c (.mh 4)),.any,.any,.any,.any,.any,.any,.any,.any,.any,.any,.any,.any,.any,.any,.any,.any,.any,.any,.any,.any,.any,.any,.any,.any,.any,.any,.any,.any,.any,.any,.any,.any,.any,.any,.any,.any,.any,.any,.any,.any,.any,.any,.any,.any,.any,.any,.any,.any,.any,.any,.any,.any,.any,.any,.any,.any,.any,.any,.any,.any,.any,.any,.any,.any,.any,.any,.any,.any,.any,.any,.any,.any,.any,.any,.any,.any,.any,.any,.any,.any,.any,.any],[[.past W' ms'],psr s j,vz,vo0,hadC []]⟩
  | (some (done,cs,ns,c,e),j,W',ms')=>⟨[.a (.c (.p 1 0 0)),.a (.c (.int .i64 ((depth:Int)))),.any,.any,.a (.c (.p 2 0 0)),.a (.c (.int .i64 (0))),.a (.c (.p 3 0 0)),.a (.c (.mh 4)),.any,.any,.any,.any,.any,.any,.any,.any,.any,.any,.any,.any,.any,.any,.any,.any,.any,.any,.any,.any,.any,.any,.any,.any,.any,.any,.any,.any,.any,.any,.any,.any,.any,.any,.any,.any,.any,.any,.any,.any,.any,.any,.any,.any,.any,.any,.any,.any,.any,.any,.any,.any,.any,.any,.any,.any,.any,.any,.any,.any,.any,.any,.any,.any,.any,.any,.any,.any,.any,.any,.any,.any,.any,.any,.any,.any,.any,.any,.any,.any,.any,.any],[[.past W' ms'],psr s j,vz,vo1 6 done.length c 5 done.length e,hadC ns,[.row (scale e (0+1)) (nthC (nmJ ns))],[.row (scale c (4+1)) (nthC cs)]]⟩,
  fun x=>match x with
  | (none,j,W',ms')=>k<j∧j≤s.length∧Later W ms W' ms'∧∃ f,s.length-j<f∧objs (pval d) (s.drop (k+1))=pobj (pval d) f (s.drop j) [] []
  | (some (done,cs,ns,c,e),j,W',ms')=>k<j∧j≤s.length∧Later W ms W' ms'∧done.length≤j∧done.length≤c∧done.length≤e∧ns.length=done.length∧RowJ W' ms' d cs done∧∃ f,s.length-j<f∧objs (pval d) (s.drop (k+1))=pobj (pval d) f (s.drop j) done ns,
  fun x=>s.length-x.2.1,⟨(none,k1,W,ms),[0,1,2,3,4],⟨⟨rfl,rfl,rfl⟩,by (repeat first|exact trivial|refine ent1 ?_)⟩,by omega,g2,Later.refl _ _,f0,hf0,hP0⟩,fun x hx=>?_⟩
 rcases x with ⟨_|⟨done,cs,ns,c,e⟩,j,W',ms'⟩
 ·obtain ⟨q1,q2,hL,f,hf,hP⟩:=hx
  obtain ⟨f,rfl⟩:∃ f',f=f'+1:=⟨f-1,by omega⟩
  dsimp only
  (repeat show _∧_;first|refine yr ?_|refine yt ?_|refine yf ?_|refine yo ?_)
  refine call_same (fn_name (hT.later hL) s j [] q2 hs) [0,1,4] rfl (by (repeat first|exact trivial|refine ent1 ?_)) (by (repeat first|exact trivial|refine ent1 ?_)) (fun _ _=>trivial) ?_
  rintro y hs' (⟨t,k3,u1,u2,u3,rfl,rfl⟩|⟨e',k3,l',u1,u0,u2,u3,rfl,rfl⟩)
  rotate_left
  ·have f1:decide (e'≠0)=true:=decide_eq_true u0
   (repeat show _∧_;first|refine yr ?_|refine yt ?_|refine yf ?_|refine ya f1 ?_|refine yb f1 ?_|refine yo ?_)
   exact FinW.of ⟨.tup [.agg (jvS jt0 jc0),.c (.int .i64 e')],_,⟨[0,1],⟨rfl,rfl,rfl⟩,by (repeat first|exact trivial|refine ent1 ?_)⟩,.inr ⟨e',jt0,jc0,k3,W',ms',by rw [hP,pobj_name u1],u0,by omega,u3,hL,rfl,rfl⟩⟩
  (repeat show _∧_;first|refine yr ?_|refine yt ?_|refine yf ?_|refine yo ?_)
  refine call_past (hv W' ms' k3 (hT.later hL) u3) 0 [1] rfl rfl (by (repeat first|exact trivial|refine ent1 ?_)) (by (repeat first|exact trivial|refine ent1 ?_)) (fun _ _=>trivial) (fun x hs hr=>?_) ?_
  ·rcases hr with ⟨v,x,k',W5,ms5,_,_,_,hL5,_,_,rfl⟩|⟨e,v,x,k',W5,ms5,_,_,_,_,hL5,_,rfl⟩
   ·exact ⟨W5,ms5,rfl,hL5⟩
   ·exact ⟨W5,ms5,rfl,hL5⟩
  rintro y hs' (⟨v,x,k',W5,ms5,p1,p2,p3,hL5,hx5,rfl,rfl⟩|⟨e',v,x,k',W5,ms5,p1,p0,p2,p3,hL5,rfl,rfl⟩)
  rotate_left
  ·have f1:decide (e'≠0)=true:=decide_eq_true p0
   (repeat show _∧_;first|refine yr ?_|refine yt ?_|refine yf ?_|refine ya f1 ?_|refine yb f1 ?_|refine yo ?_)
   exact FinW.of ⟨.tup [.agg (jvS jt0 jc0),.c (.int .i64 e')],_,⟨[0,1],⟨rfl,rfl,rfl⟩,by (repeat first|exact trivial|refine ent1 ?_)⟩,.inr ⟨e',jt0,jc0,k',W5,ms5,by rw [hP,pobj_val u1 p1],p0,by omega,p3,hL.trans hL5,rfl,rfl⟩⟩
  have hrw:RowJ W5 ms5 d (flat (jvS v x)) [v]:=RowJ.nil.snoc hx5
  (repeat show _∧_;first|refine yr ?_|refine yt ?_|refine yf ?_|refine yo ?_)
  refine ⟨some [3,5],[1001,1000,1001,1002,1005,1006,1007,3,3,8,3,4,8,1010,2008,2009,0,2004,1010,2009,0,2003,2004,1010,2009,0],[(0,true),(1,true),(2,true),(3,false),(4,false),(5,true),(6,true),(7,true),(8,false),(9,false),(10,true)],[11,12,13],by kernel_rfl,?_⟩
  (repeat show _∧_;first|refine yr ?_|refine yt ?_|refine yf ?_|refine yo ?_)
  refine And.intro (And.intro ?_ ?_) ?_
  ·(repeat show _∧_;first|refine yr ?_|refine yt ?_|refine yf ?_|refine yo ?_)
   intro e2 he2
   refine And.intro rfl ?_
   refine And.intro (show 0+5≤5 by decide) ?_
   (repeat show _∧_;first|refine yr ?_|refine yt ?_|refine yf ?_|refine yo ?_)
   intro c2 hc2
   (repeat show _∧_;first|refine yr ?_|refine yt ?_|refine yf ?_|refine yo ?_)
   refine call_same (fn_blanks s k' p3 hs) [1] rfl (by (repeat first|exact trivial|refine ent1 ?_)) (by (repeat first|exact trivial|refine ent1 ?_)) (fun _ _=>trivial) ?_
   rintro y hs' ⟨k2,r1,r2,r3,rfl,rfl⟩
   (repeat show _∧_;first|refine yr ?_|refine yt ?_|refine yf ?_|refine yo ?_)
   refine call_same (fn_peek s k2) [1] rfl (by (repeat first|exact trivial|refine ent1 ?_)) (by (repeat first|exact trivial|refine ent1 ?_)) (fun _ _=>trivial) ?_
   rintro y hs' ⟨rfl,rfl⟩
   by_cases c2':L s k2=44#8
   ·have f1:decide (L s k2=44#8)=true:=decide_eq_true c2'
    obtain ⟨h1,h2⟩:=of_L c2' (by decide)
    rw [pobj_next u1 p1 (by rw [← r3]; exact h1)] at hP
    (repeat show _∧_;first|refine yr ?_|refine yt ?_|refine yf ?_|refine ya f1 ?_|refine yb f1 ?_|refine yo ?_)
    refine ⟨(some ([v],(flat (jvS v x)),[t],c2,e2),k2+1,W5,ms5),[0,1,2,3,4,7,9],⟨⟨rfl,rfl,rfl⟩,?_⟩,⟨by omega,by omega,hL.trans hL5,by show 1≤_; omega,by exact hc2,by exact he2,by rfl,hrw,f,by omega,hP⟩,by dsimp only; omega⟩
    (repeat first|exact trivial|refine ent1 ?_)
    refine And.intro (fun j hj=>eqJ_cs (nmL_raw _) (fun j hj=>nmL_newrow j hj) j) ?_
    (repeat first|exact trivial|refine ent1 ?_)
    exact ⟨fun j hj=>eqJ_cs hrw.raw (newJ_cs (m:=1) (sz:=4) rfl fun j hj=>updJ_new hj) j,by (repeat first|exact trivial|refine ent1 ?_)⟩
   have f1:decide (L s k2=44#8)=false:=decide_eq_false c2'
   by_cases c3:L s k2=125#8
   ·have f2:decide (L s k2=125#8)=true:=decide_eq_true c3
    obtain ⟨h1,h2⟩:=of_L c3 (by decide)
    rw [pobj_end u1 p1 (by rw [← r3]; exact h1)] at hP
    (repeat show _∧_;first|refine yr ?_|refine yt ?_|refine yf ?_|refine ya f1 ?_|refine yb f1 ?_|refine ya f2 ?_|refine yb f2 ?_|refine yo ?_)
    refine finW_frzU [0,1] rfl (Nat.zero_lt_one) cx0_m rfl (fun W9 ms9 α hL9 hI=>?_)
    have hfz:=hrw.frz (F:=fun j=>!memB j [0,1]) hL9 (newJ_cs (m:=1) (sz:=4) rfl fun j hj=>updJ_new hj) (hI 9 rfl) marks_off (n:=1) rfl hc2 (by omega)
    have hfn:=strs_frz (l:=[t].map U8) (F:=fun j=>!memB j [0,1]) (fun j hj=>nmL_newrow j hj) (fun h=>(hI 7 rfl h).1) (n:=1) (by rw [List.length_map]; rfl) he2 (by omega)
    refine ⟨.tup [.agg (jvS (.mk 6#8 0#64 [] ([v]) ([t])) ⟨some ((α 9).add (0+0)),1,c2,some ((α 7).add (0+0)),1,e2⟩),.c (.int .i64 0)],[psr s (k2+1)],⟨⟨rfl,rfl,rfl⟩,by (repeat first|exact trivial|refine ent1 ?_)⟩,.inl ⟨_,⟨some ((α 9).add (0+0)),1,c2,some ((α 7).add (0+0)),1,e2⟩,k2+1,W9,ms9,hP,by omega,by omega,hL.trans (hL5.trans hL9),⟨hfz,hfn⟩,rfl,rfl⟩⟩
   have f2:decide (L s k2=125#8)=false:=decide_eq_false c3
   (repeat show _∧_;first|refine yr ?_|refine yt ?_|refine yf ?_|refine ya f1 ?_|refine yb f1 ?_|refine ya f2 ?_|refine yb f2 ?_|refine yo ?_)
   refine FinW.of ⟨.tup [.agg (jvS jt0 jc0),.c (.int .i64 4)],_,⟨[0,1],⟨rfl,rfl,rfl⟩,by (repeat first|exact trivial|refine ent1 ?_)⟩,.inr ⟨4,jt0,jc0,k2,W5,ms5,?_,by decide,by omega,r2,hL.trans hL5,rfl,rfl⟩⟩
   rw [hP,pobj_no u1 p1 (fun r' h=>c2' (L_of (r3.trans h)).1) (fun r' h=>c3 (L_of (r3.trans h)).1)]
  ·refine And.intro rfl ?_
   refine And.intro (show 0+5≤5 by decide) ?_
   (repeat show _∧_;first|refine yr ?_|refine yt ?_|refine yf ?_|refine yo ?_)
   intro e2 he2
   (repeat show _∧_;first|refine yr ?_|refine yt ?_|refine yf ?_|refine yo ?_)
   intro c2 hc2
   (repeat show _∧_;first|refine yr ?_|refine yt ?_|refine yf ?_|refine yo ?_)
   refine call_same (fn_blanks s k' p3 hs) [1] rfl (by (repeat first|exact trivial|refine ent1 ?_)) (by (repeat first|exact trivial|refine ent1 ?_)) (fun _ _=>trivial) ?_
   rintro y hs' ⟨k2,r1,r2,r3,rfl,rfl⟩
   (repeat show _∧_;first|refine yr ?_|refine yt ?_|refine yf ?_|refine yo ?_)
   refine call_same (fn_peek s k2) [1] rfl (by (repeat first|exact trivial|refine ent1 ?_)) (by (repeat first|exact trivial|refine ent1 ?_)) (fun _ _=>trivial) ?_
   rintro y hs' ⟨rfl,rfl⟩
   by_cases c2':L s k2=44#8
   ·have f1:decide (L s k2=44#8)=true:=decide_eq_true c2'
    obtain ⟨h1,h2⟩:=of_L c2' (by decide)
    rw [pobj_next u1 p1 (by rw [← r3]; exact h1)] at hP
    (repeat show _∧_;first|refine yr ?_|refine yt ?_|refine yf ?_|refine ya f1 ?_|refine yb f1 ?_|refine yo ?_)
    refine ⟨(some ([v],(flat (jvS v x)),[t],c2,e2),k2+1,W5,ms5),[0,1,2,3,4,8,9],⟨⟨rfl,rfl,rfl⟩,?_⟩,⟨by omega,by omega,hL.trans hL5,by show 1≤_; omega,by exact hc2,by exact he2,by rfl,hrw,f,by omega,hP⟩,by dsimp only; omega⟩
    (repeat first|exact trivial|refine ent1 ?_)
    refine And.intro (fun j hj=>eqJ_cs (nmL_raw _) (fun j hj=>nmL_newrow j hj) j) ?_
    (repeat first|exact trivial|refine ent1 ?_)
    exact ⟨fun j hj=>eqJ_cs hrw.raw (newJ_cs (m:=1) (sz:=4) rfl fun j hj=>updJ_new hj) j,by (repeat first|exact trivial|refine ent1 ?_)⟩
   have f1:decide (L s k2=44#8)=false:=decide_eq_false c2'
   by_cases c3:L s k2=125#8
   ·have f2:decide (L s k2=125#8)=true:=decide_eq_true c3
    obtain ⟨h1,h2⟩:=of_L c3 (by decide)
    rw [pobj_end u1 p1 (by rw [← r3]; exact h1)] at hP
    (repeat show _∧_;first|refine yr ?_|refine yt ?_|refine yf ?_|refine ya f1 ?_|refine yb f1 ?_|refine ya f2 ?_|refine yb f2 ?_|refine yo ?_)
    refine finW_frzU [0,1] rfl (Nat.zero_lt_one) cx0_m rfl (fun W9 ms9 α hL9 hI=>?_)
    have hfz:=hrw.frz (F:=fun j=>!memB j [0,1]) hL9 (newJ_cs (m:=1) (sz:=4) rfl fun j hj=>updJ_new hj) (hI 9 rfl) marks_off (n:=1) rfl hc2 (by omega)
    have hfn:=strs_frz (l:=[t].map U8) (F:=fun j=>!memB j [0,1]) (fun j hj=>nmL_newrow j hj) (fun h=>(hI 8 rfl h).1) (n:=1) (by rw [List.length_map]; rfl) he2 (by omega)
    refine ⟨.tup [.agg (jvS (.mk 6#8 0#64 [] ([v]) ([t])) ⟨some ((α 9).add (0+0)),1,c2,some ((α 8).add (0+0)),1,e2⟩),.c (.int .i64 0)],[psr s (k2+1)],⟨⟨rfl,rfl,rfl⟩,by (repeat first|exact trivial|refine ent1 ?_)⟩,.inl ⟨_,⟨some ((α 9).add (0+0)),1,c2,some ((α 8).add (0+0)),1,e2⟩,k2+1,W9,ms9,hP,by omega,by omega,hL.trans (hL5.trans hL9),⟨hfz,hfn⟩,rfl,rfl⟩⟩
   have f2:decide (L s k2=125#8)=false:=decide_eq_false c3
   (repeat show _∧_;first|refine yr ?_|refine yt ?_|refine yf ?_|refine ya f1 ?_|refine yb f1 ?_|refine ya f2 ?_|refine yb f2 ?_|refine yo ?_)
   refine FinW.of ⟨.tup [.agg (jvS jt0 jc0),.c (.int .i64 4)],_,⟨[0,1],⟨rfl,rfl,rfl⟩,by (repeat first|exact trivial|refine ent1 ?_)⟩,.inr ⟨4,jt0,jc0,k2,W5,ms5,?_,by decide,by omega,r2,hL.trans hL5,rfl,rfl⟩⟩
   rw [hP,pobj_no u1 p1 (fun r' h=>c2' (L_of (r3.trans h)).1) (fun r' h=>c3 (L_of (r3.trans h)).1)]
  ·refine And.intro rfl ?_
   refine And.intro (show 0+5≤5 by decide) ?_
   (repeat show _∧_;first|refine yr ?_|refine yt ?_|refine yf ?_|refine yo ?_)
   intro e2 he2
   (repeat show _∧_;first|refine yr ?_|refine yt ?_|refine yf ?_|refine yo ?_)
   intro c2 hc2
   (repeat show _∧_;first|refine yr ?_|refine yt ?_|refine yf ?_|refine yo ?_)
   refine call_same (fn_blanks s k' p3 hs) [1] rfl (by (repeat first|exact trivial|refine ent1 ?_)) (by (repeat first|exact trivial|refine ent1 ?_)) (fun _ _=>trivial) ?_
   rintro y hs' ⟨k2,r1,r2,r3,rfl,rfl⟩
   (repeat show _∧_;first|refine yr ?_|refine yt ?_|refine yf ?_|refine yo ?_)
   refine call_same (fn_peek s k2) [1] rfl (by (repeat first|exact trivial|refine ent1 ?_)) (by (repeat first|exact trivial|refine ent1 ?_)) (fun _ _=>trivial) ?_
   rintro y hs' ⟨rfl,rfl⟩
   by_cases c2':L s k2=44#8
   ·have f1:decide (L s k2=44#8)=true:=decide_eq_true c2'
    obtain ⟨h1,h2⟩:=of_L c2' (by decide)
    rw [pobj_next u1 p1 (by rw [← r3]; exact h1)] at hP
    (repeat show _∧_;first|refine yr ?_|refine yt ?_|refine yf ?_|refine ya f1 ?_|refine yb f1 ?_|refine yo ?_)
    refine ⟨(some ([v],(flat (jvS v x)),[t],c2,e2),k2+1,W5,ms5),[0,1,2,3,4,8,9],⟨⟨rfl,rfl,rfl⟩,?_⟩,⟨by omega,by omega,hL.trans hL5,by show 1≤_; omega,by exact hc2,by exact he2,by rfl,hrw,f,by omega,hP⟩,by dsimp only; omega⟩
    (repeat first|exact trivial|refine ent1 ?_)
    refine And.intro (fun j hj=>eqJ_cs (nmL_raw _) (fun j hj=>nmL_newrow j hj) j) ?_
    (repeat first|exact trivial|refine ent1 ?_)
    exact ⟨fun j hj=>eqJ_cs hrw.raw (newJ_cs (m:=1) (sz:=4) rfl fun j hj=>updJ_new hj) j,by (repeat first|exact trivial|refine ent1 ?_)⟩
   have f1:decide (L s k2=44#8)=false:=decide_eq_false c2'
   by_cases c3:L s k2=125#8
   ·have f2:decide (L s k2=125#8)=true:=decide_eq_true c3
    obtain ⟨h1,h2⟩:=of_L c3 (by decide)
    rw [pobj_end u1 p1 (by rw [← r3]; exact h1)] at hP
    (repeat show _∧_;first|refine yr ?_|refine yt ?_|refine yf ?_|refine ya f1 ?_|refine yb f1 ?_|refine ya f2 ?_|refine yb f2 ?_|refine yo ?_)
    refine finW_frzU [0,1] rfl (Nat.zero_lt_one) cx0_m rfl (fun W9 ms9 α hL9 hI=>?_)
    have hfz:=hrw.frz (F:=fun j=>!memB j [0,1]) hL9 (newJ_cs (m:=1) (sz:=4) rfl fun j hj=>updJ_new hj) (hI 9 rfl) marks_off (n:=1) rfl hc2 (by omega)
    have hfn:=strs_frz (l:=[t].map U8) (F:=fun j=>!memB j [0,1]) (fun j hj=>nmL_newrow j hj) (fun h=>(hI 8 rfl h).1) (n:=1) (by rw [List.length_map]; rfl) he2 (by omega)
    refine ⟨.tup [.agg (jvS (.mk 6#8 0#64 [] ([v]) ([t])) ⟨some ((α 9).add (0+0)),1,c2,some ((α 8).add (0+0)),1,e2⟩),.c (.int .i64 0)],[psr s (k2+1)],⟨⟨rfl,rfl,rfl⟩,by (repeat first|exact trivial|refine ent1 ?_)⟩,.inl ⟨_,⟨some ((α 9).add (0+0)),1,c2,some ((α 8).add (0+0)),1,e2⟩,k2+1,W9,ms9,hP,by omega,by omega,hL.trans (hL5.trans hL9),⟨hfz,hfn⟩,rfl,rfl⟩⟩
   have f2:decide (L s k2=125#8)=false:=decide_eq_false c3
   (repeat show _∧_;first|refine yr ?_|refine yt ?_|refine yf ?_|refine ya f1 ?_|refine yb f1 ?_|refine ya f2 ?_|refine yb f2 ?_|refine yo ?_)
   refine FinW.of ⟨.tup [.agg (jvS jt0 jc0),.c (.int .i64 4)],_,⟨[0,1],⟨rfl,rfl,rfl⟩,by (repeat first|exact trivial|refine ent1 ?_)⟩,.inr ⟨4,jt0,jc0,k2,W5,ms5,?_,by decide,by omega,r2,hL.trans hL5,rfl,rfl⟩⟩
   rw [hP,pobj_no u1 p1 (fun r' h=>c2' (L_of (r3.trans h)).1) (fun r' h=>c3 (L_of (r3.trans h)).1)]
 ·obtain ⟨q1,q2,hL,q3,q4,q5,q6,hrow,f,hf,hP⟩:=hx
  have hlen:=hrow.len
  obtain ⟨f,rfl⟩:∃ f',f=f'+1:=⟨f-1,by omega⟩
  dsimp only
  (repeat show _∧_;first|refine yr ?_|refine yt ?_|refine yf ?_|refine yo ?_)
  refine call_same (fn_name (hT.later hL) s j ns q2 hs) [0,1,4] rfl (by (repeat first|exact trivial|refine ent1 ?_)) (by (repeat first|exact trivial|refine ent1 ?_)) (fun _ _=>trivial) ?_
  rintro y hs' (⟨t,k3,u1,u2,u3,rfl,rfl⟩|⟨e',k3,l',u1,u0,u2,u3,rfl,rfl⟩)
  rotate_left
  ·have f1:decide (e'≠0)=true:=decide_eq_true u0
   (repeat show _∧_;first|refine yr ?_|refine yt ?_|refine yf ?_|refine ya f1 ?_|refine yb f1 ?_|refine yo ?_)
   exact FinW.of ⟨.tup [.agg (jvS jt0 jc0),.c (.int .i64 e')],_,⟨[0,1],⟨rfl,rfl,rfl⟩,by (repeat first|exact trivial|refine ent1 ?_)⟩,.inr ⟨e',jt0,jc0,k3,W',ms',by rw [hP,pobj_name u1],u0,by omega,u3,hL,rfl,rfl⟩⟩
  (repeat show _∧_;first|refine yr ?_|refine yt ?_|refine yf ?_|refine yo ?_)
  refine call_past (hv W' ms' k3 (hT.later hL) u3) 0 [1] rfl rfl (by (repeat first|exact trivial|refine ent1 ?_)) (by (repeat first|exact trivial|refine ent1 ?_)) (fun _ _=>trivial) (fun x hs hr=>?_) ?_
  ·rcases hr with ⟨v,x,k',W5,ms5,_,_,_,hL5,_,_,rfl⟩|⟨e,v,x,k',W5,ms5,_,_,_,_,hL5,_,rfl⟩
   ·exact ⟨W5,ms5,rfl,hL5⟩
   ·exact ⟨W5,ms5,rfl,hL5⟩
  rintro y hs' (⟨v,x,k',W5,ms5,p1,p2,p3,hL5,hx5,rfl,rfl⟩|⟨e',v,x,k',W5,ms5,p1,p0,p2,p3,hL5,rfl,rfl⟩)
  rotate_left
  ·have f1:decide (e'≠0)=true:=decide_eq_true p0
   (repeat show _∧_;first|refine yr ?_|refine yt ?_|refine yf ?_|refine ya f1 ?_|refine yb f1 ?_|refine yo ?_)
   exact FinW.of ⟨.tup [.agg (jvS jt0 jc0),.c (.int .i64 e')],_,⟨[0,1],⟨rfl,rfl,rfl⟩,by (repeat first|exact trivial|refine ent1 ?_)⟩,.inr ⟨e',jt0,jc0,k',W5,ms5,by rw [hP,pobj_val u1 p1],p0,by omega,p3,hL.trans hL5,rfl,rfl⟩⟩
  have hrw:RowJ W5 ms5 d (cs++flat (jvS v x)) (done++[v]):=(hrow.later hL5).snoc hx5
  have hdl:(done++[v]).length=done.length+1:=by rw [List.length_append]; rfl
  have hnl:(ns++[t]).length=done.length+1:=by rw [List.length_append,q6]; rfl
  (repeat show _∧_;first|refine yr ?_|refine yt ?_|refine yf ?_|refine yo ?_)
  refine ⟨some [3,7],[1001,1000,1001,1002,1005,1006,1007,3,3,8,3,4,8,1010,2008,2009,0,2004,1010,2009,0,2003,2004,1010,2009,0],[(0,true),(1,true),(2,true),(3,false),(4,false),(5,true),(6,true),(7,true),(8,false),(9,false),(10,true)],[11,12,13],by kernel_rfl,?_⟩
  (repeat show _∧_;first|refine yr ?_|refine yt ?_|refine yf ?_|refine yo ?_)
  refine And.intro (And.intro ?_ ?_) ?_
  ·refine And.intro (show 0+scale 1 (0+1)≤1 by decide) ?_
   refine And.intro ⟨q5,by rw [sc1]; omega,show (done.length+1)*16≤140737488355328 by omega⟩ ?_
   intro e2 he2
   refine And.intro rfl ?_
   refine And.intro (show 0+5≤5 by decide) ?_
   refine And.intro (show 0+scale 1 (4+1)≤5 by decide) ?_
   refine And.intro ⟨q4,by rw [sc5]; omega,show (done.length+1)*80≤140737488355328 by omega⟩ ?_
   intro c2 hc2
   (repeat show _∧_;first|refine yr ?_|refine yt ?_|refine yf ?_|refine yo ?_)
   refine call_same (fn_blanks s k' p3 hs) [1] rfl (by (repeat first|exact trivial|refine ent1 ?_)) (by (repeat first|exact trivial|refine ent1 ?_)) (fun _ _=>trivial) ?_
   rintro y hs' ⟨k2,r1,r2,r3,rfl,rfl⟩
   (repeat show _∧_;first|refine yr ?_|refine yt ?_|refine yf ?_|refine yo ?_)
   refine call_same (fn_peek s k2) [1] rfl (by (repeat first|exact trivial|refine ent1 ?_)) (by (repeat first|exact trivial|refine ent1 ?_)) (fun _ _=>trivial) ?_
   rintro y hs' ⟨rfl,rfl⟩
   by_cases c2':L s k2=44#8
   ·have f1:decide (L s k2=44#8)=true:=decide_eq_true c2'
    obtain ⟨h1,h2⟩:=of_L c2' (by decide)
    rw [pobj_next u1 p1 (by rw [← r3]; exact h1)] at hP
    (repeat show _∧_;first|refine yr ?_|refine yt ?_|refine yf ?_|refine ya f1 ?_|refine yb f1 ?_|refine yo ?_)
    refine ⟨(some ((done++[v]),(cs++flat (jvS v x)),(ns++[t]),c2,e2),k2+1,W5,ms5),[0,1,2,3,4,9,11],⟨⟨rfl,rfl,rfl⟩,?_⟩,⟨by omega,by omega,hL.trans hL5,by rw [hdl]; omega,by rw [hdl]; exact hc2,by rw [hdl]; exact he2,by rw [hdl]; exact hnl,hrw,f,by omega,hP⟩,by dsimp only; omega⟩
    (repeat first|exact trivial|refine ent1 ?_)
    refine And.intro (fun j hj=>eqJ_cs (nmL_raw _) (fun j hj=>nmL_approw q6 j hj) j) ?_
    (repeat first|exact trivial|refine ent1 ?_)
    exact ⟨fun j hj=>eqJ_cs hrw.raw (appJ_cs (m:=1) (sz:=4) (by rw [hlen]) (fun _ _=>rfl) rfl fun j hj=>updJ_new hj) j,by (repeat first|exact trivial|refine ent1 ?_)⟩
   have f1:decide (L s k2=44#8)=false:=decide_eq_false c2'
   by_cases c3:L s k2=125#8
   ·have f2:decide (L s k2=125#8)=true:=decide_eq_true c3
    obtain ⟨h1,h2⟩:=of_L c3 (by decide)
    rw [pobj_end u1 p1 (by rw [← r3]; exact h1)] at hP
    (repeat show _∧_;first|refine yr ?_|refine yt ?_|refine yf ?_|refine ya f1 ?_|refine yb f1 ?_|refine ya f2 ?_|refine yb f2 ?_|refine yo ?_)
    refine finW_frzU [0,1] rfl (Nat.zero_lt_one) cx0_m rfl (fun W9 ms9 α hL9 hI=>?_)
    have hfz:=hrw.frz (F:=fun j=>!memB j [0,1]) hL9 (appJ_cs (m:=1) (sz:=4) (by rw [hlen]) (fun _ _=>rfl) rfl fun j hj=>updJ_new hj) (hI 11 rfl) marks_off (n:=(done.length+1)) hdl hc2 (by omega)
    have hfn:=strs_frz (l:=(ns++[t]).map U8) (F:=fun j=>!memB j [0,1]) (fun j hj=>nmL_approw q6 j hj) (fun h=>(hI 9 rfl h).1) (n:=(done.length+1)) (by rw [List.length_map]; exact hnl) he2 (by omega)
    refine ⟨.tup [.agg (jvS (.mk 6#8 0#64 [] (done++[v]) (ns++[t])) ⟨some ((α 11).add (0+0)),(done.length+1),c2,some ((α 9).add (0+0)),(done.length+1),e2⟩),.c (.int .i64 0)],[psr s (k2+1)],⟨⟨rfl,rfl,rfl⟩,by (repeat first|exact trivial|refine ent1 ?_)⟩,.inl ⟨_,⟨some ((α 11).add (0+0)),(done.length+1),c2,some ((α 9).add (0+0)),(done.length+1),e2⟩,k2+1,W9,ms9,hP,by omega,by omega,hL.trans (hL5.trans hL9),⟨hfz,hfn⟩,rfl,rfl⟩⟩
   have f2:decide (L s k2=125#8)=false:=decide_eq_false c3
   (repeat show _∧_;first|refine yr ?_|refine yt ?_|refine yf ?_|refine ya f1 ?_|refine yb f1 ?_|refine ya f2 ?_|refine yb f2 ?_|refine yo ?_)
   refine FinW.of ⟨.tup [.agg (jvS jt0 jc0),.c (.int .i64 4)],_,⟨[0,1],⟨rfl,rfl,rfl⟩,by (repeat first|exact trivial|refine ent1 ?_)⟩,.inr ⟨4,jt0,jc0,k2,W5,ms5,?_,by decide,by omega,r2,hL.trans hL5,rfl,rfl⟩⟩
   rw [hP,pobj_no u1 p1 (fun r' h=>c2' (L_of (r3.trans h)).1) (fun r' h=>c3 (L_of (r3.trans h)).1)]
  ·refine And.intro rfl ?_
   refine And.intro (show 0+5≤5 by decide) ?_
   refine And.intro (show 0+scale 1 (0+1)≤1 by decide) ?_
   refine And.intro ⟨q5,by rw [sc1]; omega,show (done.length+1)*16≤140737488355328 by omega⟩ ?_
   intro e2 he2
   refine And.intro (show 0+scale 1 (4+1)≤5 by decide) ?_
   refine And.intro ⟨q4,by rw [sc5]; omega,show (done.length+1)*80≤140737488355328 by omega⟩ ?_
   intro c2 hc2
   (repeat show _∧_;first|refine yr ?_|refine yt ?_|refine yf ?_|refine yo ?_)
   refine call_same (fn_blanks s k' p3 hs) [1] rfl (by (repeat first|exact trivial|refine ent1 ?_)) (by (repeat first|exact trivial|refine ent1 ?_)) (fun _ _=>trivial) ?_
   rintro y hs' ⟨k2,r1,r2,r3,rfl,rfl⟩
   (repeat show _∧_;first|refine yr ?_|refine yt ?_|refine yf ?_|refine yo ?_)
   refine call_same (fn_peek s k2) [1] rfl (by (repeat first|exact trivial|refine ent1 ?_)) (by (repeat first|exact trivial|refine ent1 ?_)) (fun _ _=>trivial) ?_
   rintro y hs' ⟨rfl,rfl⟩
   by_cases c2':L s k2=44#8
   ·have f1:decide (L s k2=44#8)=true:=decide_eq_true c2'
    obtain ⟨h1,h2⟩:=of_L c2' (by decide)
    rw [pobj_next u1 p1 (by rw [← r3]; exact h1)] at hP
    (repeat show _∧_;first|refine yr ?_|refine yt ?_|refine yf ?_|refine ya f1 ?_|refine yb f1 ?_|refine yo ?_)
    refine ⟨(some ((done++[v]),(cs++flat (jvS v x)),(ns++[t]),c2,e2),k2+1,W5,ms5),[0,1,2,3,4,10,11],⟨⟨rfl,rfl,rfl⟩,?_⟩,⟨by omega,by omega,hL.trans hL5,by rw [hdl]; omega,by rw [hdl]; exact hc2,by rw [hdl]; exact he2,by rw [hdl]; exact hnl,hrw,f,by omega,hP⟩,by dsimp only; omega⟩
    (repeat first|exact trivial|refine ent1 ?_)
    refine And.intro (fun j hj=>eqJ_cs (nmL_raw _) (fun j hj=>nmL_approw q6 j hj) j) ?_
    (repeat first|exact trivial|refine ent1 ?_)
    exact ⟨fun j hj=>eqJ_cs hrw.raw (appJ_cs (m:=1) (sz:=4) (by rw [hlen]) (fun _ _=>rfl) rfl fun j hj=>updJ_new hj) j,by (repeat first|exact trivial|refine ent1 ?_)⟩
   have f1:decide (L s k2=44#8)=false:=decide_eq_false c2'
   by_cases c3:L s k2=125#8
   ·have f2:decide (L s k2=125#8)=true:=decide_eq_true c3
    obtain ⟨h1,h2⟩:=of_L c3 (by decide)
    rw [pobj_end u1 p1 (by rw [← r3]; exact h1)] at hP
    (repeat show _∧_;first|refine yr ?_|refine yt ?_|refine yf ?_|refine ya f1 ?_|refine yb f1 ?_|refine ya f2 ?_|refine yb f2 ?_|refine yo ?_)
    refine finW_frzU [0,1] rfl (Nat.zero_lt_one) cx0_m rfl (fun W9 ms9 α hL9 hI=>?_)
    have hfz:=hrw.frz (F:=fun j=>!memB j [0,1]) hL9 (appJ_cs (m:=1) (sz:=4) (by rw [hlen]) (fun _ _=>rfl) rfl fun j hj=>updJ_new hj) (hI 11 rfl) marks_off (n:=(done.length+1)) hdl hc2 (by omega)
    have hfn:=strs_frz (l:=(ns++[t]).map U8) (F:=fun j=>!memB j [0,1]) (fun j hj=>nmL_approw q6 j hj) (fun h=>(hI 10 rfl h).1) (n:=(done.length+1)) (by rw [List.length_map]; exact hnl) he2 (by omega)
    refine ⟨.tup [.agg (jvS (.mk 6#8 0#64 [] (done++[v]) (ns++[t])) ⟨some ((α 11).add (0+0)),(done.length+1),c2,some ((α 10).add (0+0)),(done.length+1),e2⟩),.c (.int .i64 0)],[psr s (k2+1)],⟨⟨rfl,rfl,rfl⟩,by (repeat first|exact trivial|refine ent1 ?_)⟩,.inl ⟨_,⟨some ((α 11).add (0+0)),(done.length+1),c2,some ((α 10).add (0+0)),(done.length+1),e2⟩,k2+1,W9,ms9,hP,by omega,by omega,hL.trans (hL5.trans hL9),⟨hfz,hfn⟩,rfl,rfl⟩⟩
   have f2:decide (L s k2=125#8)=false:=decide_eq_false c3
   (repeat show _∧_;first|refine yr ?_|refine yt ?_|refine yf ?_|refine ya f1 ?_|refine yb f1 ?_|refine ya f2 ?_|refine yb f2 ?_|refine yo ?_)
   refine FinW.of ⟨.tup [.agg (jvS jt0 jc0),.c (.int .i64 4)],_,⟨[0,1],⟨rfl,rfl,rfl⟩,by (repeat first|exact trivial|refine ent1 ?_)⟩,.inr ⟨4,jt0,jc0,k2,W5,ms5,?_,by decide,by omega,r2,hL.trans hL5,rfl,rfl⟩⟩
   rw [hP,pobj_no u1 p1 (fun r' h=>c2' (L_of (r3.trans h)).1) (fun r' h=>c3 (L_of (r3.trans h)).1)]
  ·refine And.intro rfl ?_
   refine And.intro (show 0+5≤5 by decide) ?_
   refine And.intro (show 0+scale 1 (0+1)≤1 by decide) ?_
   refine And.intro ⟨q5,by rw [sc1]; omega,show (done.length+1)*16≤140737488355328 by omega⟩ ?_
   intro e2 he2
   refine And.intro (show 0+scale 1 (4+1)≤5 by decide) ?_
   refine And.intro ⟨q4,by rw [sc5]; omega,show (done.length+1)*80≤140737488355328 by omega⟩ ?_
   intro c2 hc2
   (repeat show _∧_;first|refine yr ?_|refine yt ?_|refine yf ?_|refine yo ?_)
   refine call_same (fn_blanks s k' p3 hs) [1] rfl (by (repeat first|exact trivial|refine ent1 ?_)) (by (repeat first|exact trivial|refine ent1 ?_)) (fun _ _=>trivial) ?_
   rintro y hs' ⟨k2,r1,r2,r3,rfl,rfl⟩
   (repeat show _∧_;first|refine yr ?_|refine yt ?_|refine yf ?_|refine yo ?_)
   refine call_same (fn_peek s k2) [1] rfl (by (repeat first|exact trivial|refine ent1 ?_)) (by (repeat first|exact trivial|refine ent1 ?_)) (fun _ _=>trivial) ?_
   rintro y hs' ⟨rfl,rfl⟩
   by_cases c2':L s k2=44#8
   ·have f1:decide (L s k2=44#8)=true:=decide_eq_true c2'
    obtain ⟨h1,h2⟩:=of_L c2' (by decide)
    rw [pobj_next u1 p1 (by rw [← r3]; exact h1)] at hP
    (repeat show _∧_;first|refine yr ?_|refine yt ?_|refine yf ?_|refine ya f1 ?_|refine yb f1 ?_|refine yo ?_)
    refine ⟨(some ((done++[v]),(cs++flat (jvS v x)),(ns++[t]),c2,e2),k2+1,W5,ms5),[0,1,2,3,4,10,11],⟨⟨rfl,rfl,rfl⟩,?_⟩,⟨by omega,by omega,hL.trans hL5,by rw [hdl]; omega,by rw [hdl]; exact hc2,by rw [hdl]; exact he2,by rw [hdl]; exact hnl,hrw,f,by omega,hP⟩,by dsimp only; omega⟩
    (repeat first|exact trivial|refine ent1 ?_)
    refine And.intro (fun j hj=>eqJ_cs (nmL_raw _) (fun j hj=>nmL_approw q6 j hj) j) ?_
    (repeat first|exact trivial|refine ent1 ?_)
    exact ⟨fun j hj=>eqJ_cs hrw.raw (appJ_cs (m:=1) (sz:=4) (by rw [hlen]) (fun _ _=>rfl) rfl fun j hj=>updJ_new hj) j,by (repeat first|exact trivial|refine ent1 ?_)⟩
   have f1:decide (L s k2=44#8)=false:=decide_eq_false c2'
   by_cases c3:L s k2=125#8
   ·have f2:decide (L s k2=125#8)=true:=decide_eq_true c3
    obtain ⟨h1,h2⟩:=of_L c3 (by decide)
    rw [pobj_end u1 p1 (by rw [← r3]; exact h1)] at hP
    (repeat show _∧_;first|refine yr ?_|refine yt ?_|refine yf ?_|refine ya f1 ?_|refine yb f1 ?_|refine ya f2 ?_|refine yb f2 ?_|refine yo ?_)
    refine finW_frzU [0,1] rfl (Nat.zero_lt_one) cx0_m rfl (fun W9 ms9 α hL9 hI=>?_)
    have hfz:=hrw.frz (F:=fun j=>!memB j [0,1]) hL9 (appJ_cs (m:=1) (sz:=4) (by rw [hlen]) (fun _ _=>rfl) rfl fun j hj=>updJ_new hj) (hI 11 rfl) marks_off (n:=(done.length+1)) hdl hc2 (by omega)
    have hfn:=strs_frz (l:=(ns++[t]).map U8) (F:=fun j=>!memB j [0,1]) (fun j hj=>nmL_approw q6 j hj) (fun h=>(hI 10 rfl h).1) (n:=(done.length+1)) (by rw [List.length_map]; exact hnl) he2 (by omega)
    refine ⟨.tup [.agg (jvS (.mk 6#8 0#64 [] (done++[v]) (ns++[t])) ⟨some ((α 11).add (0+0)),(done.length+1),c2,some ((α 10).add (0+0)),(done.length+1),e2⟩),.c (.int .i64 0)],[psr s (k2+1)],⟨⟨rfl,rfl,rfl⟩,by (repeat first|exact trivial|refine ent1 ?_)⟩,.inl ⟨_,⟨some ((α 11).add (0+0)),(done.length+1),c2,some ((α 10).add (0+0)),(done.length+1),e2⟩,k2+1,W9,ms9,hP,by omega,by omega,hL.trans (hL5.trans hL9),⟨hfz,hfn⟩,rfl,rfl⟩⟩
   have f2:decide (L s k2=125#8)=false:=decide_eq_false c3
   (repeat show _∧_;first|refine yr ?_|refine yt ?_|refine yf ?_|refine ya f1 ?_|refine yb f1 ?_|refine ya f2 ?_|refine yb f2 ?_|refine yo ?_)
   refine FinW.of ⟨.tup [.agg (jvS jt0 jc0),.c (.int .i64 4)],_,⟨[0,1],⟨rfl,rfl,rfl⟩,by (repeat first|exact trivial|refine ent1 ?_)⟩,.inr ⟨4,jt0,jc0,k2,W5,ms5,?_,by decide,by omega,r2,hL.trans hL5,rfl,rfl⟩⟩
   rw [hP,pobj_no u1 p1 (fun r' h=>c2' (L_of (r3.trans h)).1) (fun r' h=>c3 (L_of (r3.trans h)).1)]
end Sx
end
end Go.Proofs.YtnehmcpkeamghaaDoor
