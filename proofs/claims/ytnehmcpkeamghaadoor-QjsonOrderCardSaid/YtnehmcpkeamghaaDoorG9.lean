/-
  Texts of this claim, part 9: QkS. No condition of its own.
-/
import Derived.Test.YtnehmcpkeamghaaDoorG8
namespace Go.Proofs.YtnehmcpkeamghaaDoor
set_option linter.unusedVariables false
section
namespace Qj
open Sha Js Ev Vi
theorem check_fit (e:Ev) (k:BitVec 8):checkM (fitE e k)=0:=by
 obtain ⟨s1,s2,s3,s4,s5⟩:=fit_shape e k
 have h:(fitE e k).t.toNat≤1125899906842624:=by
  show (e.t % 1125899906842625#64).toNat≤_
  rw [BitVec.toNat_umod]
  have:=Nat.mod_lt e.t.toNat (show (1125899906842625#64).toNat > 0 by decide)
  have e1:(1125899906842625#64).toNat=1125899906842625:=rfl
  omega
 exact (show GoodE 0#64 (fitE e k) from ⟨s1,Nat.zero_le _,h,s2,s3,s4,s5⟩).check.1
theorem rot3_0 {α:Type} {b:Nat} (h:b % 3=0) (x y z:α):rotT b [x,y,z] 3=[x,y,z]:=by
 have h0:(0+b) % [x,y,z].length=0:=by show (0+b) % 3=0; omega
 have h1:(1+b) % [x,y,z].length=1:=by show (1+b) % 3=1; omega
 have h2:(2+b) % [x,y,z].length=2:=by show (2+b) % 3=2; omega
 simp only [rotT,h0,h1,h2]
 rfl
theorem rot3_1 {α:Type} {b:Nat} (h:b % 3=1) (x y z:α):rotT b [x,y,z] 3=[y,z,x]:=by
 have h0:(0+b) % [x,y,z].length=1:=by show (0+b) % 3=1; omega
 have h1:(1+b) % [x,y,z].length=2:=by show (1+b) % 3=2; omega
 have h2:(2+b) % [x,y,z].length=0:=by show (2+b) % 3=0; omega
 simp only [rotT,h0,h1,h2]
 rfl
theorem rot3_2 {α:Type} {b:Nat} (h:b % 3=2) (x y z:α):rotT b [x,y,z] 3=[z,x,y]:=by
 have h0:(0+b) % [x,y,z].length=2:=by show (0+b) % 3=2; omega
 have h1:(1+b) % [x,y,z].length=0:=by show (1+b) % 3=0; omega
 have h2:(2+b) % [x,y,z].length=1:=by show (2+b) % 3=1; omega
 simp only [rotT,h0,h1,h2]
 rfl
end Qj
namespace Sx
open Go.RowKit Sha Vi Js Ev Qj
theorem shrt_ev {f:Ev} (h:checkM f=0):Shrt 4194304 2 (evJ f):=shrt_of 2 (norm_ev h) (Nat.le_trans (ev_len h) (by decide))
theorem shrt_mem {f:Ev} (h:checkM f=0) {L:List JT} {N:List Bs} (hL:∀ x∈L,x∈(evJ f).l∨Shrt 4194304 1 x):Shrt 4194304 2 (.mk 6#8 0#64 [] L N):=⟨Nat.zero_le _,fun x hx=>(hL x hx).elim ((shrt_ev h).2 x) id⟩
theorem shrt_rot {f:Ev} (h:checkM f=0) (b:Nat) {L:List JT} {N:List Bs} (hL:∀ x∈L,x=tNum f.t∨x=tText (evNm f.k)∨x=rotJ b (dataNs f.k).length (dataJ f)):Shrt 4194304 2 (.mk 6#8 0#64 [] L N):=by
 have hs:=(shrt_ev h).2
 refine ⟨Nat.zero_le _,fun x hx=>?_⟩
 rcases hL x hx with rfl|rfl|rfl
 ·exact hs _ (List.mem_cons_self ..)
 ·exact hs _ (List.mem_cons_of_mem _ (List.mem_cons_self ..))
 ·refine ⟨Nat.zero_le _,fun y hy=>?_⟩
  have hd:=(hs (dataJ f) (List.mem_cons_of_mem _ (List.mem_cons_of_mem _ (List.mem_cons_self ..)))).2
  have hy:y∈rotT b (dataJ f).l (dataNs f.k).length:=hy
  rcases Nat.eq_zero_or_pos (dataJ f).l.length with h0|h0
  ·rw [List.eq_nil_of_length_eq_zero h0,rotT_nil] at hy
   cases hy
  ·exact hd y (rotT_sub h0 _ y hy)
theorem takeB_nilQ {n:Nat} {f:Nat→SC} {o:Nat} {k:List Seg→Prop} (h:k []):takeB [] n f o k:=h
theorem RowJ.three {W:World} {ms:List Nat} {d:Nat} {cs:List SC} {a b c:JT} (h:RowJ W ms d cs [a,b,c]):∃ x y z,cs=flat (jvS a x)++(flat (jvS b y)++flat (jvS c z))∧TAt W ms d a x∧TAt W ms d b y∧TAt W ms d c z:=by
 obtain ⟨x,x1,x2⟩:=h.elt 0 a rfl
 obtain ⟨y,y1,y2⟩:=h.elt 1 b rfl
 obtain ⟨z,z1,z2⟩:=h.elt 2 c rfl
 refine ⟨x,y,z,?_,x2,y2,z2⟩
 have hl:cs.length=15:=h.len
 apply List.ext_getElem?
 intro j
 rcases Nat.lt_or_ge j 15 with hj|hj
 ·have h3:j / 5=0∨j / 5=1∨j / 5=2:=by omega
  rcases h3 with h3|h3|h3
  ·obtain ⟨i,rfl,hi⟩:∃ i,j=0*5+i∧i<5:=⟨j,by omega,by omega⟩
   have e:(flat (jvS a x))[i]?=some ((flat (jvS a x))[i]'hi):=List.getElem?_eq_getElem _
   rw [x1 i _ e,List.getElem?_append_left (by show 0*5+i<5; omega),show 0*5+i=i by omega,e]
  ·obtain ⟨i,rfl,hi⟩:∃ i,j=1*5+i∧i<5:=⟨j-5,by omega,by omega⟩
   have e:(flat (jvS b y))[i]?=some ((flat (jvS b y))[i]'hi):=List.getElem?_eq_getElem _
   rw [y1 i _ e,List.getElem?_append_right (by show 5≤1*5+i; omega),List.getElem?_append_left (by show 1*5+i-5<5; omega),show 1*5+i-(flat (jvS a x)).length=i from by show 1*5+i-5=i; omega,e]
  ·obtain ⟨i,rfl,hi⟩:∃ i,j=2*5+i∧i<5:=⟨j-10,by omega,by omega⟩
   have e:(flat (jvS c z))[i]?=some ((flat (jvS c z))[i]'hi):=List.getElem?_eq_getElem _
   rw [z1 i _ e,List.getElem?_append_right (by show 5≤2*5+i; omega),List.getElem?_append_right (by show 5≤2*5+i-5; omega),show 2*5+i-(flat (jvS a x)).length-(flat (jvS b y)).length=i from by show 2*5+i-5-5=i; omega,e]
 ·rw [List.getElem?_eq_none (by omega),List.getElem?_eq_none (by show 15≤j; exact hj)]
structure Hold (G:Prop):Prop where
 h:G
theorem cut_ {G T:Prop} (k:Hold G→T) (p:G):T:=k ⟨p⟩
theorem TAt.rowQ {W:World} {ms:List Nat} {d:Nat} {v:JT} {x:JC} (h:TAt W ms (d+1) v x):∃ cs,RowJ W ms d cs v.l∧(x.a=none→x.m=0)∧∀ A,x.a=some A→x.m=0∨ImAt W ms A cs:=by
 rcases Nat.eq_zero_or_pos v.l.length with h0|h0
 ·have hm:x.m=0:=by rw [← h.len,h0]
  rw [List.eq_nil_of_length_eq_zero h0]
  exact ⟨[],RowJ.nil,fun _=>hm,fun _ _=>.inl hm⟩
 ·obtain ⟨A,cs,hA,h1,h2⟩:=h.row h0
  exact ⟨cs,h1,fun e=>(by rw [hA] at e; cases e),fun B hB=>.inr (by rw [hA] at hB; injection hB with hB; rw [← hB]; exact h2)⟩
theorem nmJ_map (ns:List Bs):(ns.map U8).map SC.str=nmJ ns:=rfl
set_option maxRecDepth 20000 in
set_option maxHeartbeats 64000000 in
theorem fn_qorder {W:World} {ms:List Nat} (hT:Tabs W ms) {x:EvC} {e:Ev} (hx:EvAt W ms x e) (k by_ what:BitVec 8):FnR Tryd.prog tds 3 1 [[.past W ms]] [.agg (evS e x),.c (.w8 k),.c (.w8 by_),.c (.w8 what)] (fun _=>True) (fun y hs=>y=.a (.c (.bool true))):=by
 refine fn_of_body tds_ok follows_ Tryd.func3 rfl (t:=.a (.agg (evS e x))::.a (.c (.w8 k))::.a (.c (.w8 by_))::.a (.c (.w8 what))::anys (Tryd.f3.ntmps-4)) rfl (fun w r0 hr _=>?_)
 obtain ⟨x0,rfl⟩:=List.length_eq_one_iff.1 hr
 (repeat show _∧_;first|refine yr ?_|refine yt ?_|refine yf ?_|refine yo ?_)
 refine call_past (fn_qawake hT) 0 [] rfl rfl (by (repeat first|exact trivial|refine ent1 ?_)) (by (repeat first|exact trivial|refine ent1 ?_)) (fun _ _=>trivial) (fun x hs hr=>?_) ?_
 ·obtain ⟨W',ms',hL,_,rfl⟩:=hr
  exact ⟨W',ms',rfl,hL⟩
 rintro y hs ⟨W0,ms0,hL0,rfl,rfl⟩
 have hT:=hT.later hL0
 have hx:=hx.later hL0
 (repeat show _∧_;first|refine yr ?_|refine yt ?_|refine yf ?_|refine yo ?_)
 refine And.intro (show 0+4≤4 by decide) ?_
 (repeat show _∧_;first|refine yr ?_|refine yt ?_|refine yf ?_|refine yo ?_)
 have hR1:RowAt W0 ms0 ([]++flat (evS e x)) [e]:=RowAt.nil.snoc hx
 refine call_lend [3] 0 [] rfl rfl (by (repeat first|exact trivial|refine ent1 ?_)) NoP.nil (fun _ _=>trivial) (fun W' ms' α hL' hI=>⟨[.c (.slc (some ((α 3).add (0+0))) 1 1)],?_,(fn_light (hR1.frzF (F:=fun j=>memB j [3]) (n:=1) (c:=1) hL' (by exact fun j hj=>updN_new hj) (hI 3 rfl) rfl (by decide) (by decide))).mono (Res':=fun y hs=>y=.a (.c (.bool (lightE [e])))∧hs.drop 1=[]) (fun x hs hr=>?_)⟩) (fun x hs hr=>?_) ?_
 ·(repeat first|exact trivial|refine ent1 ?_)
 ·obtain ⟨rfl,rfl⟩:=hr
  exact ⟨rfl,rfl⟩
 ·rw [hr.2]; exact NoP.nil
 rintro y hs' ⟨rfl,hdrop⟩
 rw [hdrop]
 cases hL2:lightE [e] with
 | false =>
  (repeat show _∧_;first|refine yr ?_|refine yt ?_|refine yf ?_|refine yo ?_)
  exact ⟨.a (.c (.bool true)),[[.past W0 ms0]],⟨[0],⟨rfl,rfl,rfl⟩,by (repeat first|exact trivial|refine ent1 ?_)⟩,rfl⟩
 | true =>
 obtain ⟨hN3,hD3⟩:=(light2 hL2).1 e (List.mem_cons_self ..)
 (repeat show _∧_;first|refine yr ?_|refine yt ?_|refine yf ?_|refine yo ?_)
 refine call_past (fn_efit hx (by omega) (by omega) k) 0 [] rfl rfl (by (repeat first|exact trivial|refine ent1 ?_)) (by (repeat first|exact trivial|refine ent1 ?_)) (fun _ _=>trivial) (fun x hs hr=>?_) ?_
 ·obtain ⟨W',ms',x',h1,_,_,rfl⟩:=hr
  exact ⟨W',ms',rfl,h1⟩
 rintro y hs ⟨W1,ms1,x1,hL1,hx1,rfl,rfl⟩
 have hck:checkM (fitE e k)=0:=check_fit e k
 generalize fitE e k=f at hck hx1 ⊢
 have hT:=hT.later hL1
 (repeat show _∧_;first|refine yr ?_|refine yt ?_|refine yf ?_|refine yo ?_)
 refine call_past (fn_qvalue hx1) 0 [] rfl rfl (by (repeat first|exact trivial|refine ent1 ?_)) (by (repeat first|exact trivial|refine ent1 ?_)) (fun _ _=>trivial) (fun x hs hr=>?_) ?_
 ·rcases hr with ⟨h0,_⟩|⟨_,_,W',ms',h1,_,_,rfl⟩
  ·exact absurd hck h0
  ·exact ⟨W',ms',rfl,h1⟩
 rintro y hs (⟨h0,_⟩|⟨_,xv,W2,ms2,hL2,hv,rfl,rfl⟩)
 ·exact absurd hck h0
 have hT:=hT.later hL2
 have hx2:=hx1.later hL2
 clear hL0 hL1 hR1 hL2 hx
 (repeat show _∧_;first|refine yr ?_|refine yt ?_|refine yf ?_|refine yo ?_)
 refine call_same (fn_turn (d:=1) hv (n:=3) rfl rfl (by decide) (by decide) by_) [0,2] rfl (by (repeat first|exact trivial|refine ent1 ?_)) (by (repeat first|exact trivial|refine ent1 ?_)) (fun _ _=>trivial) ?_
 rintro y hs ⟨c,ce,cs,hc,hce,hR,rfl,rfl⟩
 have hR:RowJ W2 ms2 1 cs (rotT by_.toNat [tNum f.t,tText (evNm f.k),dataJ f] 3):=hR
 rw [show (evJ f).ns=[timeB,nameB,dataB] from rfl]
 have hdl:=data_len hck
 apply cut_
 intro rest
 by_cases hb0:by_.toNat % 3=0
 case' pos =>
  have hb3:=hb0
  rw [rot3_0 hb3] at hR ⊢
  obtain ⟨ya,yb,yc,rfl,ta,tb,tc⟩:=hR.three
  (repeat show _∧_;first|refine yr ?_|refine yt ?_|refine yf ?_|refine yo ?_)
  refine .inr ⟨3,?_⟩
  (repeat show _∧_;first|refine yr ?_|refine yt ?_|refine yf ?_|refine yo ?_)
  refine And.intro (show 0<scale ce (0+1) by rw [sc1]; omega) ?_
  refine frc_atQ (y:=.str (U8 timeB)) rfl ?_
  (repeat show _∧_;first|refine yr ?_|refine yt ?_|refine yf ?_|refine yo ?_)
  (repeat show _∧_;first|refine yr ?_|refine yt ?_|refine yf ?_|refine yo ?_)
  (repeat show _∧_;first|refine yr ?_|refine yt ?_|refine yf ?_|refine yo ?_)
  refine And.intro (show 1<scale ce (0+1) by rw [sc1]; omega) ?_
  refine frc_atQ (y:=.str (U8 nameB)) rfl ?_
  (repeat show _∧_;first|refine yr ?_|refine yt ?_|refine yf ?_|refine yo ?_)
  (repeat show _∧_;first|refine yr ?_|refine yt ?_|refine yf ?_|refine yo ?_)
  (repeat show _∧_;first|refine yr ?_|refine yt ?_|refine yf ?_|refine yo ?_)
  refine And.intro (show 2<scale ce (0+1) by rw [sc1]; omega) ?_
  refine frc_atQ (y:=.str (U8 dataB)) rfl ?_
  (repeat show _∧_;first|refine yr ?_|refine yt ?_|refine yf ?_|refine yo ?_)
  refine ⟨some [6,8],[],[(0,true),(1,true),(2,true),(3,true),(4,true),(5,true),(6,true),(7,true),(8,true),(9,false),(10,true)],[11],by (show planAny tds _ _ _ _=true; decide +kernel),?_⟩
  (repeat show _∧_;first|refine yr ?_|refine yt ?_|refine yf ?_|refine yo ?_)
  refine And.intro (show 10+0<scale c (4+1) by rw [sc5]; omega) ?_
  refine And.intro (show 10+1<scale c (4+1) by rw [sc5]; omega) ?_
  refine And.intro (show 10+2<scale c (4+1) by rw [sc5]; omega) ?_
  refine And.intro (show 10+3<scale c (4+1) by rw [sc5]; omega) ?_
  refine And.intro (show 10+4<scale c (4+1) by rw [sc5]; omega) ?_
  refine takeB_nilQ ?_
  refine frc_atQ (y:=.slc yc.b yc.p yc.q) rfl ?_
  refine frc_atQ (y:=.slc yc.a yc.m yc.c) rfl ?_
  refine frc_atQ (y:=.str []) rfl ?_
  refine frc_atQ (y:=.w64 0#64) rfl ?_
  refine frc_atQ (y:=.w8 6#8) rfl ?_
  (repeat show _∧_;first|refine yr ?_|refine yt ?_|refine yf ?_|refine yo ?_)
  refine call_past (fn_turnF (d:=0) tc (n:=(dataNs f.k).length) hdl.1 hdl.2.1 (by omega) by_) 0 [2] rfl rfl (by (repeat first|exact trivial|refine ent1 ?_)) (by (repeat first|exact trivial|refine ent1 ?_)) (fun _ _=>trivial) (fun x hs hr=>?_) ?_
  ·obtain ⟨_,W',ms',h1,_,_,rfl⟩:=hr
   exact ⟨W',ms',rfl,h1⟩
  rintro y hs ⟨z,W3,ms3,hL3,hz,rfl,rfl⟩
  (repeat show _∧_;first|refine yr ?_|refine yt ?_|refine yf ?_|refine yo ?_)
  refine And.intro (show 10+5≤scale c (4+1) by rw [sc5]; omega) ?_
  (repeat show _∧_;first|refine yr ?_|refine yt ?_|refine yf ?_|refine yo ?_)
  refine ⟨World × List Nat × JC × List JT × List Bs,fun x=>match x with|(W',ms',xw,L,N)=>⟨[.any,.any,.any,.a (.c (.w8 (what))),.any,.any,.any,.any,.any,.a (.c (.p 1 0 0)),.a (.c (.p 2 0 0)),.any,.any,.a (.c (.p 3 0 0)),.any,.any,.any,.any,.any,.any,.any,.any,.any,.any,.any,.any,.any,.any,.any,.any,.any,.any,.any,.any,.any,.any,.any,.any,.any,.any,.any,.any,.any,.any,.any,.any,.any,.a (.c (.int .i64 (((3:Nat):Int)))),.a (.c (.int .i64 ((3:Int)))),.any,.any,.any,.any,.any,.any,.any,.any,.any,.any,.any,.any,.any,.any,.any,.any,.any,.any,.any,.any,.any,.any,.any,.any,.any,.any,.any,.any,.any,.any,.any,.any,.any,.any,.any,.any,.any,.any,.any,.any,.any,.any,.any,.any,.any,.any,.any,.any,.any,.any,.any,.any,.any,.any,.any,.any,.any,.any,.any,.any,.any,.any,.any,.any,.any,.any,.any,.any,.any,.any,.any,.any,.any,.any,.any,.any,.any,.any,.any,.any,.any,.any,.any,.any,.any,.any,.any,.any,.any,.any,.any,.any,.any,.any,.any,.any,.any,.any,.any,.any,.any,.any,.any,.any,.any,.any,.any,.any,.any,.any,.any,.any,.any,.any,.any,.any,.any,.any,.any],[[.past W' ms'],evS f x1,jvS (evJ f) xv,jvS (.mk 6#8 0#64 [] L N) xw]⟩,
   fun x=>match x with|(W',ms',xw,L,N)=>Later W2 ms2 W' ms'∧TAt W' ms' 2 (.mk 6#8 0#64 [] L N) xw∧evOf (.mk 6#8 0#64 [] L N)=.inl f∧Shrt 4194304 2 (.mk 6#8 0#64 [] L N),fun _=>0,entW_frzU [0,4,5,8] rfl (Nat.zero_lt_one) cx0_m rfl (fun W' ms' α hL' hI=>?_),fun x hp=>?_⟩
  ·have hrow:RowJ W' ms' 1 (([]++flat (jvS (tNum f.t) ya))++flat (jvS (tText (evNm f.k)) yb)++flat (jvS (rotJ by_.toNat (dataNs f.k).length (dataJ f)) z)) [tNum f.t,tText (evNm f.k),rotJ by_.toNat (dataNs f.k).length (dataJ f)]:=((RowJ.nil.snoc ((ta.later hL3).later hL')).snoc ((tb.later hL3).later hL')).snoc (hz.later hL')
   have hnm:=strs_frz (W:=W') (ms:=ms') (A:=α 7) (F:=fun j=>!memB j [0,4,5,8]) (α:=α) (n:=3) (c:=ce) (l:=[timeB,nameB,dataB].map U8) (fun j hj=>mpJ_raw (nmL_raw _ _ (nthJ_mem (l:=nmJ [timeB,nameB,dataB]) hj))) (fun h=>(hI 7 rfl h).1) rfl hce (by decide)
   refine ⟨(W',ms',⟨some ((α 6).add (0+0)),3,c,some ((α 7).add (0+0)),3,ce⟩,[tNum f.t,tText (evNm f.k),rotJ by_.toNat (dataNs f.k).length (dataJ f)],[timeB,nameB,dataB]),[.any,.any,.any,.a (.c (.w8 (what))),.any,.any,.any,.any,.any,.a (.c (.p 1 0 0)),.a (.c (.p 2 0 0)),.any,.any,.a (.c (.p 3 0 0)),.any,.any,.any,.any,.any,.any,.any,.any,.any,.any,.any,.any,.any,.any,.any,.any,.any,.any,.any,.any,.any,.any,.any,.any,.any,.any,.any,.any,.any,.any,.any,.any,.any,.a (.c (.int .i64 (((3:Nat):Int)))),.a (.c (.int .i64 ((3:Int)))),.any,.any,.any,.any,.any,.any,.any,.any,.any,.any,.any,.any,.any,.any,.any,.any,.any,.any,.any,.any,.any,.any,.any,.any,.any,.any,.any,.any,.any,.any,.any,.any,.any,.any,.any,.any,.any,.any,.any,.any,.any,.any,.any,.any,.any,.any,.any,.any,.any,.any,.any,.any,.any,.any,.any,.any,.any,.any,.any,.any,.any,.any,.any,.any,.any,.any,.any,.any,.any,.any,.any,.any,.any,.any,.any,.any,.any,.any,.any,.any,.any,.any,.any,.any,.any,.any,.any,.any,.any,.any,.any,.any,.any,.any,.any,.any,.any,.any,.any,.any,.any,.any,.any,.any,.any,.any,.any,.any,.any,.any,.any,.any,.any,.any,.any,.any,.any,.any,.any],[evS f x1,jvS (evJ f) xv,jvS (.mk 6#8 0#64 [] [tNum f.t,tText (evNm f.k),rotJ by_.toNat (dataNs f.k).length (dataJ f)] [timeB,nameB,dataB]) ⟨some ((α 6).add (0+0)),3,c,some ((α 7).add (0+0)),3,ce⟩],⟨⟨rfl,rfl,rfl⟩,?_⟩,rfl,hL3.trans hL',⟨hrow.frz2 (F:=fun j=>!memB j [0,4,5,8]) (α:=α) (A:=α 6) (c:=c) (n:=3) (fun j hj=>?_) (hI 6 rfl) marks_off rfl hc (by decide),hnm⟩,?_,?_⟩
   ·(repeat first|exact trivial|refine ent1 ?_)
   ·have hj:j<15:=hj
    rcases (show j=0∨j=1∨j=2∨j=3∨j=4∨j=5∨j=6∨j=7∨j=8∨j=9∨j=10∨j=11∨j=12∨j=13∨j=14 by omega) with rfl|rfl|rfl|rfl|rfl|rfl|rfl|rfl|rfl|rfl|rfl|rfl|rfl|rfl|rfl <;> rfl
   ·exact evOf_of hck rfl rfl rfl rfl (fill_rot hck by_.toNat)
   ·exact shrt_rot hck by_.toNat (fun x hx=>by simp only [List.mem_cons,List.not_mem_nil,or_false] at hx; rcases hx with rfl|rfl|rfl <;> simp)
  obtain ⟨W4,ms4,xw,L,N⟩:=x
  obtain ⟨hL4,hw,hev,hsh⟩:=hp
  dsimp only
  have hT:=((hT.later hL4))
  have hv4:=hv.later hL4
  have hx4:=hx2.later hL4
  clear ta tb tc
  (repeat show _∧_;first|refine yr ?_|refine yt ?_|refine yf ?_|refine yo ?_)
  (repeat show _∧_;first|refine yr ?_|refine yt ?_|refine yf ?_|refine yo ?_)
  revert W4 ms4 xw L N
  exact rest.h
 case' neg =>
  by_cases hb3:by_.toNat % 3=1
  case' pos =>
   rw [rot3_1 hb3] at hR ⊢
   obtain ⟨ya,yb,yc,rfl,ta,tb,tc⟩:=hR.three
   (repeat show _∧_;first|refine yr ?_|refine yt ?_|refine yf ?_|refine yo ?_)
   refine .inr ⟨3,?_⟩
   (repeat show _∧_;first|refine yr ?_|refine yt ?_|refine yf ?_|refine yo ?_)
   refine And.intro (show 0<scale ce (0+1) by rw [sc1]; omega) ?_
   refine frc_atQ (y:=.str (U8 nameB)) rfl ?_
   (repeat show _∧_;first|refine yr ?_|refine yt ?_|refine yf ?_|refine yo ?_)
   (repeat show _∧_;first|refine yr ?_|refine yt ?_|refine yf ?_|refine yo ?_)
   (repeat show _∧_;first|refine yr ?_|refine yt ?_|refine yf ?_|refine yo ?_)
   refine And.intro (show 1<scale ce (0+1) by rw [sc1]; omega) ?_
   refine frc_atQ (y:=.str (U8 dataB)) rfl ?_
   (repeat show _∧_;first|refine yr ?_|refine yt ?_|refine yf ?_|refine yo ?_)
   refine ⟨some [6,8],[],[(0,true),(1,true),(2,true),(3,true),(4,true),(5,true),(6,true),(7,true),(8,true),(9,false),(10,true)],[11],by (show planAny tds _ _ _ _=true; decide +kernel),?_⟩
   (repeat show _∧_;first|refine yr ?_|refine yt ?_|refine yf ?_|refine yo ?_)
   refine And.intro (show 5+0<scale c (4+1) by rw [sc5]; omega) ?_
   refine And.intro (show 5+1<scale c (4+1) by rw [sc5]; omega) ?_
   refine And.intro (show 5+2<scale c (4+1) by rw [sc5]; omega) ?_
   refine And.intro (show 5+3<scale c (4+1) by rw [sc5]; omega) ?_
   refine And.intro (show 5+4<scale c (4+1) by rw [sc5]; omega) ?_
   refine takeB_nilQ ?_
   refine frc_atQ (y:=.slc yb.b yb.p yb.q) rfl ?_
   refine frc_atQ (y:=.slc yb.a yb.m yb.c) rfl ?_
   refine frc_atQ (y:=.str []) rfl ?_
   refine frc_atQ (y:=.w64 0#64) rfl ?_
   refine frc_atQ (y:=.w8 6#8) rfl ?_
   (repeat show _∧_;first|refine yr ?_|refine yt ?_|refine yf ?_|refine yo ?_)
   refine call_past (fn_turnF (d:=0) tb (n:=(dataNs f.k).length) hdl.1 hdl.2.1 (by omega) by_) 0 [2] rfl rfl (by (repeat first|exact trivial|refine ent1 ?_)) (by (repeat first|exact trivial|refine ent1 ?_)) (fun _ _=>trivial) (fun x hs hr=>?_) ?_
   ·obtain ⟨_,W',ms',h1,_,_,rfl⟩:=hr
    exact ⟨W',ms',rfl,h1⟩
   rintro y hs ⟨z,W3,ms3,hL3,hz,rfl,rfl⟩
   (repeat show _∧_;first|refine yr ?_|refine yt ?_|refine yf ?_|refine yo ?_)
   refine And.intro (show 5+5≤scale c (4+1) by rw [sc5]; omega) ?_
   (repeat show _∧_;first|refine yr ?_|refine yt ?_|refine yf ?_|refine yo ?_)
   (repeat show _∧_;first|refine yr ?_|refine yt ?_|refine yf ?_|refine yo ?_)
   refine And.intro (show 2<scale ce (0+1) by rw [sc1]; omega) ?_
   refine frc_atQ (y:=.str (U8 timeB)) rfl ?_
   (repeat show _∧_;first|refine yr ?_|refine yt ?_|refine yf ?_|refine yo ?_)
   (repeat show _∧_;first|refine yr ?_|refine yt ?_|refine yf ?_|refine yo ?_)
   refine ⟨World × List Nat × JC × List JT × List Bs,fun x=>match x with|(W',ms',xw,L,N)=>⟨[.any,.any,.any,.a (.c (.w8 (what))),.any,.any,.any,.any,.any,.a (.c (.p 1 0 0)),.a (.c (.p 2 0 0)),.any,.any,.a (.c (.p 3 0 0)),.any,.any,.any,.any,.any,.any,.any,.any,.any,.any,.any,.any,.any,.any,.any,.any,.any,.any,.any,.any,.any,.any,.any,.any,.any,.any,.any,.any,.any,.any,.any,.any,.any,.a (.c (.int .i64 (((3:Nat):Int)))),.a (.c (.int .i64 ((3:Int)))),.any,.any,.any,.any,.any,.any,.any,.any,.any,.any,.any,.any,.any,.any,.any,.any,.any,.any,.any,.any,.any,.any,.any,.any,.any,.any,.any,.any,.any,.any,.any,.any,.any,.any,.any,.any,.any,.any,.any,.any,.any,.any,.any,.any,.any,.any,.any,.any,.any,.any,.any,.any,.any,.any,.any,.any,.any,.any,.any,.any,.any,.any,.any,.any,.any,.any,.any,.any,.any,.any,.any,.any,.any,.any,.any,.any,.any,.any,.any,.any,.any,.any,.any,.any,.any,.any,.any,.any,.any,.any,.any,.any,.any,.any,.any,.any,.any,.any,.any,.any,.any,.any,.any,.any,.any,.any,.any,.any,.any,.any,.any,.any,.any,.any,.any,.any,.any,.any,.any],[[.past W' ms'],evS f x1,jvS (evJ f) xv,jvS (.mk 6#8 0#64 [] L N) xw]⟩,
    fun x=>match x with|(W',ms',xw,L,N)=>Later W2 ms2 W' ms'∧TAt W' ms' 2 (.mk 6#8 0#64 [] L N) xw∧evOf (.mk 6#8 0#64 [] L N)=.inl f∧Shrt 4194304 2 (.mk 6#8 0#64 [] L N),fun _=>0,entW_frzU [0,4,5,8] rfl (Nat.zero_lt_one) cx0_m rfl (fun W' ms' α hL' hI=>?_),fun x hp=>?_⟩
   ·have hrow:RowJ W' ms' 1 (([]++flat (jvS (tText (evNm f.k)) ya))++flat (jvS (rotJ by_.toNat (dataNs f.k).length (dataJ f)) z)++flat (jvS (tNum f.t) yc)) [tText (evNm f.k),rotJ by_.toNat (dataNs f.k).length (dataJ f),tNum f.t]:=((RowJ.nil.snoc ((ta.later hL3).later hL')).snoc (hz.later hL')).snoc ((tc.later hL3).later hL')
    have hnm:=strs_frz (W:=W') (ms:=ms') (A:=α 7) (F:=fun j=>!memB j [0,4,5,8]) (α:=α) (n:=3) (c:=ce) (l:=[nameB,dataB,timeB].map U8) (fun j hj=>mpJ_raw (nmL_raw _ _ (nthJ_mem (l:=nmJ [nameB,dataB,timeB]) hj))) (fun h=>(hI 7 rfl h).1) rfl hce (by decide)
    refine ⟨(W',ms',⟨some ((α 6).add (0+0)),3,c,some ((α 7).add (0+0)),3,ce⟩,[tText (evNm f.k),rotJ by_.toNat (dataNs f.k).length (dataJ f),tNum f.t],[nameB,dataB,timeB]),[.any,.any,.any,.a (.c (.w8 (what))),.any,.any,.any,.any,.any,.a (.c (.p 1 0 0)),.a (.c (.p 2 0 0)),.any,.any,.a (.c (.p 3 0 0)),.any,.any,.any,.any,.any,.any,.any,.any,.any,.any,.any,.any,.any,.any,.any,.any,.any,.any,.any,.any,.any,.any,.any,.any,.any,.any,.any,.any,.any,.any,.any,.any,.any,.a (.c (.int .i64 (((3:Nat):Int)))),.a (.c (.int .i64 ((3:Int)))),.any,.any,.any,.any,.any,.any,.any,.any,.any,.any,.any,.any,.any,.any,.any,.any,.any,.any,.any,.any,.any,.any,.any,.any,.any,.any,.any,.any,.any,.any,.any,.any,.any,.any,.any,.any,.any,.any,.any,.any,.any,.any,.any,.any,.any,.any,.any,.any,.any,.any,.any,.any,.any,.any,.any,.any,.any,.any,.any,.any,.any,.any,.any,.any,.any,.any,.any,.any,.any,.any,.any,.any,.any,.any,.any,.any,.any,.any,.any,.any,.any,.any,.any,.any,.any,.any,.any,.any,.any,.any,.any,.any,.any,.any,.any,.any,.any,.any,.any,.any,.any,.any,.any,.any,.any,.any,.any,.any,.any,.any,.any,.any,.any,.any,.any,.any,.any,.any,.any],[evS f x1,jvS (evJ f) xv,jvS (.mk 6#8 0#64 [] [tText (evNm f.k),rotJ by_.toNat (dataNs f.k).length (dataJ f),tNum f.t] [nameB,dataB,timeB]) ⟨some ((α 6).add (0+0)),3,c,some ((α 7).add (0+0)),3,ce⟩],⟨⟨rfl,rfl,rfl⟩,?_⟩,rfl,hL3.trans hL',⟨hrow.frz2 (F:=fun j=>!memB j [0,4,5,8]) (α:=α) (A:=α 6) (c:=c) (n:=3) (fun j hj=>?_) (hI 6 rfl) marks_off rfl hc (by decide),hnm⟩,?_,?_⟩
    ·(repeat first|exact trivial|refine ent1 ?_)
    ·have hj:j<15:=hj
     rcases (show j=0∨j=1∨j=2∨j=3∨j=4∨j=5∨j=6∨j=7∨j=8∨j=9∨j=10∨j=11∨j=12∨j=13∨j=14 by omega) with rfl|rfl|rfl|rfl|rfl|rfl|rfl|rfl|rfl|rfl|rfl|rfl|rfl|rfl|rfl <;> rfl
    ·exact evOf_of hck rfl rfl rfl rfl (fill_rot hck by_.toNat)
    ·exact shrt_rot hck by_.toNat (fun x hx=>by simp only [List.mem_cons,List.not_mem_nil,or_false] at hx; rcases hx with rfl|rfl|rfl <;> simp)
   obtain ⟨W4,ms4,xw,L,N⟩:=x
   obtain ⟨hL4,hw,hev,hsh⟩:=hp
   dsimp only
   have hT:=((hT.later hL4))
   have hv4:=hv.later hL4
   have hx4:=hx2.later hL4
   clear ta tb tc
   (repeat show _∧_;first|refine yr ?_|refine yt ?_|refine yf ?_|refine yo ?_)
   (repeat show _∧_;first|refine yr ?_|refine yt ?_|refine yf ?_|refine yo ?_)
   revert W4 ms4 xw L N
   exact rest.h
  case' neg =>
   have hb3:by_.toNat % 3=2:=by omega
   rw [rot3_2 hb3] at hR ⊢
   obtain ⟨ya,yb,yc,rfl,ta,tb,tc⟩:=hR.three
   (repeat show _∧_;first|refine yr ?_|refine yt ?_|refine yf ?_|refine yo ?_)
   refine .inr ⟨3,?_⟩
   (repeat show _∧_;first|refine yr ?_|refine yt ?_|refine yf ?_|refine yo ?_)
   refine And.intro (show 0<scale ce (0+1) by rw [sc1]; omega) ?_
   refine frc_atQ (y:=.str (U8 dataB)) rfl ?_
   (repeat show _∧_;first|refine yr ?_|refine yt ?_|refine yf ?_|refine yo ?_)
   refine ⟨some [6,8],[],[(0,true),(1,true),(2,true),(3,true),(4,true),(5,true),(6,true),(7,true),(8,true),(9,false),(10,true)],[11],by (show planAny tds _ _ _ _=true; decide +kernel),?_⟩
   (repeat show _∧_;first|refine yr ?_|refine yt ?_|refine yf ?_|refine yo ?_)
   refine And.intro (show 0+0<scale c (4+1) by rw [sc5]; omega) ?_
   refine And.intro (show 0+1<scale c (4+1) by rw [sc5]; omega) ?_
   refine And.intro (show 0+2<scale c (4+1) by rw [sc5]; omega) ?_
   refine And.intro (show 0+3<scale c (4+1) by rw [sc5]; omega) ?_
   refine And.intro (show 0+4<scale c (4+1) by rw [sc5]; omega) ?_
   refine takeB_nilQ ?_
   refine frc_atQ (y:=.slc ya.b ya.p ya.q) rfl ?_
   refine frc_atQ (y:=.slc ya.a ya.m ya.c) rfl ?_
   refine frc_atQ (y:=.str []) rfl ?_
   refine frc_atQ (y:=.w64 0#64) rfl ?_
   refine frc_atQ (y:=.w8 6#8) rfl ?_
   (repeat show _∧_;first|refine yr ?_|refine yt ?_|refine yf ?_|refine yo ?_)
   refine call_past (fn_turnF (d:=0) ta (n:=(dataNs f.k).length) hdl.1 hdl.2.1 (by omega) by_) 0 [2] rfl rfl (by (repeat first|exact trivial|refine ent1 ?_)) (by (repeat first|exact trivial|refine ent1 ?_)) (fun _ _=>trivial) (fun x hs hr=>?_) ?_
   ·obtain ⟨_,W',ms',h1,_,_,rfl⟩:=hr
    exact ⟨W',ms',rfl,h1⟩
   rintro y hs ⟨z,W3,ms3,hL3,hz,rfl,rfl⟩
   (repeat show _∧_;first|refine yr ?_|refine yt ?_|refine yf ?_|refine yo ?_)
   refine And.intro (show 0+5≤scale c (4+1) by rw [sc5]; omega) ?_
   (repeat show _∧_;first|refine yr ?_|refine yt ?_|refine yf ?_|refine yo ?_)
   (repeat show _∧_;first|refine yr ?_|refine yt ?_|refine yf ?_|refine yo ?_)
   refine And.intro (show 1<scale ce (0+1) by rw [sc1]; omega) ?_
   refine frc_atQ (y:=.str (U8 timeB)) rfl ?_
   (repeat show _∧_;first|refine yr ?_|refine yt ?_|refine yf ?_|refine yo ?_)
   (repeat show _∧_;first|refine yr ?_|refine yt ?_|refine yf ?_|refine yo ?_)
   (repeat show _∧_;first|refine yr ?_|refine yt ?_|refine yf ?_|refine yo ?_)
   refine And.intro (show 2<scale ce (0+1) by rw [sc1]; omega) ?_
   refine frc_atQ (y:=.str (U8 nameB)) rfl ?_
   (repeat show _∧_;first|refine yr ?_|refine yt ?_|refine yf ?_|refine yo ?_)
   (repeat show _∧_;first|refine yr ?_|refine yt ?_|refine yf ?_|refine yo ?_)
   refine ⟨World × List Nat × JC × List JT × List Bs,fun x=>match x with|(W',ms',xw,L,N)=>⟨[.any,.any,.any,.a (.c (.w8 (what))),.any,.any,.any,.any,.any,.a (.c (.p 1 0 0)),.a (.c (.p 2 0 0)),.any,.any,.a (.c (.p 3 0 0)),.any,.any,.any,.any,.any,.any,.any,.any,.any,.any,.any,.any,.any,.any,.any,.any,.any,.any,.any,.any,.any,.any,.any,.any,.any,.any,.any,.any,.any,.any,.any,.any,.any,.a (.c (.int .i64 (((3:Nat):Int)))),.a (.c (.int .i64 ((3:Int)))),.any,.any,.any,.any,.any,.any,.any,.any,.any,.any,.any,.any,.any,.any,.any,.any,.any,.any,.any,.any,.any,.any,.any,.any,.any,.any,.any,.any,.any,.any,.any,.any,.any,.any,.any,.any,.any,.any,.any,.any,.any,.any,.any,.any,.any,.any,.any,.any,.any,.any,.any,.any,.any,.any,.any,.any,.any,.any,.any,.any,.any,.any,.any,.any,.any,.any,.any,.any,.any,.any,.any,.any,.any,.any,.any,.any,.any,.any,.any,.any,.any,.any,.any,.any,.any,.any,.any,.any,.any,.any,.any,.any,.any,.any,.any,.any,.any,.any,.any,.any,.any,.any,.any,.any,.any,.any,.any,.any,.any,.any,.any,.any,.any,.any,.any,.any,.any,.any,.any],[[.past W' ms'],evS f x1,jvS (evJ f) xv,jvS (.mk 6#8 0#64 [] L N) xw]⟩,
    fun x=>match x with|(W',ms',xw,L,N)=>Later W2 ms2 W' ms'∧TAt W' ms' 2 (.mk 6#8 0#64 [] L N) xw∧evOf (.mk 6#8 0#64 [] L N)=.inl f∧Shrt 4194304 2 (.mk 6#8 0#64 [] L N),fun _=>0,entW_frzU [0,4,5,8] rfl (Nat.zero_lt_one) cx0_m rfl (fun W' ms' α hL' hI=>?_),fun x hp=>?_⟩
   ·have hrow:RowJ W' ms' 1 (([]++flat (jvS (rotJ by_.toNat (dataNs f.k).length (dataJ f)) z))++flat (jvS (tNum f.t) yb)++flat (jvS (tText (evNm f.k)) yc)) [rotJ by_.toNat (dataNs f.k).length (dataJ f),tNum f.t,tText (evNm f.k)]:=((RowJ.nil.snoc (hz.later hL')).snoc ((tb.later hL3).later hL')).snoc ((tc.later hL3).later hL')
    have hnm:=strs_frz (W:=W') (ms:=ms') (A:=α 7) (F:=fun j=>!memB j [0,4,5,8]) (α:=α) (n:=3) (c:=ce) (l:=[dataB,timeB,nameB].map U8) (fun j hj=>mpJ_raw (nmL_raw _ _ (nthJ_mem (l:=nmJ [dataB,timeB,nameB]) hj))) (fun h=>(hI 7 rfl h).1) rfl hce (by decide)
    refine ⟨(W',ms',⟨some ((α 6).add (0+0)),3,c,some ((α 7).add (0+0)),3,ce⟩,[rotJ by_.toNat (dataNs f.k).length (dataJ f),tNum f.t,tText (evNm f.k)],[dataB,timeB,nameB]),[.any,.any,.any,.a (.c (.w8 (what))),.any,.any,.any,.any,.any,.a (.c (.p 1 0 0)),.a (.c (.p 2 0 0)),.any,.any,.a (.c (.p 3 0 0)),.any,.any,.any,.any,.any,.any,.any,.any,.any,.any,.any,.any,.any,.any,.any,.any,.any,.any,.any,.any,.any,.any,.any,.any,.any,.any,.any,.any,.any,.any,.any,.any,.any,.a (.c (.int .i64 (((3:Nat):Int)))),.a (.c (.int .i64 ((3:Int)))),.any,.any,.any,.any,.any,.any,.any,.any,.any,.any,.any,.any,.any,.any,.any,.any,.any,.any,.any,.any,.any,.any,.any,.any,.any,.any,.any,.any,.any,.any,.any,.any,.any,.any,.any,.any,.any,.any,.any,.any,.any,.any,.any,.any,.any,.any,.any,.any,.any,.any,.any,.any,.any,.any,.any,.any,.any,.any,.any,.any,.any,.any,.any,.any,.any,.any,.any,.any,.any,.any,.any,.any,.any,.any,.any,.any,.any,.any,.any,.any,.any,.any,.any,.any,.any,.any,.any,.any,.any,.any,.any,.any,.any,.any,.any,.any,.any,.any,.any,.any,.any,.any,.any,.any,.any,.any,.any,.any,.any,.any,.any,.any,.any,.any,.any,.any,.any,.any,.any],[evS f x1,jvS (evJ f) xv,jvS (.mk 6#8 0#64 [] [rotJ by_.toNat (dataNs f.k).length (dataJ f),tNum f.t,tText (evNm f.k)] [dataB,timeB,nameB]) ⟨some ((α 6).add (0+0)),3,c,some ((α 7).add (0+0)),3,ce⟩],⟨⟨rfl,rfl,rfl⟩,?_⟩,rfl,hL3.trans hL',⟨hrow.frz2 (F:=fun j=>!memB j [0,4,5,8]) (α:=α) (A:=α 6) (c:=c) (n:=3) (fun j hj=>?_) (hI 6 rfl) marks_off rfl hc (by decide),hnm⟩,?_,?_⟩
    ·(repeat first|exact trivial|refine ent1 ?_)
    ·have hj:j<15:=hj
     rcases (show j=0∨j=1∨j=2∨j=3∨j=4∨j=5∨j=6∨j=7∨j=8∨j=9∨j=10∨j=11∨j=12∨j=13∨j=14 by omega) with rfl|rfl|rfl|rfl|rfl|rfl|rfl|rfl|rfl|rfl|rfl|rfl|rfl|rfl|rfl <;> rfl
    ·exact evOf_of hck rfl rfl rfl rfl (fill_rot hck by_.toNat)
    ·exact shrt_rot hck by_.toNat (fun x hx=>by simp only [List.mem_cons,List.not_mem_nil,or_false] at hx; rcases hx with rfl|rfl|rfl <;> simp)
   obtain ⟨W4,ms4,xw,L,N⟩:=x
   obtain ⟨hL4,hw,hev,hsh⟩:=hp
   dsimp only
   have hT:=((hT.later hL4))
   have hv4:=hv.later hL4
   have hx4:=hx2.later hL4
   clear ta tb tc
   (repeat show _∧_;first|refine yr ?_|refine yt ?_|refine yf ?_|refine yo ?_)
   (repeat show _∧_;first|refine yr ?_|refine yt ?_|refine yf ?_|refine yo ?_)
   revert W4 ms4 xw L N
   exact rest.h
 intro W4 ms4 xw L N hL4 hw hev hsh hT hv4 hx4
 refine call_past (fn_qevent (d:=0) hw hsh) 0 [] rfl rfl (by (repeat first|exact trivial|refine ent1 ?_)) (by (repeat first|exact trivial|refine ent1 ?_)) (fun _ _=>trivial) (fun x hs hr=>?_) ?_
 ·rw [hev] at hr
  obtain ⟨_,W',ms',h1,_,_,rfl⟩:=hr
  exact ⟨W',ms',rfl,h1⟩
 rintro y hs hr
 rw [hev] at hr
 obtain ⟨x5,W5,ms5,hL5,hx5,rfl,rfl⟩:=hr
 have hT:=hT.later hL5
 have hv5:=hv4.later hL5
 have hx6:=hx4.later hL5
 (repeat show _∧_;first|refine yr ?_|refine yt ?_|refine yf ?_|refine yo ?_)
 refine call_same (fn_esame hx5 hx6) [0] rfl (by (repeat first|exact trivial|refine ent1 ?_)) (by (repeat first|exact trivial|refine ent1 ?_)) (fun _ _=>trivial) ?_
 rintro y hs ⟨rfl,rfl⟩
 rw [show decide (sameE f f)=true from decide_eq_true ⟨rfl,rfl,rfl,rfl⟩]
 obtain ⟨xa,xm,xmc,xb,xp,xpc⟩:=xv
 obtain rfl:3=xm:=hv5.len
 have hvn:StAt W5 ms5 xb xp xpc ([timeB,nameB,dataB].map U8):=hv5.ns
 obtain rfl:3=xp:=hvn.n1
 obtain ⟨A,cs5,hA,hR5,hi5⟩:=hv5.row (show 0<3 by decide)
 obtain rfl:xa=some A:=hA
 obtain ⟨B,rfl⟩:∃ B,xb=some B:=by
  cases xb with
  | none=>have:=hvn.nil rfl; have:=hvn.le; omega
  | some B=>exact ⟨B,rfl⟩
 have hBi:=hvn.im B rfl (by have:=hvn.le; omega)
 have hR5:RowJ W5 ms5 1 cs5 [tNum f.t,tText (evNm f.k),dataJ f]:=hR5
 obtain ⟨ua,ub,uc,rfl,wa,wb,wc⟩:=hR5.three
 clear hL4 hL5 hw hsh hx5 hx6 hx4 hv4
 have hevl:evOf (.mk 5#8 0#64 [] (evJ f).l (evJ f).ns)=.inr 4:=evOf_no (.inl rfl)
 (repeat show _∧_;first|refine yr ?_|refine yt ?_|refine yf ?_|refine yo ?_)
 (repeat show _∧_;first|refine yr ?_|refine yt ?_|refine yf ?_|refine yo ?_)
 refine ⟨some [2],[1002,3,0,4,9,1001,1002,1005,1006,2000,2003,2004,2007,1008,2009,0],[(0,false),(1,true),(2,true),(3,false),(4,false),(5,true),(6,true),(7,false),(8,true),(9,false)],[10],by (show planAny tds _ _ _ _=true; decide +kernel),?_⟩
 (repeat show _∧_;first|refine yr ?_|refine yt ?_|refine yf ?_|refine yo ?_)
 refine ⟨nthC (nmJ [timeB,nameB,dataB]),.inr ?_,?_⟩
 ·exact RawAt.past (i:=0) rfl (show ImAt W5 ms5 B ((List.range 3).map (nthC (nmJ [timeB,nameB,dataB]))) from hBi)
 refine ⟨⟨Nat.le_refl _,(show 0+scale 0 (0+1)≤0 by decide),(show (0+3)*16≤140737488355328 by decide)⟩,fun c6 hc6=>?_⟩
 (repeat show _∧_;first|refine yr ?_|refine yt ?_|refine yf ?_|refine yo ?_)
 refine ⟨nthC (flat (jvS (tNum f.t) ua)++(flat (jvS (tText (evNm f.k)) ub)++flat (jvS (dataJ f) uc))),.inr ?_,?_⟩
 ·exact RawAt.past (i:=0) rfl (show ImAt W5 ms5 A ((List.range 15).map (nthC (flat (jvS (tNum f.t) ua)++(flat (jvS (tText (evNm f.k)) ub)++flat (jvS (dataJ f) uc))))) from hi5)
 refine ⟨⟨Nat.le_refl _,(show 0+scale 0 (4+1)≤0 by decide),(show (0+3)*80≤140737488355328 by decide)⟩,fun c7 hc7=>?_⟩
 have hc6n:3≤c6:=hc6
 have hc7n:3≤c7:=hc7
 (repeat show _∧_;first|refine yr ?_|refine yt ?_|refine yf ?_|refine yo ?_)
 refine And.intro (fun e0=>?_) (fun e0=>?_)
 ·clear e0
  (repeat show _∧_;first|refine yr ?_|refine yt ?_|refine yf ?_|refine yo ?_)
  refine ⟨some [9],[1001,1000,1001,1004,1005,1006,3,2,7,3,3,7,1009,2007,2008,0,2003,1009,2008,0,2002,2003,1009,2008,0],[(0,true),(1,true),(2,false),(3,false),(4,true),(5,true),(6,true),(7,false),(8,false),(9,true)],[10,11,12],by (show planAny tds _ _ _ _=true; decide +kernel),?_⟩
  (repeat show _∧_;first|refine yr ?_|refine yt ?_|refine yf ?_|refine yo ?_)
  refine And.intro (And.intro ?_ ?_) ?_
  ·(repeat show _∧_;first|refine yr ?_|refine yt ?_|refine yf ?_|refine yo ?_)
   refine And.intro ⟨hc6,Nat.le_of_eq (Nat.zero_add _),(show (3+1)*16≤140737488355328 by decide)⟩ ?_
   intro e2 he2
   (repeat show _∧_;first|refine yr ?_|refine yt ?_|refine yf ?_|refine yo ?_)
   refine And.intro ⟨hc7,Nat.le_of_eq (Nat.zero_add _),(show (3+1)*80≤140737488355328 by decide)⟩ ?_
   intro c2 hc2
   (repeat show _∧_;first|refine yr ?_|refine yt ?_|refine yf ?_|refine yo ?_)
   have hsh9:Shrt 4194304 2 (.mk 6#8 0#64 [] [tNum f.t,tText (evNm f.k),dataJ f,JT.mk 0#8 0#64 [] [] []] [timeB,nameB,dataB,moreB]):=shrt_mem hck (fun x hx=>by
    simp only [List.mem_cons,List.not_mem_nil,or_false] at hx
    rcases hx with rfl|rfl|rfl|rfl
    ·exact .inl (List.mem_cons_self ..)
    ·exact .inl (List.mem_cons_of_mem _ (List.mem_cons_self ..))
    ·exact .inl (List.mem_cons_of_mem _ (List.mem_cons_of_mem _ (List.mem_cons_self ..)))
    ·exact .inr ⟨Nat.zero_le _,fun y hy=>by cases hy⟩)
   have hcap:4≤c2:=hc2
   have hncap:4≤e2:=he2
   have hev9:evOf (.mk 6#8 0#64 [] [tNum f.t,tText (evNm f.k),dataJ f,JT.mk 0#8 0#64 [] [] []] [timeB,nameB,dataB,moreB])=.inr 4:=evOf_no (.inl rfl)
   have hrow9:=hR5.snoc (v:=JT.mk 0#8 0#64 [] [] []) (TAt.leaf rfl rfl 1)
   refine call_lendU [11,13] 0 [] rfl rfl (by (repeat first|exact trivial|refine ent1 ?_)) NoP.nil (fun _ _=>trivial) (fun W9 ms9 α hL9 hI=>⟨[.agg (jvS (.mk 6#8 0#64 [] [tNum f.t,tText (evNm f.k),dataJ f,JT.mk 0#8 0#64 [] [] []] [timeB,nameB,dataB,moreB]) ⟨some ((α 13).add (0+0)),4,c2,some ((α 11).add (0+0)),4,e2⟩)],?_,(fn_qevent (d:=0) (v:=(.mk 6#8 0#64 [] [tNum f.t,tText (evNm f.k),dataJ f,JT.mk 0#8 0#64 [] [] []] [timeB,nameB,dataB,moreB])) (x:=⟨some ((α 13).add (0+0)),4,c2,some ((α 11).add (0+0)),4,e2⟩) ?_ hsh9).mono (Res':=fun y hs=>y=.tup [.agg (evS ev0 ec0),.c (.int .i64 4)]∧hs.drop 1=[]) (fun x hs hr=>?_)⟩) (fun x hs hr=>by rw [hr.2]; exact NoP.nil) ?_
   ·(repeat first|exact trivial|refine ent1 ?_)
   ·exact ⟨(hrow9.later hL9).frz2 (F:=fun j=>memB j [11,13]) (fun j hj=>(congrArg (fun y=>(SC.rz (fun j=>memB j [11,13]) α y).raw) ((appJ_cs (cs:=flat (jvS (tNum f.t) ua)++(flat (jvS (tText (evNm f.k)) ub)++flat (jvS (dataJ f) uc))) (new:=flat (jvS (JT.mk 0#8 0#64 [] [] []) jc0)) (n:=3) (m:=1) (sz:=4) rfl (newJ_cs (m:=3) (sz:=4) rfl (fun _ _=>rfl)) rfl (fun j hj=>updJ_new hj)) j hj)).trans (rzJ_raw (hrow9.raw _ (nthJ_mem hj)))) (fun hf=>⟨(hI 13 rfl hf).1,fun hm=>(hI 13 rfl hf).2 hm rfl⟩) marks_off (n:=4) rfl hcap (by decide),strs_frz (l:=[timeB,nameB,dataB,moreB].map U8) (F:=fun j=>memB j [11,13]) (fun j hj=>appJ_cs (cs:=nmJ [timeB,nameB,dataB]) (new:=nmJ [moreB]) (n:=3) (m:=1) (sz:=0) rfl (newJ_cs (m:=3) (sz:=0) rfl (fun _ _=>rfl)) rfl (fun _ _=>rfl) j hj) (fun hf=>(hI 11 rfl hf).1) (n:=4) rfl hncap (by decide)⟩
   ·rw [hev9] at hr
    obtain ⟨_,W',ms',_,rfl,rfl⟩:=hr
    exact ⟨rfl,rfl⟩
   rintro y hs ⟨rfl,hdrop⟩
   rw [hdrop]
   (repeat show _∧_;first|refine yr ?_|refine yt ?_|refine yf ?_|refine yo ?_)
   refine call_past (fn_qevent (d:=0) (v:=.mk 5#8 0#64 [] (evJ f).l (evJ f).ns) (x:=⟨some A,3,xmc,some B,3,xpc⟩) (show TAt W5 ms5 2 (.mk 5#8 0#64 [] (evJ f).l (evJ f).ns) _ from hv5) ⟨Nat.zero_le _,(shrt_ev hck).2⟩) 0 [] rfl rfl (by (repeat first|exact trivial|refine ent1 ?_)) (by (repeat first|exact trivial|refine ent1 ?_)) (fun _ _=>trivial) (fun x hs hr=>?_) ?_
   ·rw [hevl] at hr
    obtain ⟨_,W',ms',h1,_,rfl⟩:=hr
    exact ⟨W',ms',rfl,h1⟩
   rintro y hs hr
   rw [hevl] at hr
   obtain ⟨_,W6,ms6,_,rfl,rfl⟩:=hr
   (repeat show _∧_;first|refine yr ?_|refine yt ?_|refine yf ?_|refine yo ?_)
   exact ⟨.a (.c (.bool true)),[[.past W6 ms6]],⟨[0],⟨rfl,rfl,rfl⟩,by (repeat first|exact trivial|refine ent1 ?_)⟩,rfl⟩
  ·(repeat show _∧_;first|refine yr ?_|refine yt ?_|refine yf ?_|refine yo ?_)
   refine And.intro ⟨hc6,Nat.le_of_eq (Nat.zero_add _),(show (3+1)*16≤140737488355328 by decide)⟩ ?_
   intro e2 he2
   (repeat show _∧_;first|refine yr ?_|refine yt ?_|refine yf ?_|refine yo ?_)
   refine And.intro ⟨hc7,Nat.le_of_eq (Nat.zero_add _),(show (3+1)*80≤140737488355328 by decide)⟩ ?_
   intro c2 hc2
   (repeat show _∧_;first|refine yr ?_|refine yt ?_|refine yf ?_|refine yo ?_)
   have hsh9:Shrt 4194304 2 (.mk 6#8 0#64 [] [tNum f.t,tText (evNm f.k),dataJ f,JT.mk 0#8 0#64 [] [] []] [timeB,nameB,dataB,moreB]):=shrt_mem hck (fun x hx=>by
    simp only [List.mem_cons,List.not_mem_nil,or_false] at hx
    rcases hx with rfl|rfl|rfl|rfl
    ·exact .inl (List.mem_cons_self ..)
    ·exact .inl (List.mem_cons_of_mem _ (List.mem_cons_self ..))
    ·exact .inl (List.mem_cons_of_mem _ (List.mem_cons_of_mem _ (List.mem_cons_self ..)))
    ·exact .inr ⟨Nat.zero_le _,fun y hy=>by cases hy⟩)
   have hcap:4≤c2:=hc2
   have hncap:4≤e2:=he2
   have hev9:evOf (.mk 6#8 0#64 [] [tNum f.t,tText (evNm f.k),dataJ f,JT.mk 0#8 0#64 [] [] []] [timeB,nameB,dataB,moreB])=.inr 4:=evOf_no (.inl rfl)
   have hrow9:=hR5.snoc (v:=JT.mk 0#8 0#64 [] [] []) (TAt.leaf rfl rfl 1)
   refine call_lendU [12,13] 0 [] rfl rfl (by (repeat first|exact trivial|refine ent1 ?_)) NoP.nil (fun _ _=>trivial) (fun W9 ms9 α hL9 hI=>⟨[.agg (jvS (.mk 6#8 0#64 [] [tNum f.t,tText (evNm f.k),dataJ f,JT.mk 0#8 0#64 [] [] []] [timeB,nameB,dataB,moreB]) ⟨some ((α 13).add (0+0)),4,c2,some ((α 12).add (0+0)),4,e2⟩)],?_,(fn_qevent (d:=0) (v:=(.mk 6#8 0#64 [] [tNum f.t,tText (evNm f.k),dataJ f,JT.mk 0#8 0#64 [] [] []] [timeB,nameB,dataB,moreB])) (x:=⟨some ((α 13).add (0+0)),4,c2,some ((α 12).add (0+0)),4,e2⟩) ?_ hsh9).mono (Res':=fun y hs=>y=.tup [.agg (evS ev0 ec0),.c (.int .i64 4)]∧hs.drop 1=[]) (fun x hs hr=>?_)⟩) (fun x hs hr=>by rw [hr.2]; exact NoP.nil) ?_
   ·(repeat first|exact trivial|refine ent1 ?_)
   ·exact ⟨(hrow9.later hL9).frz2 (F:=fun j=>memB j [12,13]) (fun j hj=>(congrArg (fun y=>(SC.rz (fun j=>memB j [12,13]) α y).raw) ((appJ_cs (cs:=flat (jvS (tNum f.t) ua)++(flat (jvS (tText (evNm f.k)) ub)++flat (jvS (dataJ f) uc))) (new:=flat (jvS (JT.mk 0#8 0#64 [] [] []) jc0)) (n:=3) (m:=1) (sz:=4) rfl (newJ_cs (m:=3) (sz:=4) rfl (fun _ _=>rfl)) rfl (fun j hj=>updJ_new hj)) j hj)).trans (rzJ_raw (hrow9.raw _ (nthJ_mem hj)))) (fun hf=>⟨(hI 13 rfl hf).1,fun hm=>(hI 13 rfl hf).2 hm rfl⟩) marks_off (n:=4) rfl hcap (by decide),strs_frz (l:=[timeB,nameB,dataB,moreB].map U8) (F:=fun j=>memB j [12,13]) (fun j hj=>appJ_cs (cs:=nmJ [timeB,nameB,dataB]) (new:=nmJ [moreB]) (n:=3) (m:=1) (sz:=0) rfl (newJ_cs (m:=3) (sz:=0) rfl (fun _ _=>rfl)) rfl (fun _ _=>rfl) j hj) (fun hf=>(hI 12 rfl hf).1) (n:=4) rfl hncap (by decide)⟩
   ·rw [hev9] at hr
    obtain ⟨_,W',ms',_,rfl,rfl⟩:=hr
    exact ⟨rfl,rfl⟩
   rintro y hs ⟨rfl,hdrop⟩
   rw [hdrop]
   (repeat show _∧_;first|refine yr ?_|refine yt ?_|refine yf ?_|refine yo ?_)
   refine call_past (fn_qevent (d:=0) (v:=.mk 5#8 0#64 [] (evJ f).l (evJ f).ns) (x:=⟨some A,3,xmc,some B,3,xpc⟩) (show TAt W5 ms5 2 (.mk 5#8 0#64 [] (evJ f).l (evJ f).ns) _ from hv5) ⟨Nat.zero_le _,(shrt_ev hck).2⟩) 0 [] rfl rfl (by (repeat first|exact trivial|refine ent1 ?_)) (by (repeat first|exact trivial|refine ent1 ?_)) (fun _ _=>trivial) (fun x hs hr=>?_) ?_
   ·rw [hevl] at hr
    obtain ⟨_,W',ms',h1,_,rfl⟩:=hr
    exact ⟨W',ms',rfl,h1⟩
   rintro y hs hr
   rw [hevl] at hr
   obtain ⟨_,W6,ms6,_,rfl,rfl⟩:=hr
   (repeat show _∧_;first|refine yr ?_|refine yt ?_|refine yf ?_|refine yo ?_)
   exact ⟨.a (.c (.bool true)),[[.past W6 ms6]],⟨[0],⟨rfl,rfl,rfl⟩,by (repeat first|exact trivial|refine ent1 ?_)⟩,rfl⟩
  ·(repeat show _∧_;first|refine yr ?_|refine yt ?_|refine yf ?_|refine yo ?_)
   refine And.intro ⟨hc6,Nat.le_of_eq (Nat.zero_add _),(show (3+1)*16≤140737488355328 by decide)⟩ ?_
   intro e2 he2
   (repeat show _∧_;first|refine yr ?_|refine yt ?_|refine yf ?_|refine yo ?_)
   refine And.intro ⟨hc7,Nat.le_of_eq (Nat.zero_add _),(show (3+1)*80≤140737488355328 by decide)⟩ ?_
   intro c2 hc2
   (repeat show _∧_;first|refine yr ?_|refine yt ?_|refine yf ?_|refine yo ?_)
   have hsh9:Shrt 4194304 2 (.mk 6#8 0#64 [] [tNum f.t,tText (evNm f.k),dataJ f,JT.mk 0#8 0#64 [] [] []] [timeB,nameB,dataB,moreB]):=shrt_mem hck (fun x hx=>by
    simp only [List.mem_cons,List.not_mem_nil,or_false] at hx
    rcases hx with rfl|rfl|rfl|rfl
    ·exact .inl (List.mem_cons_self ..)
    ·exact .inl (List.mem_cons_of_mem _ (List.mem_cons_self ..))
    ·exact .inl (List.mem_cons_of_mem _ (List.mem_cons_of_mem _ (List.mem_cons_self ..)))
    ·exact .inr ⟨Nat.zero_le _,fun y hy=>by cases hy⟩)
   have hcap:4≤c2:=hc2
   have hncap:4≤e2:=he2
   have hev9:evOf (.mk 6#8 0#64 [] [tNum f.t,tText (evNm f.k),dataJ f,JT.mk 0#8 0#64 [] [] []] [timeB,nameB,dataB,moreB])=.inr 4:=evOf_no (.inl rfl)
   have hrow9:=hR5.snoc (v:=JT.mk 0#8 0#64 [] [] []) (TAt.leaf rfl rfl 1)
   refine call_lendU [12,13] 0 [] rfl rfl (by (repeat first|exact trivial|refine ent1 ?_)) NoP.nil (fun _ _=>trivial) (fun W9 ms9 α hL9 hI=>⟨[.agg (jvS (.mk 6#8 0#64 [] [tNum f.t,tText (evNm f.k),dataJ f,JT.mk 0#8 0#64 [] [] []] [timeB,nameB,dataB,moreB]) ⟨some ((α 13).add (0+0)),4,c2,some ((α 12).add (0+0)),4,e2⟩)],?_,(fn_qevent (d:=0) (v:=(.mk 6#8 0#64 [] [tNum f.t,tText (evNm f.k),dataJ f,JT.mk 0#8 0#64 [] [] []] [timeB,nameB,dataB,moreB])) (x:=⟨some ((α 13).add (0+0)),4,c2,some ((α 12).add (0+0)),4,e2⟩) ?_ hsh9).mono (Res':=fun y hs=>y=.tup [.agg (evS ev0 ec0),.c (.int .i64 4)]∧hs.drop 1=[]) (fun x hs hr=>?_)⟩) (fun x hs hr=>by rw [hr.2]; exact NoP.nil) ?_
   ·(repeat first|exact trivial|refine ent1 ?_)
   ·exact ⟨(hrow9.later hL9).frz2 (F:=fun j=>memB j [12,13]) (fun j hj=>(congrArg (fun y=>(SC.rz (fun j=>memB j [12,13]) α y).raw) ((appJ_cs (cs:=flat (jvS (tNum f.t) ua)++(flat (jvS (tText (evNm f.k)) ub)++flat (jvS (dataJ f) uc))) (new:=flat (jvS (JT.mk 0#8 0#64 [] [] []) jc0)) (n:=3) (m:=1) (sz:=4) rfl (newJ_cs (m:=3) (sz:=4) rfl (fun _ _=>rfl)) rfl (fun j hj=>updJ_new hj)) j hj)).trans (rzJ_raw (hrow9.raw _ (nthJ_mem hj)))) (fun hf=>⟨(hI 13 rfl hf).1,fun hm=>(hI 13 rfl hf).2 hm rfl⟩) marks_off (n:=4) rfl hcap (by decide),strs_frz (l:=[timeB,nameB,dataB,moreB].map U8) (F:=fun j=>memB j [12,13]) (fun j hj=>appJ_cs (cs:=nmJ [timeB,nameB,dataB]) (new:=nmJ [moreB]) (n:=3) (m:=1) (sz:=0) rfl (newJ_cs (m:=3) (sz:=0) rfl (fun _ _=>rfl)) rfl (fun _ _=>rfl) j hj) (fun hf=>(hI 12 rfl hf).1) (n:=4) rfl hncap (by decide)⟩
   ·rw [hev9] at hr
    obtain ⟨_,W',ms',_,rfl,rfl⟩:=hr
    exact ⟨rfl,rfl⟩
   rintro y hs ⟨rfl,hdrop⟩
   rw [hdrop]
   (repeat show _∧_;first|refine yr ?_|refine yt ?_|refine yf ?_|refine yo ?_)
   refine call_past (fn_qevent (d:=0) (v:=.mk 5#8 0#64 [] (evJ f).l (evJ f).ns) (x:=⟨some A,3,xmc,some B,3,xpc⟩) (show TAt W5 ms5 2 (.mk 5#8 0#64 [] (evJ f).l (evJ f).ns) _ from hv5) ⟨Nat.zero_le _,(shrt_ev hck).2⟩) 0 [] rfl rfl (by (repeat first|exact trivial|refine ent1 ?_)) (by (repeat first|exact trivial|refine ent1 ?_)) (fun _ _=>trivial) (fun x hs hr=>?_) ?_
   ·rw [hevl] at hr
    obtain ⟨_,W',ms',h1,_,rfl⟩:=hr
    exact ⟨W',ms',rfl,h1⟩
   rintro y hs hr
   rw [hevl] at hr
   obtain ⟨_,W6,ms6,_,rfl,rfl⟩:=hr
   (repeat show _∧_;first|refine yr ?_|refine yt ?_|refine yf ?_|refine yo ?_)
   exact ⟨.a (.c (.bool true)),[[.past W6 ms6]],⟨[0],⟨rfl,rfl,rfl⟩,by (repeat first|exact trivial|refine ent1 ?_)⟩,rfl⟩
 clear e0
 (repeat show _∧_;first|refine yr ?_|refine yt ?_|refine yf ?_|refine yo ?_)
 refine And.intro (fun e0=>?_) (fun e0=>?_)
 ·clear e0
  (repeat show _∧_;first|refine yr ?_|refine yt ?_|refine yf ?_|refine yo ?_)
  refine ⟨some [9],[],[(0,true),(1,true),(2,true),(3,true),(4,true),(5,true),(6,true)],[7,8,9],by (show planAny tds _ _ _ _=true; decide +kernel),?_⟩
  (repeat show _∧_;first|refine yr ?_|refine yt ?_|refine yf ?_|refine yo ?_)
  (repeat show _∧_;first|refine yr ?_|refine yt ?_|refine yf ?_|refine yo ?_)
  have hsh9:Shrt 4194304 2 (.mk 6#8 0#64 [] [tNum f.t,tText (evNm f.k)] [timeB,nameB]):=shrt_mem hck (fun x hx=>by
   simp only [List.mem_cons,List.not_mem_nil,or_false] at hx
   rcases hx with rfl|rfl
   ·exact .inl (List.mem_cons_self ..)
   ·exact .inl (List.mem_cons_of_mem _ (List.mem_cons_self ..)))
  have hcap:2≤c7:=Nat.le_trans (show 2≤3 by decide) hc7
  have hncap:2≤c6:=Nat.le_trans (show 2≤3 by decide) hc6
  have hev9:evOf (.mk 6#8 0#64 [] [tNum f.t,tText (evNm f.k)] [timeB,nameB])=.inr 4:=evOf_no (.inl rfl)
  have hrow9:=(show RowJ W5 ms5 1 (flat (jvS (tNum f.t) ua)++flat (jvS (tText (evNm f.k)) ub)) [tNum f.t,tText (evNm f.k)] from ((RowJ.nil.snoc (v:=tNum f.t) (x:=ua) wa).snoc (v:=tText (evNm f.k)) (x:=ub) wb))
  refine call_lendU [6,8] 0 [] rfl rfl (by (repeat first|exact trivial|refine ent1 ?_)) NoP.nil (fun _ _=>trivial) (fun W9 ms9 α hL9 hI=>⟨[.agg (jvS (.mk 6#8 0#64 [] [tNum f.t,tText (evNm f.k)] [timeB,nameB]) ⟨some ((α 8).add (0+0)),2,c7,some ((α 6).add (0+0)),2,c6⟩)],?_,(fn_qevent (d:=0) (v:=(.mk 6#8 0#64 [] [tNum f.t,tText (evNm f.k)] [timeB,nameB])) (x:=⟨some ((α 8).add (0+0)),2,c7,some ((α 6).add (0+0)),2,c6⟩) ?_ hsh9).mono (Res':=fun y hs=>y=.tup [.agg (evS ev0 ec0),.c (.int .i64 4)]∧hs.drop 1=[]) (fun x hs hr=>?_)⟩) (fun x hs hr=>by rw [hr.2]; exact NoP.nil) ?_
  ·rw [if_neg (show ¬ c7=0 by omega),if_neg (show ¬ c6=0 by omega)]
   (repeat first|exact trivial|refine ent1 ?_)
  ·exact ⟨(hrow9.later hL9).frz2 (F:=fun j=>memB j [6,8]) (fun j hj=>(congrArg (fun y=>(SC.rz (fun j=>memB j [6,8]) α y).raw) ((by have hj:j<10:=hj; rcases (show j=0∨j=1∨j=2∨j=3∨j=4∨j=5∨j=6∨j=7∨j=8∨j=9 by omega) with rfl|rfl|rfl|rfl|rfl|rfl|rfl|rfl|rfl|rfl <;> rfl))).trans (rzJ_raw (hrow9.raw _ (nthJ_mem hj)))) (fun hf=>⟨(hI 8 rfl hf).1,fun hm=>(hI 8 rfl hf).2 hm rfl⟩) marks_off (n:=2) rfl hcap (by decide),strs_frz (l:=[timeB,nameB].map U8) (F:=fun j=>memB j [6,8]) (fun j hj=>(by have hj:j<2:=hj; rcases (show j=0∨j=1 by omega) with rfl|rfl <;> rfl)) (fun hf=>(hI 6 rfl hf).1) (n:=2) rfl hncap (by decide)⟩
  ·rw [hev9] at hr
   obtain ⟨_,W',ms',_,rfl,rfl⟩:=hr
   exact ⟨rfl,rfl⟩
  rintro y hs ⟨rfl,hdrop⟩
  rw [hdrop]
  (repeat show _∧_;first|refine yr ?_|refine yt ?_|refine yf ?_|refine yo ?_)
  refine call_past (fn_qevent (d:=0) (v:=.mk 5#8 0#64 [] (evJ f).l (evJ f).ns) (x:=⟨some A,3,xmc,some B,3,xpc⟩) (show TAt W5 ms5 2 (.mk 5#8 0#64 [] (evJ f).l (evJ f).ns) _ from hv5) ⟨Nat.zero_le _,(shrt_ev hck).2⟩) 0 [] rfl rfl (by (repeat first|exact trivial|refine ent1 ?_)) (by (repeat first|exact trivial|refine ent1 ?_)) (fun _ _=>trivial) (fun x hs hr=>?_) ?_
  ·rw [hevl] at hr
   obtain ⟨_,W',ms',h1,_,rfl⟩:=hr
   exact ⟨W',ms',rfl,h1⟩
  rintro y hs hr
  rw [hevl] at hr
  obtain ⟨_,W6,ms6,_,rfl,rfl⟩:=hr
  (repeat show _∧_;first|refine yr ?_|refine yt ?_|refine yf ?_|refine yo ?_)
  exact ⟨.a (.c (.bool true)),[[.past W6 ms6]],⟨[0],⟨rfl,rfl,rfl⟩,by (repeat first|exact trivial|refine ent1 ?_)⟩,rfl⟩
 clear e0
 (repeat show _∧_;first|refine yr ?_|refine yt ?_|refine yf ?_|refine yo ?_)
 refine And.intro (fun e0=>?_) (fun e0=>?_)
 ·clear e0
  (repeat show _∧_;first|refine yr ?_|refine yt ?_|refine yf ?_|refine yo ?_)
  refine And.intro (show (0:Int)≤0∧(0:Int)<((0+3:Nat):Int) by decide) ?_
  (repeat show _∧_;first|refine yr ?_|refine yt ?_|refine yf ?_|refine yo ?_)
  refine And.intro (show 0+5≤scale c7 (4+1) by rw [sc5]; omega) ?_
  (repeat show _∧_;first|refine yr ?_|refine yt ?_|refine yf ?_|refine yo ?_)
  (repeat show _∧_;first|refine yr ?_|refine yt ?_|refine yf ?_|refine yo ?_)
  have hsh9:Shrt 4194304 2 (.mk 6#8 0#64 [] [tText [49#8],tText (evNm f.k),dataJ f] [timeB,nameB,dataB]):=shrt_mem hck (fun x hx=>by
   simp only [List.mem_cons,List.not_mem_nil,or_false] at hx
   rcases hx with rfl|rfl|rfl
   ·exact .inr ⟨by decide,fun y hy=>by cases hy⟩
   ·exact .inl (List.mem_cons_of_mem _ (List.mem_cons_self ..))
   ·exact .inl (List.mem_cons_of_mem _ (List.mem_cons_of_mem _ (List.mem_cons_self ..))))
  have hcap:3≤c7:=Nat.le_trans (show 3≤3 by decide) hc7
  have hncap:3≤c6:=Nat.le_trans (show 3≤3 by decide) hc6
  have hev9:evOf (.mk 6#8 0#64 [] [tText [49#8],tText (evNm f.k),dataJ f] [timeB,nameB,dataB])=.inr 4:=evOf_no (.inr (.inl rfl))
  have hrow9:=(show RowJ W5 ms5 1 (flat (jvS (tText [49#8]) jc0)++(flat (jvS (tText (evNm f.k)) ub)++flat (jvS (dataJ f) uc))) [tText [49#8],tText (evNm f.k),dataJ f] from (((RowJ.nil.snoc (v:=tText [49#8]) (x:=jc0) (TAt.leaf rfl rfl 1)).snoc (v:=tText (evNm f.k)) (x:=ub) wb).snoc (v:=dataJ f) (x:=uc) wc))
  refine call_lendU [6,8] 0 [] rfl rfl (by (repeat first|exact trivial|refine ent1 ?_)) NoP.nil (fun _ _=>trivial) (fun W9 ms9 α hL9 hI=>⟨[.agg (jvS (.mk 6#8 0#64 [] [tText [49#8],tText (evNm f.k),dataJ f] [timeB,nameB,dataB]) ⟨some ((α 8).add (0+0)),3,c7,some ((α 6).add (0+0)),3,c6⟩)],?_,(fn_qevent (d:=0) (v:=(.mk 6#8 0#64 [] [tText [49#8],tText (evNm f.k),dataJ f] [timeB,nameB,dataB])) (x:=⟨some ((α 8).add (0+0)),3,c7,some ((α 6).add (0+0)),3,c6⟩) ?_ hsh9).mono (Res':=fun y hs=>y=.tup [.agg (evS ev0 ec0),.c (.int .i64 4)]∧hs.drop 1=[]) (fun x hs hr=>?_)⟩) (fun x hs hr=>by rw [hr.2]; exact NoP.nil) ?_
  ·(repeat first|exact trivial|refine ent1 ?_)
  ·exact ⟨(hrow9.later hL9).frz2 (F:=fun j=>memB j [6,8]) (fun j hj=>(congrArg (fun y=>(SC.rz (fun j=>memB j [6,8]) α y).raw) ((by have hj:j<15:=hj; rcases (show j=0∨j=1∨j=2∨j=3∨j=4∨j=5∨j=6∨j=7∨j=8∨j=9∨j=10∨j=11∨j=12∨j=13∨j=14 by omega) with rfl|rfl|rfl|rfl|rfl|rfl|rfl|rfl|rfl|rfl|rfl|rfl|rfl|rfl|rfl <;> rfl))).trans (rzJ_raw (hrow9.raw _ (nthJ_mem hj)))) (fun hf=>⟨(hI 8 rfl hf).1,fun hm=>(hI 8 rfl hf).2 hm rfl⟩) marks_off (n:=3) rfl hcap (by decide),strs_frz (l:=[timeB,nameB,dataB].map U8) (F:=fun j=>memB j [6,8]) (fun j hj=>(by have hj:j<3:=hj; rcases (show j=0∨j=1∨j=2 by omega) with rfl|rfl|rfl <;> rfl)) (fun hf=>(hI 6 rfl hf).1) (n:=3) rfl hncap (by decide)⟩
  ·rw [hev9] at hr
   obtain ⟨_,W',ms',_,rfl,rfl⟩:=hr
   exact ⟨rfl,rfl⟩
  rintro y hs ⟨rfl,hdrop⟩
  rw [hdrop]
  (repeat show _∧_;first|refine yr ?_|refine yt ?_|refine yf ?_|refine yo ?_)
  refine call_past (fn_qevent (d:=0) (v:=.mk 5#8 0#64 [] (evJ f).l (evJ f).ns) (x:=⟨some A,3,xmc,some B,3,xpc⟩) (show TAt W5 ms5 2 (.mk 5#8 0#64 [] (evJ f).l (evJ f).ns) _ from hv5) ⟨Nat.zero_le _,(shrt_ev hck).2⟩) 0 [] rfl rfl (by (repeat first|exact trivial|refine ent1 ?_)) (by (repeat first|exact trivial|refine ent1 ?_)) (fun _ _=>trivial) (fun x hs hr=>?_) ?_
  ·rw [hevl] at hr
   obtain ⟨_,W',ms',h1,_,rfl⟩:=hr
   exact ⟨W',ms',rfl,h1⟩
  rintro y hs hr
  rw [hevl] at hr
  obtain ⟨_,W6,ms6,_,rfl,rfl⟩:=hr
  (repeat show _∧_;first|refine yr ?_|refine yt ?_|refine yf ?_|refine yo ?_)
  exact ⟨.a (.c (.bool true)),[[.past W6 ms6]],⟨[0],⟨rfl,rfl,rfl⟩,by (repeat first|exact trivial|refine ent1 ?_)⟩,rfl⟩
 clear e0
 (repeat show _∧_;first|refine yr ?_|refine yt ?_|refine yf ?_|refine yo ?_)
 refine And.intro (fun e0=>?_) (fun e0=>?_)
 ·clear e0
  (repeat show _∧_;first|refine yr ?_|refine yt ?_|refine yf ?_|refine yo ?_)
  refine And.intro (show (0:Int)≤1∧(1:Int)<((0+3:Nat):Int) by decide) ?_
  (repeat show _∧_;first|refine yr ?_|refine yt ?_|refine yf ?_|refine yo ?_)
  refine And.intro (show 5+5≤scale c7 (4+1) by rw [sc5]; omega) ?_
  (repeat show _∧_;first|refine yr ?_|refine yt ?_|refine yf ?_|refine yo ?_)
  (repeat show _∧_;first|refine yr ?_|refine yt ?_|refine yf ?_|refine yo ?_)
  have hsh9:Shrt 4194304 2 (.mk 6#8 0#64 [] [tNum f.t,tText noB,dataJ f] [timeB,nameB,dataB]):=shrt_mem hck (fun x hx=>by
   simp only [List.mem_cons,List.not_mem_nil,or_false] at hx
   rcases hx with rfl|rfl|rfl
   ·exact .inl (List.mem_cons_self ..)
   ·exact .inr ⟨by decide,fun y hy=>by cases hy⟩
   ·exact .inl (List.mem_cons_of_mem _ (List.mem_cons_of_mem _ (List.mem_cons_self ..))))
  have hcap:3≤c7:=Nat.le_trans (show 3≤3 by decide) hc7
  have hncap:3≤c6:=Nat.le_trans (show 3≤3 by decide) hc6
  have hev9:evOf (.mk 6#8 0#64 [] [tNum f.t,tText noB,dataJ f] [timeB,nameB,dataB])=.inr 5:=evOf_kind (t:=f.t) (d:=dataJ f) rfl rfl rfl rfl
  have hrow9:=(show RowJ W5 ms5 1 (flat (jvS (tNum f.t) ua)++(flat (jvS (tText noB) jc0)++flat (jvS (dataJ f) uc))) [tNum f.t,tText noB,dataJ f] from (((RowJ.nil.snoc (v:=tNum f.t) (x:=ua) wa).snoc (v:=tText noB) (x:=jc0) (TAt.leaf rfl rfl 1)).snoc (v:=dataJ f) (x:=uc) wc))
  refine call_lendU [6,8] 0 [] rfl rfl (by (repeat first|exact trivial|refine ent1 ?_)) NoP.nil (fun _ _=>trivial) (fun W9 ms9 α hL9 hI=>⟨[.agg (jvS (.mk 6#8 0#64 [] [tNum f.t,tText noB,dataJ f] [timeB,nameB,dataB]) ⟨some ((α 8).add (0+0)),3,c7,some ((α 6).add (0+0)),3,c6⟩)],?_,(fn_qevent (d:=0) (v:=(.mk 6#8 0#64 [] [tNum f.t,tText noB,dataJ f] [timeB,nameB,dataB])) (x:=⟨some ((α 8).add (0+0)),3,c7,some ((α 6).add (0+0)),3,c6⟩) ?_ hsh9).mono (Res':=fun y hs=>y=.tup [.agg (evS ev0 ec0),.c (.int .i64 5)]∧hs.drop 1=[]) (fun x hs hr=>?_)⟩) (fun x hs hr=>by rw [hr.2]; exact NoP.nil) ?_
  ·(repeat first|exact trivial|refine ent1 ?_)
  ·exact ⟨(hrow9.later hL9).frz2 (F:=fun j=>memB j [6,8]) (fun j hj=>(congrArg (fun y=>(SC.rz (fun j=>memB j [6,8]) α y).raw) ((by have hj:j<15:=hj; rcases (show j=0∨j=1∨j=2∨j=3∨j=4∨j=5∨j=6∨j=7∨j=8∨j=9∨j=10∨j=11∨j=12∨j=13∨j=14 by omega) with rfl|rfl|rfl|rfl|rfl|rfl|rfl|rfl|rfl|rfl|rfl|rfl|rfl|rfl|rfl <;> rfl))).trans (rzJ_raw (hrow9.raw _ (nthJ_mem hj)))) (fun hf=>⟨(hI 8 rfl hf).1,fun hm=>(hI 8 rfl hf).2 hm rfl⟩) marks_off (n:=3) rfl hcap (by decide),strs_frz (l:=[timeB,nameB,dataB].map U8) (F:=fun j=>memB j [6,8]) (fun j hj=>(by have hj:j<3:=hj; rcases (show j=0∨j=1∨j=2 by omega) with rfl|rfl|rfl <;> rfl)) (fun hf=>(hI 6 rfl hf).1) (n:=3) rfl hncap (by decide)⟩
  ·rw [hev9] at hr
   obtain ⟨_,W',ms',_,rfl,rfl⟩:=hr
   exact ⟨rfl,rfl⟩
  rintro y hs ⟨rfl,hdrop⟩
  rw [hdrop]
  (repeat show _∧_;first|refine yr ?_|refine yt ?_|refine yf ?_|refine yo ?_)
  refine call_past (fn_qevent (d:=0) (v:=.mk 5#8 0#64 [] (evJ f).l (evJ f).ns) (x:=⟨some A,3,xmc,some B,3,xpc⟩) (show TAt W5 ms5 2 (.mk 5#8 0#64 [] (evJ f).l (evJ f).ns) _ from hv5) ⟨Nat.zero_le _,(shrt_ev hck).2⟩) 0 [] rfl rfl (by (repeat first|exact trivial|refine ent1 ?_)) (by (repeat first|exact trivial|refine ent1 ?_)) (fun _ _=>trivial) (fun x hs hr=>?_) ?_
  ·rw [hevl] at hr
   obtain ⟨_,W',ms',h1,_,rfl⟩:=hr
   exact ⟨W',ms',rfl,h1⟩
  rintro y hs hr
  rw [hevl] at hr
  obtain ⟨_,W6,ms6,_,rfl,rfl⟩:=hr
  (repeat show _∧_;first|refine yr ?_|refine yt ?_|refine yf ?_|refine yo ?_)
  exact ⟨.a (.c (.bool true)),[[.past W6 ms6]],⟨[0],⟨rfl,rfl,rfl⟩,by (repeat first|exact trivial|refine ent1 ?_)⟩,rfl⟩
 clear e0
 obtain ⟨dcs,hdr,hda,hdi⟩:=wc.rowQ
 have hdn:StAt W5 ms5 uc.b uc.p uc.q ((dataJ f).ns.map U8):=wc.ns
 have hdm:=wc.len
 have hdp:=hdn.n1
 obtain ⟨da,dm,dc,db,dp,dq⟩:=uc
 dsimp only at hda hdi hdn hdm hdp
 rw [List.length_map] at hdp
 obtain ⟨hd1,hd2,hd3⟩:=hdl
 obtain rfl:dp=dm:=by omega
 have hdk:dp≤10:=by omega
 have hdr9:RowJ W5 ms5 0 (dcs++flat (jvS (JT.mk 3#8 0#64 [] [] []) jc0)) ((dataJ f).l++[(JT.mk 3#8 0#64 [] [] [])]):=hdr.snoc (TAt.leaf rfl rfl 0)
 have hdcl:dcs.length=dp*5:=by rw [hdr.len,hdm]
 have hdnl:(nmJ (dataJ f).ns).length=dp*1:=by rw [nmL_len,hdp,Nat.mul_one]
 have hnn:db=none→dp=0:=fun e=>by have:=hdn.nil e; have:=hdn.le; omega
 have hsh9:Shrt 4194304 2 (JT.mk 6#8 0#64 [] [tNum f.t,tText (evNm f.k),(JT.mk 6#8 0#64 [] ((dataJ f).l++[(JT.mk 3#8 0#64 [] [] [])]) ((dataJ f).ns++[moreB]))] [timeB,nameB,dataB]):=shrt_mem hck (fun x hx=>by
  simp only [List.mem_cons,List.not_mem_nil,or_false] at hx
  rcases hx with rfl|rfl|rfl
  ·exact .inl (List.mem_cons_self ..)
  ·exact .inl (List.mem_cons_of_mem _ (List.mem_cons_self ..))
  ·refine .inr ⟨Nat.zero_le _,fun y hy=>?_⟩
   have hy:y∈(dataJ f).l++[(JT.mk 3#8 0#64 [] [] [])]:=hy
   rcases List.mem_append.1 hy with hy|hy
   ·exact ((shrt_ev hck).2 (dataJ f) (List.mem_cons_of_mem _ (List.mem_cons_of_mem _ (List.mem_cons_self ..)))).2 y hy
   ·obtain rfl:=List.mem_singleton.1 hy
    exact Nat.zero_le _)
 have hev9:evOf (JT.mk 6#8 0#64 [] [tNum f.t,tText (evNm f.k),(JT.mk 6#8 0#64 [] ((dataJ f).l++[(JT.mk 3#8 0#64 [] [] [])]) ((dataJ f).ns++[moreB]))] [timeB,nameB,dataB])=.inr 4:=evOf_data hck rfl rfl rfl rfl (by show ((dataJ f).ns++[moreB]).length≠_; rw [List.length_append,hd2]; simp)
 (repeat show _∧_;first|refine yr ?_|refine yt ?_|refine yf ?_|refine yo ?_)
 refine And.intro (show (0:Int)≤2∧(2:Int)<((0+3:Nat):Int) by decide) ?_
 (repeat show _∧_;first|refine yr ?_|refine yt ?_|refine yf ?_|refine yo ?_)
 refine And.intro (show 2*5+0<scale c7 (4+1) by rw [sc5]; omega) ?_
 refine And.intro (show 2*5+1<scale c7 (4+1) by rw [sc5]; omega) ?_
 refine And.intro (show 2*5+2<scale c7 (4+1) by rw [sc5]; omega) ?_
 refine And.intro (show 2*5+3<scale c7 (4+1) by rw [sc5]; omega) ?_
 refine And.intro (show 2*5+4<scale c7 (4+1) by rw [sc5]; omega) ?_
 refine takeB_nilQ ?_
 refine frc_atQ (y:=.slc db dp dq) rfl ?_
 refine frc_atQ (y:=.slc da dp dc) rfl ?_
 refine frc_atQ (y:=.str []) rfl ?_
 refine frc_atQ (y:=.w64 0#64) rfl ?_
 refine frc_atQ (y:=.w8 6#8) rfl ?_
 (repeat show _∧_;first|refine yr ?_|refine yt ?_|refine yf ?_|refine yo ?_)
 refine ⟨some [9,10],[1002,3,2,6,8,1000,1001,1003,1004,1009,1010,1012,3,2,13,3,5,13,3,6,13,3,7,13,3,8,13,3,11,13,2013,2014,1015,0,2011,2014,1015,0,2008,2011,2014,1015,0,2007,2008,2011,2014,1015,0,2006,2007,2008,2011,2014,1015,0,2005,2006,2007,2008,2011,2014,1015,0,2002,2005,2006,2007,2008,2011,2014,1015,0],[(0,true),(1,true),(2,false),(3,true),(4,true),(5,false),(6,false),(7,false),(8,false),(9,true),(10,true),(11,false),(12,true),(13,false),(14,false),(15,true)],[16,17],by (show planAny tds _ _ _ _=true; decide +kernel),?_⟩
 (repeat show _∧_;first|refine yr ?_|refine yt ?_|refine yf ?_|refine yo ?_)
 rcases db with _|db
 ·obtain rfl:dp=0:=hnn rfl
  rcases da with _|da
  ·refine And.intro ?_ ?_
   ·(repeat show _∧_;first|refine yr ?_|refine yt ?_|refine yf ?_|refine yo ?_)
    refine And.intro ?_ ?_
    ·(repeat show _∧_;first|refine yr ?_|refine yt ?_|refine yf ?_|refine yo ?_)
     have hf5:∀ j,j<(nmJ (dataJ f).ns).length→(fun _:Nat=>SC.any) j=nthC (nmJ (dataJ f).ns) j:=fun j hj=>absurd hj (by omega)
     intro e5 he5
     (repeat show _∧_;first|refine yr ?_|refine yt ?_|refine yf ?_|refine yo ?_)
     refine And.intro ?_ ?_
     ·(repeat show _∧_;first|refine yr ?_|refine yt ?_|refine yf ?_|refine yo ?_)
      refine And.intro ?_ ?_
      ·(repeat show _∧_;first|refine yr ?_|refine yt ?_|refine yf ?_|refine yo ?_)
       refine And.intro ⟨he5,Nat.le_of_eq (Nat.zero_add _),(show (0+0+1)*16≤140737488355328 by omega)⟩ ?_
       intro e7 he7
       (repeat show _∧_;first|refine yr ?_|refine yt ?_|refine yf ?_|refine yo ?_)
       refine And.intro ?_ ?_
       ·(repeat show _∧_;first|refine yr ?_|refine yt ?_|refine yf ?_|refine yo ?_)
        refine And.intro ?_ ?_
        ·(repeat show _∧_;first|refine yr ?_|refine yt ?_|refine yf ?_|refine yo ?_)
         have hf11:∀ j,j<dcs.length→(fun _:Nat=>SC.any) j=nthC dcs j:=fun j hj=>absurd hj (by omega)
         intro c11 hc11
         (repeat show _∧_;first|refine yr ?_|refine yt ?_|refine yf ?_|refine yo ?_)
         refine And.intro ⟨hc11,Nat.le_of_eq (Nat.zero_add _),(show (0+0+1)*80≤140737488355328 by omega)⟩ ?_
         intro c14 hc14
         (repeat show _∧_;first|refine yr ?_|refine yt ?_|refine yf ?_|refine yo ?_)
         refine And.intro (show (0:Int)≤2∧(2:Int)<((0+3:Nat):Int) by decide) ?_
         (repeat show _∧_;first|refine yr ?_|refine yt ?_|refine yf ?_|refine yo ?_)
         refine And.intro (show 2*5+5≤scale c7 (4+1) by rw [sc5]; omega) ?_
         (repeat show _∧_;first|refine yr ?_|refine yt ?_|refine yf ?_|refine yo ?_)
         refine call_lendU [6,8,14,18] 0 [] rfl rfl (by (repeat first|exact trivial|refine ent1 ?_)) NoP.nil (fun _ _=>trivial) (fun W9 ms9 α hL9 hI=>⟨[.agg (jvS (JT.mk 6#8 0#64 [] [tNum f.t,tText (evNm f.k),(JT.mk 6#8 0#64 [] ((dataJ f).l++[(JT.mk 3#8 0#64 [] [] [])]) ((dataJ f).ns++[moreB]))] [timeB,nameB,dataB]) ⟨some ((α 8).add (0+0)),3,c7,some ((α 6).add (0+0)),3,c6⟩)],?_,(fn_qevent (d:=0) (v:=(JT.mk 6#8 0#64 [] [tNum f.t,tText (evNm f.k),(JT.mk 6#8 0#64 [] ((dataJ f).l++[(JT.mk 3#8 0#64 [] [] [])]) ((dataJ f).ns++[moreB]))] [timeB,nameB,dataB])) (x:=⟨some ((α 8).add (0+0)),3,c7,some ((α 6).add (0+0)),3,c6⟩) ?_ hsh9).mono (Res':=fun y hs=>y=.tup [.agg (evS ev0 ec0),.c (.int .i64 4)]∧hs.drop 1=[]) (fun x hs hr=>?_)⟩) (fun x hs hr=>by rw [hr.2]; exact NoP.nil) ?_
         ·(repeat first|exact trivial|refine ent1 ?_)
         ·have hD:TAt W9 ms9 1 (JT.mk 6#8 0#64 [] ((dataJ f).l++[(JT.mk 3#8 0#64 [] [] [])]) ((dataJ f).ns++[moreB])) ⟨some ((α 18).add (0+0)),0+0+1,c14,some ((α 14).add (0+0)),0+0+1,e7⟩:=by
           refine ⟨(hdr9.later hL9).frz2 (F:=fun j=>memB j [6,8,14,18]) (fun j hj=>by exact (congrArg (fun y=>(SC.rz (fun j=>memB j [6,8,14,18]) α y).raw) (appJ_cs (cs:=dcs) (new:=flat (jvS (JT.mk 3#8 0#64 [] [] []) jc0)) (n:=0+0) (m:=1) (sz:=4) (by omega) (appJ_cs (cs:=[]) (new:=dcs) (n:=0) (m:=0) (sz:=4) rfl (fun _ h=>absurd h (Nat.not_lt_zero _)) hdcl hf11) rfl (fun j hj=>updJ_new hj) j hj)).trans (rzJ_raw (hdr9.raw _ (nthJ_mem hj)))) (fun hf=>⟨(hI 18 rfl hf).1,fun hm=>(hI 18 rfl hf).2 hm rfl⟩) marks_off (n:=0+0+1) (by rw [List.length_append,hdm]; show 0+1=_; omega) hc14 (by omega),?_⟩
           refine strs_frz (l:=((dataJ f).ns++[moreB]).map U8) (F:=fun j=>memB j [6,8,14,18]) (fun j hj=>?_) (fun hf=>(hI 14 rfl hf).1) (n:=0+0+1) (by rw [List.length_map,List.length_append,hdp]; show 0+1=_; omega) he7 (by omega)
           rw [nmJ_map,nmL_app] at hj ⊢
           exact appJ_cs (cs:=nmJ (dataJ f).ns) (new:=nmJ [moreB]) (n:=0+0) (m:=1) (sz:=0) (by omega) (appJ_cs (cs:=[]) (new:=nmJ (dataJ f).ns) (n:=0) (m:=0) (sz:=0) rfl (fun _ h=>absurd h (Nat.not_lt_zero _)) hdnl hf5) rfl (fun _ _=>rfl) j hj
          have hrow9:RowJ W9 ms9 1 (flat (jvS (tNum f.t) ua)++(flat (jvS (tText (evNm f.k)) ub)++flat (jvS (JT.mk 6#8 0#64 [] ((dataJ f).l++[(JT.mk 3#8 0#64 [] [] [])]) ((dataJ f).ns++[moreB])) ⟨some ((α 18).add (0+0)),0+0+1,c14,some ((α 14).add (0+0)),0+0+1,e7⟩))) [tNum f.t,tText (evNm f.k),(JT.mk 6#8 0#64 [] ((dataJ f).l++[(JT.mk 3#8 0#64 [] [] [])]) ((dataJ f).ns++[moreB]))]:=((RowJ.nil.snoc (wa.later hL9)).snoc (wb.later hL9)).snoc hD
          exact ⟨hrow9.frz2 (F:=fun j=>memB j [6,8,14,18]) (fun j hj=>(by have hj:j<15:=hj; rcases (show j=0∨j=1∨j=2∨j=3∨j=4∨j=5∨j=6∨j=7∨j=8∨j=9∨j=10∨j=11∨j=12∨j=13∨j=14 by omega) with rfl|rfl|rfl|rfl|rfl|rfl|rfl|rfl|rfl|rfl|rfl|rfl|rfl|rfl|rfl <;> rfl)) (fun hf=>⟨(hI 8 rfl hf).1,fun hm=>(hI 8 rfl hf).2 hm rfl⟩) marks_off (n:=3) rfl hc7n (by decide),strs_frz (l:=[timeB,nameB,dataB].map U8) (F:=fun j=>memB j [6,8,14,18]) (fun j hj=>(by have hj:j<3:=hj; rcases (show j=0∨j=1∨j=2 by omega) with rfl|rfl|rfl <;> rfl)) (fun hf=>(hI 6 rfl hf).1) (n:=3) rfl hc6n (by decide)⟩
         ·rw [hev9] at hr
          obtain ⟨_,W',ms',_,rfl,rfl⟩:=hr
          exact ⟨rfl,rfl⟩
         rintro y hs ⟨rfl,hdrop⟩
         rw [hdrop]
         (repeat show _∧_;first|refine yr ?_|refine yt ?_|refine yf ?_|refine yo ?_)
         refine call_past (fn_qevent (d:=0) (v:=.mk 5#8 0#64 [] (evJ f).l (evJ f).ns) (x:=⟨some A,3,xmc,some B,3,xpc⟩) (show TAt W5 ms5 2 (.mk 5#8 0#64 [] (evJ f).l (evJ f).ns) _ from hv5) ⟨Nat.zero_le _,(shrt_ev hck).2⟩) 0 [] rfl rfl (by (repeat first|exact trivial|refine ent1 ?_)) (by (repeat first|exact trivial|refine ent1 ?_)) (fun _ _=>trivial) (fun x hs hr=>?_) ?_
         ·rw [hevl] at hr
          obtain ⟨_,W',ms',h1,_,rfl⟩:=hr
          exact ⟨W',ms',rfl,h1⟩
         rintro y hs hr
         rw [hevl] at hr
         obtain ⟨_,W6,ms6,_,rfl,rfl⟩:=hr
         (repeat show _∧_;first|refine yr ?_|refine yt ?_|refine yf ?_|refine yo ?_)
         exact ⟨.a (.c (.bool true)),[[.past W6 ms6]],⟨[0],⟨rfl,rfl,rfl⟩,by (repeat first|exact trivial|refine ent1 ?_)⟩,rfl⟩
        ·(repeat show _∧_;first|refine yr ?_|refine yt ?_|refine yf ?_|refine yo ?_)
         have hf11:∀ j,j<dcs.length→(fun _:Nat=>SC.any) j=nthC dcs j:=fun j hj=>absurd hj (by omega)
         intro c11 hc11
         (repeat show _∧_;first|refine yr ?_|refine yt ?_|refine yf ?_|refine yo ?_)
         refine And.intro ⟨hc11,Nat.le_of_eq (Nat.zero_add _),(show (0+0+1)*80≤140737488355328 by omega)⟩ ?_
         intro c14 hc14
         (repeat show _∧_;first|refine yr ?_|refine yt ?_|refine yf ?_|refine yo ?_)
         refine And.intro (show (0:Int)≤2∧(2:Int)<((0+3:Nat):Int) by decide) ?_
         (repeat show _∧_;first|refine yr ?_|refine yt ?_|refine yf ?_|refine yo ?_)
         refine And.intro (show 2*5+5≤scale c7 (4+1) by rw [sc5]; omega) ?_
         (repeat show _∧_;first|refine yr ?_|refine yt ?_|refine yf ?_|refine yo ?_)
         refine call_lendU [6,8,14,18] 0 [] rfl rfl (by (repeat first|exact trivial|refine ent1 ?_)) NoP.nil (fun _ _=>trivial) (fun W9 ms9 α hL9 hI=>⟨[.agg (jvS (JT.mk 6#8 0#64 [] [tNum f.t,tText (evNm f.k),(JT.mk 6#8 0#64 [] ((dataJ f).l++[(JT.mk 3#8 0#64 [] [] [])]) ((dataJ f).ns++[moreB]))] [timeB,nameB,dataB]) ⟨some ((α 8).add (0+0)),3,c7,some ((α 6).add (0+0)),3,c6⟩)],?_,(fn_qevent (d:=0) (v:=(JT.mk 6#8 0#64 [] [tNum f.t,tText (evNm f.k),(JT.mk 6#8 0#64 [] ((dataJ f).l++[(JT.mk 3#8 0#64 [] [] [])]) ((dataJ f).ns++[moreB]))] [timeB,nameB,dataB])) (x:=⟨some ((α 8).add (0+0)),3,c7,some ((α 6).add (0+0)),3,c6⟩) ?_ hsh9).mono (Res':=fun y hs=>y=.tup [.agg (evS ev0 ec0),.c (.int .i64 4)]∧hs.drop 1=[]) (fun x hs hr=>?_)⟩) (fun x hs hr=>by rw [hr.2]; exact NoP.nil) ?_
         ·(repeat first|exact trivial|refine ent1 ?_)
         ·have hD:TAt W9 ms9 1 (JT.mk 6#8 0#64 [] ((dataJ f).l++[(JT.mk 3#8 0#64 [] [] [])]) ((dataJ f).ns++[moreB])) ⟨some ((α 18).add (0+0)),0+0+1,c14,some ((α 14).add (0+0)),0+0+1,e7⟩:=by
           refine ⟨(hdr9.later hL9).frz2 (F:=fun j=>memB j [6,8,14,18]) (fun j hj=>by exact (congrArg (fun y=>(SC.rz (fun j=>memB j [6,8,14,18]) α y).raw) (appJ_cs (cs:=dcs) (new:=flat (jvS (JT.mk 3#8 0#64 [] [] []) jc0)) (n:=0+0) (m:=1) (sz:=4) (by omega) (appJ_cs (cs:=[]) (new:=dcs) (n:=0) (m:=0) (sz:=4) rfl (fun _ h=>absurd h (Nat.not_lt_zero _)) hdcl hf11) rfl (fun j hj=>updJ_new hj) j hj)).trans (rzJ_raw (hdr9.raw _ (nthJ_mem hj)))) (fun hf=>⟨(hI 18 rfl hf).1,fun hm=>(hI 18 rfl hf).2 hm rfl⟩) marks_off (n:=0+0+1) (by rw [List.length_append,hdm]; show 0+1=_; omega) hc14 (by omega),?_⟩
           refine strs_frz (l:=((dataJ f).ns++[moreB]).map U8) (F:=fun j=>memB j [6,8,14,18]) (fun j hj=>?_) (fun hf=>(hI 14 rfl hf).1) (n:=0+0+1) (by rw [List.length_map,List.length_append,hdp]; show 0+1=_; omega) he7 (by omega)
           rw [nmJ_map,nmL_app] at hj ⊢
           exact appJ_cs (cs:=nmJ (dataJ f).ns) (new:=nmJ [moreB]) (n:=0+0) (m:=1) (sz:=0) (by omega) (appJ_cs (cs:=[]) (new:=nmJ (dataJ f).ns) (n:=0) (m:=0) (sz:=0) rfl (fun _ h=>absurd h (Nat.not_lt_zero _)) hdnl hf5) rfl (fun _ _=>rfl) j hj
          have hrow9:RowJ W9 ms9 1 (flat (jvS (tNum f.t) ua)++(flat (jvS (tText (evNm f.k)) ub)++flat (jvS (JT.mk 6#8 0#64 [] ((dataJ f).l++[(JT.mk 3#8 0#64 [] [] [])]) ((dataJ f).ns++[moreB])) ⟨some ((α 18).add (0+0)),0+0+1,c14,some ((α 14).add (0+0)),0+0+1,e7⟩))) [tNum f.t,tText (evNm f.k),(JT.mk 6#8 0#64 [] ((dataJ f).l++[(JT.mk 3#8 0#64 [] [] [])]) ((dataJ f).ns++[moreB]))]:=((RowJ.nil.snoc (wa.later hL9)).snoc (wb.later hL9)).snoc hD
          exact ⟨hrow9.frz2 (F:=fun j=>memB j [6,8,14,18]) (fun j hj=>(by have hj:j<15:=hj; rcases (show j=0∨j=1∨j=2∨j=3∨j=4∨j=5∨j=6∨j=7∨j=8∨j=9∨j=10∨j=11∨j=12∨j=13∨j=14 by omega) with rfl|rfl|rfl|rfl|rfl|rfl|rfl|rfl|rfl|rfl|rfl|rfl|rfl|rfl|rfl <;> rfl)) (fun hf=>⟨(hI 8 rfl hf).1,fun hm=>(hI 8 rfl hf).2 hm rfl⟩) marks_off (n:=3) rfl hc7n (by decide),strs_frz (l:=[timeB,nameB,dataB].map U8) (F:=fun j=>memB j [6,8,14,18]) (fun j hj=>(by have hj:j<3:=hj; rcases (show j=0∨j=1∨j=2 by omega) with rfl|rfl|rfl <;> rfl)) (fun hf=>(hI 6 rfl hf).1) (n:=3) rfl hc6n (by decide)⟩
         ·rw [hev9] at hr
          obtain ⟨_,W',ms',_,rfl,rfl⟩:=hr
          exact ⟨rfl,rfl⟩
         rintro y hs ⟨rfl,hdrop⟩
         rw [hdrop]
         (repeat show _∧_;first|refine yr ?_|refine yt ?_|refine yf ?_|refine yo ?_)
         refine call_past (fn_qevent (d:=0) (v:=.mk 5#8 0#64 [] (evJ f).l (evJ f).ns) (x:=⟨some A,3,xmc,some B,3,xpc⟩) (show TAt W5 ms5 2 (.mk 5#8 0#64 [] (evJ f).l (evJ f).ns) _ from hv5) ⟨Nat.zero_le _,(shrt_ev hck).2⟩) 0 [] rfl rfl (by (repeat first|exact trivial|refine ent1 ?_)) (by (repeat first|exact trivial|refine ent1 ?_)) (fun _ _=>trivial) (fun x hs hr=>?_) ?_
         ·rw [hevl] at hr
          obtain ⟨_,W',ms',h1,_,rfl⟩:=hr
          exact ⟨W',ms',rfl,h1⟩
         rintro y hs hr
         rw [hevl] at hr
         obtain ⟨_,W6,ms6,_,rfl,rfl⟩:=hr
         (repeat show _∧_;first|refine yr ?_|refine yt ?_|refine yf ?_|refine yo ?_)
         exact ⟨.a (.c (.bool true)),[[.past W6 ms6]],⟨[0],⟨rfl,rfl,rfl⟩,by (repeat first|exact trivial|refine ent1 ?_)⟩,rfl⟩
       ·(repeat show _∧_;first|refine yr ?_|refine yt ?_|refine yf ?_|refine yo ?_)
        have hf11:∀ j,j<dcs.length→(fun _:Nat=>SC.any) j=nthC dcs j:=fun j hj=>absurd hj (by omega)
        intro c11 hc11
        (repeat show _∧_;first|refine yr ?_|refine yt ?_|refine yf ?_|refine yo ?_)
        refine And.intro ⟨hc11,Nat.le_of_eq (Nat.zero_add _),(show (0+0+1)*80≤140737488355328 by omega)⟩ ?_
        intro c14 hc14
        (repeat show _∧_;first|refine yr ?_|refine yt ?_|refine yf ?_|refine yo ?_)
        refine And.intro (show (0:Int)≤2∧(2:Int)<((0+3:Nat):Int) by decide) ?_
        (repeat show _∧_;first|refine yr ?_|refine yt ?_|refine yf ?_|refine yo ?_)
        refine And.intro (show 2*5+5≤scale c7 (4+1) by rw [sc5]; omega) ?_
        (repeat show _∧_;first|refine yr ?_|refine yt ?_|refine yf ?_|refine yo ?_)
        refine call_lendU [6,8,14,18] 0 [] rfl rfl (by (repeat first|exact trivial|refine ent1 ?_)) NoP.nil (fun _ _=>trivial) (fun W9 ms9 α hL9 hI=>⟨[.agg (jvS (JT.mk 6#8 0#64 [] [tNum f.t,tText (evNm f.k),(JT.mk 6#8 0#64 [] ((dataJ f).l++[(JT.mk 3#8 0#64 [] [] [])]) ((dataJ f).ns++[moreB]))] [timeB,nameB,dataB]) ⟨some ((α 8).add (0+0)),3,c7,some ((α 6).add (0+0)),3,c6⟩)],?_,(fn_qevent (d:=0) (v:=(JT.mk 6#8 0#64 [] [tNum f.t,tText (evNm f.k),(JT.mk 6#8 0#64 [] ((dataJ f).l++[(JT.mk 3#8 0#64 [] [] [])]) ((dataJ f).ns++[moreB]))] [timeB,nameB,dataB])) (x:=⟨some ((α 8).add (0+0)),3,c7,some ((α 6).add (0+0)),3,c6⟩) ?_ hsh9).mono (Res':=fun y hs=>y=.tup [.agg (evS ev0 ec0),.c (.int .i64 4)]∧hs.drop 1=[]) (fun x hs hr=>?_)⟩) (fun x hs hr=>by rw [hr.2]; exact NoP.nil) ?_
        ·(repeat first|exact trivial|refine ent1 ?_)
        ·have hD:TAt W9 ms9 1 (JT.mk 6#8 0#64 [] ((dataJ f).l++[(JT.mk 3#8 0#64 [] [] [])]) ((dataJ f).ns++[moreB])) ⟨some ((α 18).add (0+0)),0+0+1,c14,some ((α 14).add (0+0)),0+0+1,e7⟩:=by
          refine ⟨(hdr9.later hL9).frz2 (F:=fun j=>memB j [6,8,14,18]) (fun j hj=>by exact (congrArg (fun y=>(SC.rz (fun j=>memB j [6,8,14,18]) α y).raw) (appJ_cs (cs:=dcs) (new:=flat (jvS (JT.mk 3#8 0#64 [] [] []) jc0)) (n:=0+0) (m:=1) (sz:=4) (by omega) (appJ_cs (cs:=[]) (new:=dcs) (n:=0) (m:=0) (sz:=4) rfl (fun _ h=>absurd h (Nat.not_lt_zero _)) hdcl hf11) rfl (fun j hj=>updJ_new hj) j hj)).trans (rzJ_raw (hdr9.raw _ (nthJ_mem hj)))) (fun hf=>⟨(hI 18 rfl hf).1,fun hm=>(hI 18 rfl hf).2 hm rfl⟩) marks_off (n:=0+0+1) (by rw [List.length_append,hdm]; show 0+1=_; omega) hc14 (by omega),?_⟩
          refine strs_frz (l:=((dataJ f).ns++[moreB]).map U8) (F:=fun j=>memB j [6,8,14,18]) (fun j hj=>?_) (fun hf=>(hI 14 rfl hf).1) (n:=0+0+1) (by rw [List.length_map,List.length_append,hdp]; show 0+1=_; omega) he7 (by omega)
          rw [nmJ_map,nmL_app] at hj ⊢
          exact appJ_cs (cs:=nmJ (dataJ f).ns) (new:=nmJ [moreB]) (n:=0+0) (m:=1) (sz:=0) (by omega) (appJ_cs (cs:=[]) (new:=nmJ (dataJ f).ns) (n:=0) (m:=0) (sz:=0) rfl (fun _ h=>absurd h (Nat.not_lt_zero _)) hdnl hf5) rfl (fun _ _=>rfl) j hj
         have hrow9:RowJ W9 ms9 1 (flat (jvS (tNum f.t) ua)++(flat (jvS (tText (evNm f.k)) ub)++flat (jvS (JT.mk 6#8 0#64 [] ((dataJ f).l++[(JT.mk 3#8 0#64 [] [] [])]) ((dataJ f).ns++[moreB])) ⟨some ((α 18).add (0+0)),0+0+1,c14,some ((α 14).add (0+0)),0+0+1,e7⟩))) [tNum f.t,tText (evNm f.k),(JT.mk 6#8 0#64 [] ((dataJ f).l++[(JT.mk 3#8 0#64 [] [] [])]) ((dataJ f).ns++[moreB]))]:=((RowJ.nil.snoc (wa.later hL9)).snoc (wb.later hL9)).snoc hD
         exact ⟨hrow9.frz2 (F:=fun j=>memB j [6,8,14,18]) (fun j hj=>(by have hj:j<15:=hj; rcases (show j=0∨j=1∨j=2∨j=3∨j=4∨j=5∨j=6∨j=7∨j=8∨j=9∨j=10∨j=11∨j=12∨j=13∨j=14 by omega) with rfl|rfl|rfl|rfl|rfl|rfl|rfl|rfl|rfl|rfl|rfl|rfl|rfl|rfl|rfl <;> rfl)) (fun hf=>⟨(hI 8 rfl hf).1,fun hm=>(hI 8 rfl hf).2 hm rfl⟩) marks_off (n:=3) rfl hc7n (by decide),strs_frz (l:=[timeB,nameB,dataB].map U8) (F:=fun j=>memB j [6,8,14,18]) (fun j hj=>(by have hj:j<3:=hj; rcases (show j=0∨j=1∨j=2 by omega) with rfl|rfl|rfl <;> rfl)) (fun hf=>(hI 6 rfl hf).1) (n:=3) rfl hc6n (by decide)⟩
        ·rw [hev9] at hr
         obtain ⟨_,W',ms',_,rfl,rfl⟩:=hr
         exact ⟨rfl,rfl⟩
        rintro y hs ⟨rfl,hdrop⟩
        rw [hdrop]
        (repeat show _∧_;first|refine yr ?_|refine yt ?_|refine yf ?_|refine yo ?_)
        refine call_past (fn_qevent (d:=0) (v:=.mk 5#8 0#64 [] (evJ f).l (evJ f).ns) (x:=⟨some A,3,xmc,some B,3,xpc⟩) (show TAt W5 ms5 2 (.mk 5#8 0#64 [] (evJ f).l (evJ f).ns) _ from hv5) ⟨Nat.zero_le _,(shrt_ev hck).2⟩) 0 [] rfl rfl (by (repeat first|exact trivial|refine ent1 ?_)) (by (repeat first|exact trivial|refine ent1 ?_)) (fun _ _=>trivial) (fun x hs hr=>?_) ?_
        ·rw [hevl] at hr
         obtain ⟨_,W',ms',h1,_,rfl⟩:=hr
         exact ⟨W',ms',rfl,h1⟩
        rintro y hs hr
        rw [hevl] at hr
        obtain ⟨_,W6,ms6,_,rfl,rfl⟩:=hr
        (repeat show _∧_;first|refine yr ?_|refine yt ?_|refine yf ?_|refine yo ?_)
        exact ⟨.a (.c (.bool true)),[[.past W6 ms6]],⟨[0],⟨rfl,rfl,rfl⟩,by (repeat first|exact trivial|refine ent1 ?_)⟩,rfl⟩
      ·(repeat show _∧_;first|refine yr ?_|refine yt ?_|refine yf ?_|refine yo ?_)
       refine And.intro ⟨he5,Nat.le_of_eq (Nat.zero_add _),(show (0+0+1)*16≤140737488355328 by omega)⟩ ?_
       intro e7 he7
       (repeat show _∧_;first|refine yr ?_|refine yt ?_|refine yf ?_|refine yo ?_)
       have hf11:∀ j,j<dcs.length→(fun _:Nat=>SC.any) j=nthC dcs j:=fun j hj=>absurd hj (by omega)
       intro c11 hc11
       (repeat show _∧_;first|refine yr ?_|refine yt ?_|refine yf ?_|refine yo ?_)
       refine And.intro ⟨hc11,Nat.le_of_eq (Nat.zero_add _),(show (0+0+1)*80≤140737488355328 by omega)⟩ ?_
       intro c14 hc14
       (repeat show _∧_;first|refine yr ?_|refine yt ?_|refine yf ?_|refine yo ?_)
       refine And.intro (show (0:Int)≤2∧(2:Int)<((0+3:Nat):Int) by decide) ?_
       (repeat show _∧_;first|refine yr ?_|refine yt ?_|refine yf ?_|refine yo ?_)
       refine And.intro (show 2*5+5≤scale c7 (4+1) by rw [sc5]; omega) ?_
       (repeat show _∧_;first|refine yr ?_|refine yt ?_|refine yf ?_|refine yo ?_)
       refine call_lendU [6,8,15,18] 0 [] rfl rfl (by (repeat first|exact trivial|refine ent1 ?_)) NoP.nil (fun _ _=>trivial) (fun W9 ms9 α hL9 hI=>⟨[.agg (jvS (JT.mk 6#8 0#64 [] [tNum f.t,tText (evNm f.k),(JT.mk 6#8 0#64 [] ((dataJ f).l++[(JT.mk 3#8 0#64 [] [] [])]) ((dataJ f).ns++[moreB]))] [timeB,nameB,dataB]) ⟨some ((α 8).add (0+0)),3,c7,some ((α 6).add (0+0)),3,c6⟩)],?_,(fn_qevent (d:=0) (v:=(JT.mk 6#8 0#64 [] [tNum f.t,tText (evNm f.k),(JT.mk 6#8 0#64 [] ((dataJ f).l++[(JT.mk 3#8 0#64 [] [] [])]) ((dataJ f).ns++[moreB]))] [timeB,nameB,dataB])) (x:=⟨some ((α 8).add (0+0)),3,c7,some ((α 6).add (0+0)),3,c6⟩) ?_ hsh9).mono (Res':=fun y hs=>y=.tup [.agg (evS ev0 ec0),.c (.int .i64 4)]∧hs.drop 1=[]) (fun x hs hr=>?_)⟩) (fun x hs hr=>by rw [hr.2]; exact NoP.nil) ?_
       ·(repeat first|exact trivial|refine ent1 ?_)
       ·have hD:TAt W9 ms9 1 (JT.mk 6#8 0#64 [] ((dataJ f).l++[(JT.mk 3#8 0#64 [] [] [])]) ((dataJ f).ns++[moreB])) ⟨some ((α 18).add (0+0)),0+0+1,c14,some ((α 15).add (0+0)),0+0+1,e7⟩:=by
         refine ⟨(hdr9.later hL9).frz2 (F:=fun j=>memB j [6,8,15,18]) (fun j hj=>by exact (congrArg (fun y=>(SC.rz (fun j=>memB j [6,8,15,18]) α y).raw) (appJ_cs (cs:=dcs) (new:=flat (jvS (JT.mk 3#8 0#64 [] [] []) jc0)) (n:=0+0) (m:=1) (sz:=4) (by omega) (appJ_cs (cs:=[]) (new:=dcs) (n:=0) (m:=0) (sz:=4) rfl (fun _ h=>absurd h (Nat.not_lt_zero _)) hdcl hf11) rfl (fun j hj=>updJ_new hj) j hj)).trans (rzJ_raw (hdr9.raw _ (nthJ_mem hj)))) (fun hf=>⟨(hI 18 rfl hf).1,fun hm=>(hI 18 rfl hf).2 hm rfl⟩) marks_off (n:=0+0+1) (by rw [List.length_append,hdm]; show 0+1=_; omega) hc14 (by omega),?_⟩
         refine strs_frz (l:=((dataJ f).ns++[moreB]).map U8) (F:=fun j=>memB j [6,8,15,18]) (fun j hj=>?_) (fun hf=>(hI 15 rfl hf).1) (n:=0+0+1) (by rw [List.length_map,List.length_append,hdp]; show 0+1=_; omega) he7 (by omega)
         rw [nmJ_map,nmL_app] at hj ⊢
         exact appJ_cs (cs:=nmJ (dataJ f).ns) (new:=nmJ [moreB]) (n:=0+0) (m:=1) (sz:=0) (by omega) (appJ_cs (cs:=[]) (new:=nmJ (dataJ f).ns) (n:=0) (m:=0) (sz:=0) rfl (fun _ h=>absurd h (Nat.not_lt_zero _)) hdnl hf5) rfl (fun _ _=>rfl) j hj
        have hrow9:RowJ W9 ms9 1 (flat (jvS (tNum f.t) ua)++(flat (jvS (tText (evNm f.k)) ub)++flat (jvS (JT.mk 6#8 0#64 [] ((dataJ f).l++[(JT.mk 3#8 0#64 [] [] [])]) ((dataJ f).ns++[moreB])) ⟨some ((α 18).add (0+0)),0+0+1,c14,some ((α 15).add (0+0)),0+0+1,e7⟩))) [tNum f.t,tText (evNm f.k),(JT.mk 6#8 0#64 [] ((dataJ f).l++[(JT.mk 3#8 0#64 [] [] [])]) ((dataJ f).ns++[moreB]))]:=((RowJ.nil.snoc (wa.later hL9)).snoc (wb.later hL9)).snoc hD
        exact ⟨hrow9.frz2 (F:=fun j=>memB j [6,8,15,18]) (fun j hj=>(by have hj:j<15:=hj; rcases (show j=0∨j=1∨j=2∨j=3∨j=4∨j=5∨j=6∨j=7∨j=8∨j=9∨j=10∨j=11∨j=12∨j=13∨j=14 by omega) with rfl|rfl|rfl|rfl|rfl|rfl|rfl|rfl|rfl|rfl|rfl|rfl|rfl|rfl|rfl <;> rfl)) (fun hf=>⟨(hI 8 rfl hf).1,fun hm=>(hI 8 rfl hf).2 hm rfl⟩) marks_off (n:=3) rfl hc7n (by decide),strs_frz (l:=[timeB,nameB,dataB].map U8) (F:=fun j=>memB j [6,8,15,18]) (fun j hj=>(by have hj:j<3:=hj; rcases (show j=0∨j=1∨j=2 by omega) with rfl|rfl|rfl <;> rfl)) (fun hf=>(hI 6 rfl hf).1) (n:=3) rfl hc6n (by decide)⟩
       ·rw [hev9] at hr
        obtain ⟨_,W',ms',_,rfl,rfl⟩:=hr
        exact ⟨rfl,rfl⟩
       rintro y hs ⟨rfl,hdrop⟩
       rw [hdrop]
       (repeat show _∧_;first|refine yr ?_|refine yt ?_|refine yf ?_|refine yo ?_)
       refine call_past (fn_qevent (d:=0) (v:=.mk 5#8 0#64 [] (evJ f).l (evJ f).ns) (x:=⟨some A,3,xmc,some B,3,xpc⟩) (show TAt W5 ms5 2 (.mk 5#8 0#64 [] (evJ f).l (evJ f).ns) _ from hv5) ⟨Nat.zero_le _,(shrt_ev hck).2⟩) 0 [] rfl rfl (by (repeat first|exact trivial|refine ent1 ?_)) (by (repeat first|exact trivial|refine ent1 ?_)) (fun _ _=>trivial) (fun x hs hr=>?_) ?_
       ·rw [hevl] at hr
        obtain ⟨_,W',ms',h1,_,rfl⟩:=hr
        exact ⟨W',ms',rfl,h1⟩
       rintro y hs hr
       rw [hevl] at hr
       obtain ⟨_,W6,ms6,_,rfl,rfl⟩:=hr
       (repeat show _∧_;first|refine yr ?_|refine yt ?_|refine yf ?_|refine yo ?_)
       exact ⟨.a (.c (.bool true)),[[.past W6 ms6]],⟨[0],⟨rfl,rfl,rfl⟩,by (repeat first|exact trivial|refine ent1 ?_)⟩,rfl⟩
     ·(repeat show _∧_;first|refine yr ?_|refine yt ?_|refine yf ?_|refine yo ?_)
      refine And.intro ⟨he5,Nat.le_of_eq (Nat.zero_add _),(show (0+0+1)*16≤140737488355328 by omega)⟩ ?_
      intro e7 he7
      (repeat show _∧_;first|refine yr ?_|refine yt ?_|refine yf ?_|refine yo ?_)
      have hf11:∀ j,j<dcs.length→(fun _:Nat=>SC.any) j=nthC dcs j:=fun j hj=>absurd hj (by omega)
      intro c11 hc11
      (repeat show _∧_;first|refine yr ?_|refine yt ?_|refine yf ?_|refine yo ?_)
      refine And.intro ⟨hc11,Nat.le_of_eq (Nat.zero_add _),(show (0+0+1)*80≤140737488355328 by omega)⟩ ?_
      intro c14 hc14
      (repeat show _∧_;first|refine yr ?_|refine yt ?_|refine yf ?_|refine yo ?_)
      refine And.intro (show (0:Int)≤2∧(2:Int)<((0+3:Nat):Int) by decide) ?_
      (repeat show _∧_;first|refine yr ?_|refine yt ?_|refine yf ?_|refine yo ?_)
      refine And.intro (show 2*5+5≤scale c7 (4+1) by rw [sc5]; omega) ?_
      (repeat show _∧_;first|refine yr ?_|refine yt ?_|refine yf ?_|refine yo ?_)
      refine call_lendU [6,8,15,18] 0 [] rfl rfl (by (repeat first|exact trivial|refine ent1 ?_)) NoP.nil (fun _ _=>trivial) (fun W9 ms9 α hL9 hI=>⟨[.agg (jvS (JT.mk 6#8 0#64 [] [tNum f.t,tText (evNm f.k),(JT.mk 6#8 0#64 [] ((dataJ f).l++[(JT.mk 3#8 0#64 [] [] [])]) ((dataJ f).ns++[moreB]))] [timeB,nameB,dataB]) ⟨some ((α 8).add (0+0)),3,c7,some ((α 6).add (0+0)),3,c6⟩)],?_,(fn_qevent (d:=0) (v:=(JT.mk 6#8 0#64 [] [tNum f.t,tText (evNm f.k),(JT.mk 6#8 0#64 [] ((dataJ f).l++[(JT.mk 3#8 0#64 [] [] [])]) ((dataJ f).ns++[moreB]))] [timeB,nameB,dataB])) (x:=⟨some ((α 8).add (0+0)),3,c7,some ((α 6).add (0+0)),3,c6⟩) ?_ hsh9).mono (Res':=fun y hs=>y=.tup [.agg (evS ev0 ec0),.c (.int .i64 4)]∧hs.drop 1=[]) (fun x hs hr=>?_)⟩) (fun x hs hr=>by rw [hr.2]; exact NoP.nil) ?_
      ·(repeat first|exact trivial|refine ent1 ?_)
      ·have hD:TAt W9 ms9 1 (JT.mk 6#8 0#64 [] ((dataJ f).l++[(JT.mk 3#8 0#64 [] [] [])]) ((dataJ f).ns++[moreB])) ⟨some ((α 18).add (0+0)),0+0+1,c14,some ((α 15).add (0+0)),0+0+1,e7⟩:=by
        refine ⟨(hdr9.later hL9).frz2 (F:=fun j=>memB j [6,8,15,18]) (fun j hj=>by exact (congrArg (fun y=>(SC.rz (fun j=>memB j [6,8,15,18]) α y).raw) (appJ_cs (cs:=dcs) (new:=flat (jvS (JT.mk 3#8 0#64 [] [] []) jc0)) (n:=0+0) (m:=1) (sz:=4) (by omega) (appJ_cs (cs:=[]) (new:=dcs) (n:=0) (m:=0) (sz:=4) rfl (fun _ h=>absurd h (Nat.not_lt_zero _)) hdcl hf11) rfl (fun j hj=>updJ_new hj) j hj)).trans (rzJ_raw (hdr9.raw _ (nthJ_mem hj)))) (fun hf=>⟨(hI 18 rfl hf).1,fun hm=>(hI 18 rfl hf).2 hm rfl⟩) marks_off (n:=0+0+1) (by rw [List.length_append,hdm]; show 0+1=_; omega) hc14 (by omega),?_⟩
        refine strs_frz (l:=((dataJ f).ns++[moreB]).map U8) (F:=fun j=>memB j [6,8,15,18]) (fun j hj=>?_) (fun hf=>(hI 15 rfl hf).1) (n:=0+0+1) (by rw [List.length_map,List.length_append,hdp]; show 0+1=_; omega) he7 (by omega)
        rw [nmJ_map,nmL_app] at hj ⊢
        exact appJ_cs (cs:=nmJ (dataJ f).ns) (new:=nmJ [moreB]) (n:=0+0) (m:=1) (sz:=0) (by omega) (appJ_cs (cs:=[]) (new:=nmJ (dataJ f).ns) (n:=0) (m:=0) (sz:=0) rfl (fun _ h=>absurd h (Nat.not_lt_zero _)) hdnl hf5) rfl (fun _ _=>rfl) j hj
       have hrow9:RowJ W9 ms9 1 (flat (jvS (tNum f.t) ua)++(flat (jvS (tText (evNm f.k)) ub)++flat (jvS (JT.mk 6#8 0#64 [] ((dataJ f).l++[(JT.mk 3#8 0#64 [] [] [])]) ((dataJ f).ns++[moreB])) ⟨some ((α 18).add (0+0)),0+0+1,c14,some ((α 15).add (0+0)),0+0+1,e7⟩))) [tNum f.t,tText (evNm f.k),(JT.mk 6#8 0#64 [] ((dataJ f).l++[(JT.mk 3#8 0#64 [] [] [])]) ((dataJ f).ns++[moreB]))]:=((RowJ.nil.snoc (wa.later hL9)).snoc (wb.later hL9)).snoc hD
       exact ⟨hrow9.frz2 (F:=fun j=>memB j [6,8,15,18]) (fun j hj=>(by have hj:j<15:=hj; rcases (show j=0∨j=1∨j=2∨j=3∨j=4∨j=5∨j=6∨j=7∨j=8∨j=9∨j=10∨j=11∨j=12∨j=13∨j=14 by omega) with rfl|rfl|rfl|rfl|rfl|rfl|rfl|rfl|rfl|rfl|rfl|rfl|rfl|rfl|rfl <;> rfl)) (fun hf=>⟨(hI 8 rfl hf).1,fun hm=>(hI 8 rfl hf).2 hm rfl⟩) marks_off (n:=3) rfl hc7n (by decide),strs_frz (l:=[timeB,nameB,dataB].map U8) (F:=fun j=>memB j [6,8,15,18]) (fun j hj=>(by have hj:j<3:=hj; rcases (show j=0∨j=1∨j=2 by omega) with rfl|rfl|rfl <;> rfl)) (fun hf=>(hI 6 rfl hf).1) (n:=3) rfl hc6n (by decide)⟩
      ·rw [hev9] at hr
       obtain ⟨_,W',ms',_,rfl,rfl⟩:=hr
       exact ⟨rfl,rfl⟩
      rintro y hs ⟨rfl,hdrop⟩
      rw [hdrop]
      (repeat show _∧_;first|refine yr ?_|refine yt ?_|refine yf ?_|refine yo ?_)
      refine call_past (fn_qevent (d:=0) (v:=.mk 5#8 0#64 [] (evJ f).l (evJ f).ns) (x:=⟨some A,3,xmc,some B,3,xpc⟩) (show TAt W5 ms5 2 (.mk 5#8 0#64 [] (evJ f).l (evJ f).ns) _ from hv5) ⟨Nat.zero_le _,(shrt_ev hck).2⟩) 0 [] rfl rfl (by (repeat first|exact trivial|refine ent1 ?_)) (by (repeat first|exact trivial|refine ent1 ?_)) (fun _ _=>trivial) (fun x hs hr=>?_) ?_
      ·rw [hevl] at hr
       obtain ⟨_,W',ms',h1,_,rfl⟩:=hr
       exact ⟨W',ms',rfl,h1⟩
      rintro y hs hr
      rw [hevl] at hr
      obtain ⟨_,W6,ms6,_,rfl,rfl⟩:=hr
      (repeat show _∧_;first|refine yr ?_|refine yt ?_|refine yf ?_|refine yo ?_)
      exact ⟨.a (.c (.bool true)),[[.past W6 ms6]],⟨[0],⟨rfl,rfl,rfl⟩,by (repeat first|exact trivial|refine ent1 ?_)⟩,rfl⟩
    ·(repeat show _∧_;first|refine yr ?_|refine yt ?_|refine yf ?_|refine yo ?_)
     have hf5:∀ j,j<(nmJ (dataJ f).ns).length→(fun _:Nat=>SC.any) j=nthC (nmJ (dataJ f).ns) j:=fun j hj=>absurd hj (by omega)
     intro e5 he5
     (repeat show _∧_;first|refine yr ?_|refine yt ?_|refine yf ?_|refine yo ?_)
     refine And.intro ⟨he5,Nat.le_of_eq (Nat.zero_add _),(show (0+0+1)*16≤140737488355328 by omega)⟩ ?_
     intro e7 he7
     (repeat show _∧_;first|refine yr ?_|refine yt ?_|refine yf ?_|refine yo ?_)
     have hf11:∀ j,j<dcs.length→(fun _:Nat=>SC.any) j=nthC dcs j:=fun j hj=>absurd hj (by omega)
     intro c11 hc11
     (repeat show _∧_;first|refine yr ?_|refine yt ?_|refine yf ?_|refine yo ?_)
     refine And.intro ⟨hc11,Nat.le_of_eq (Nat.zero_add _),(show (0+0+1)*80≤140737488355328 by omega)⟩ ?_
     intro c14 hc14
     (repeat show _∧_;first|refine yr ?_|refine yt ?_|refine yf ?_|refine yo ?_)
     refine And.intro (show (0:Int)≤2∧(2:Int)<((0+3:Nat):Int) by decide) ?_
     (repeat show _∧_;first|refine yr ?_|refine yt ?_|refine yf ?_|refine yo ?_)
     refine And.intro (show 2*5+5≤scale c7 (4+1) by rw [sc5]; omega) ?_
     (repeat show _∧_;first|refine yr ?_|refine yt ?_|refine yf ?_|refine yo ?_)
     refine call_lendU [6,8,15,18] 0 [] rfl rfl (by (repeat first|exact trivial|refine ent1 ?_)) NoP.nil (fun _ _=>trivial) (fun W9 ms9 α hL9 hI=>⟨[.agg (jvS (JT.mk 6#8 0#64 [] [tNum f.t,tText (evNm f.k),(JT.mk 6#8 0#64 [] ((dataJ f).l++[(JT.mk 3#8 0#64 [] [] [])]) ((dataJ f).ns++[moreB]))] [timeB,nameB,dataB]) ⟨some ((α 8).add (0+0)),3,c7,some ((α 6).add (0+0)),3,c6⟩)],?_,(fn_qevent (d:=0) (v:=(JT.mk 6#8 0#64 [] [tNum f.t,tText (evNm f.k),(JT.mk 6#8 0#64 [] ((dataJ f).l++[(JT.mk 3#8 0#64 [] [] [])]) ((dataJ f).ns++[moreB]))] [timeB,nameB,dataB])) (x:=⟨some ((α 8).add (0+0)),3,c7,some ((α 6).add (0+0)),3,c6⟩) ?_ hsh9).mono (Res':=fun y hs=>y=.tup [.agg (evS ev0 ec0),.c (.int .i64 4)]∧hs.drop 1=[]) (fun x hs hr=>?_)⟩) (fun x hs hr=>by rw [hr.2]; exact NoP.nil) ?_
     ·(repeat first|exact trivial|refine ent1 ?_)
     ·have hD:TAt W9 ms9 1 (JT.mk 6#8 0#64 [] ((dataJ f).l++[(JT.mk 3#8 0#64 [] [] [])]) ((dataJ f).ns++[moreB])) ⟨some ((α 18).add (0+0)),0+0+1,c14,some ((α 15).add (0+0)),0+0+1,e7⟩:=by
       refine ⟨(hdr9.later hL9).frz2 (F:=fun j=>memB j [6,8,15,18]) (fun j hj=>by exact (congrArg (fun y=>(SC.rz (fun j=>memB j [6,8,15,18]) α y).raw) (appJ_cs (cs:=dcs) (new:=flat (jvS (JT.mk 3#8 0#64 [] [] []) jc0)) (n:=0+0) (m:=1) (sz:=4) (by omega) (appJ_cs (cs:=[]) (new:=dcs) (n:=0) (m:=0) (sz:=4) rfl (fun _ h=>absurd h (Nat.not_lt_zero _)) hdcl hf11) rfl (fun j hj=>updJ_new hj) j hj)).trans (rzJ_raw (hdr9.raw _ (nthJ_mem hj)))) (fun hf=>⟨(hI 18 rfl hf).1,fun hm=>(hI 18 rfl hf).2 hm rfl⟩) marks_off (n:=0+0+1) (by rw [List.length_append,hdm]; show 0+1=_; omega) hc14 (by omega),?_⟩
       refine strs_frz (l:=((dataJ f).ns++[moreB]).map U8) (F:=fun j=>memB j [6,8,15,18]) (fun j hj=>?_) (fun hf=>(hI 15 rfl hf).1) (n:=0+0+1) (by rw [List.length_map,List.length_append,hdp]; show 0+1=_; omega) he7 (by omega)
       rw [nmJ_map,nmL_app] at hj ⊢
       exact appJ_cs (cs:=nmJ (dataJ f).ns) (new:=nmJ [moreB]) (n:=0+0) (m:=1) (sz:=0) (by omega) (appJ_cs (cs:=[]) (new:=nmJ (dataJ f).ns) (n:=0) (m:=0) (sz:=0) rfl (fun _ h=>absurd h (Nat.not_lt_zero _)) hdnl hf5) rfl (fun _ _=>rfl) j hj
      have hrow9:RowJ W9 ms9 1 (flat (jvS (tNum f.t) ua)++(flat (jvS (tText (evNm f.k)) ub)++flat (jvS (JT.mk 6#8 0#64 [] ((dataJ f).l++[(JT.mk 3#8 0#64 [] [] [])]) ((dataJ f).ns++[moreB])) ⟨some ((α 18).add (0+0)),0+0+1,c14,some ((α 15).add (0+0)),0+0+1,e7⟩))) [tNum f.t,tText (evNm f.k),(JT.mk 6#8 0#64 [] ((dataJ f).l++[(JT.mk 3#8 0#64 [] [] [])]) ((dataJ f).ns++[moreB]))]:=((RowJ.nil.snoc (wa.later hL9)).snoc (wb.later hL9)).snoc hD
      exact ⟨hrow9.frz2 (F:=fun j=>memB j [6,8,15,18]) (fun j hj=>(by have hj:j<15:=hj; rcases (show j=0∨j=1∨j=2∨j=3∨j=4∨j=5∨j=6∨j=7∨j=8∨j=9∨j=10∨j=11∨j=12∨j=13∨j=14 by omega) with rfl|rfl|rfl|rfl|rfl|rfl|rfl|rfl|rfl|rfl|rfl|rfl|rfl|rfl|rfl <;> rfl)) (fun hf=>⟨(hI 8 rfl hf).1,fun hm=>(hI 8 rfl hf).2 hm rfl⟩) marks_off (n:=3) rfl hc7n (by decide),strs_frz (l:=[timeB,nameB,dataB].map U8) (F:=fun j=>memB j [6,8,15,18]) (fun j hj=>(by have hj:j<3:=hj; rcases (show j=0∨j=1∨j=2 by omega) with rfl|rfl|rfl <;> rfl)) (fun hf=>(hI 6 rfl hf).1) (n:=3) rfl hc6n (by decide)⟩
     ·rw [hev9] at hr
      obtain ⟨_,W',ms',_,rfl,rfl⟩:=hr
      exact ⟨rfl,rfl⟩
     rintro y hs ⟨rfl,hdrop⟩
     rw [hdrop]
     (repeat show _∧_;first|refine yr ?_|refine yt ?_|refine yf ?_|refine yo ?_)
     refine call_past (fn_qevent (d:=0) (v:=.mk 5#8 0#64 [] (evJ f).l (evJ f).ns) (x:=⟨some A,3,xmc,some B,3,xpc⟩) (show TAt W5 ms5 2 (.mk 5#8 0#64 [] (evJ f).l (evJ f).ns) _ from hv5) ⟨Nat.zero_le _,(shrt_ev hck).2⟩) 0 [] rfl rfl (by (repeat first|exact trivial|refine ent1 ?_)) (by (repeat first|exact trivial|refine ent1 ?_)) (fun _ _=>trivial) (fun x hs hr=>?_) ?_
     ·rw [hevl] at hr
      obtain ⟨_,W',ms',h1,_,rfl⟩:=hr
      exact ⟨W',ms',rfl,h1⟩
     rintro y hs hr
     rw [hevl] at hr
     obtain ⟨_,W6,ms6,_,rfl,rfl⟩:=hr
     (repeat show _∧_;first|refine yr ?_|refine yt ?_|refine yf ?_|refine yo ?_)
     exact ⟨.a (.c (.bool true)),[[.past W6 ms6]],⟨[0],⟨rfl,rfl,rfl⟩,by (repeat first|exact trivial|refine ent1 ?_)⟩,rfl⟩
   ·(repeat show _∧_;first|refine yr ?_|refine yt ?_|refine yf ?_|refine yo ?_)
    have hf5:∀ j,j<(nmJ (dataJ f).ns).length→(fun _:Nat=>SC.any) j=nthC (nmJ (dataJ f).ns) j:=fun j hj=>absurd hj (by omega)
    intro e5 he5
    (repeat show _∧_;first|refine yr ?_|refine yt ?_|refine yf ?_|refine yo ?_)
    refine And.intro ⟨he5,Nat.le_of_eq (Nat.zero_add _),(show (0+0+1)*16≤140737488355328 by omega)⟩ ?_
    intro e7 he7
    (repeat show _∧_;first|refine yr ?_|refine yt ?_|refine yf ?_|refine yo ?_)
    have hf11:∀ j,j<dcs.length→(fun _:Nat=>SC.any) j=nthC dcs j:=fun j hj=>absurd hj (by omega)
    intro c11 hc11
    (repeat show _∧_;first|refine yr ?_|refine yt ?_|refine yf ?_|refine yo ?_)
    refine And.intro ⟨hc11,Nat.le_of_eq (Nat.zero_add _),(show (0+0+1)*80≤140737488355328 by omega)⟩ ?_
    intro c14 hc14
    (repeat show _∧_;first|refine yr ?_|refine yt ?_|refine yf ?_|refine yo ?_)
    refine And.intro (show (0:Int)≤2∧(2:Int)<((0+3:Nat):Int) by decide) ?_
    (repeat show _∧_;first|refine yr ?_|refine yt ?_|refine yf ?_|refine yo ?_)
    refine And.intro (show 2*5+5≤scale c7 (4+1) by rw [sc5]; omega) ?_
    (repeat show _∧_;first|refine yr ?_|refine yt ?_|refine yf ?_|refine yo ?_)
    refine call_lendU [6,8,15,18] 0 [] rfl rfl (by (repeat first|exact trivial|refine ent1 ?_)) NoP.nil (fun _ _=>trivial) (fun W9 ms9 α hL9 hI=>⟨[.agg (jvS (JT.mk 6#8 0#64 [] [tNum f.t,tText (evNm f.k),(JT.mk 6#8 0#64 [] ((dataJ f).l++[(JT.mk 3#8 0#64 [] [] [])]) ((dataJ f).ns++[moreB]))] [timeB,nameB,dataB]) ⟨some ((α 8).add (0+0)),3,c7,some ((α 6).add (0+0)),3,c6⟩)],?_,(fn_qevent (d:=0) (v:=(JT.mk 6#8 0#64 [] [tNum f.t,tText (evNm f.k),(JT.mk 6#8 0#64 [] ((dataJ f).l++[(JT.mk 3#8 0#64 [] [] [])]) ((dataJ f).ns++[moreB]))] [timeB,nameB,dataB])) (x:=⟨some ((α 8).add (0+0)),3,c7,some ((α 6).add (0+0)),3,c6⟩) ?_ hsh9).mono (Res':=fun y hs=>y=.tup [.agg (evS ev0 ec0),.c (.int .i64 4)]∧hs.drop 1=[]) (fun x hs hr=>?_)⟩) (fun x hs hr=>by rw [hr.2]; exact NoP.nil) ?_
    ·(repeat first|exact trivial|refine ent1 ?_)
    ·have hD:TAt W9 ms9 1 (JT.mk 6#8 0#64 [] ((dataJ f).l++[(JT.mk 3#8 0#64 [] [] [])]) ((dataJ f).ns++[moreB])) ⟨some ((α 18).add (0+0)),0+0+1,c14,some ((α 15).add (0+0)),0+0+1,e7⟩:=by
      refine ⟨(hdr9.later hL9).frz2 (F:=fun j=>memB j [6,8,15,18]) (fun j hj=>by exact (congrArg (fun y=>(SC.rz (fun j=>memB j [6,8,15,18]) α y).raw) (appJ_cs (cs:=dcs) (new:=flat (jvS (JT.mk 3#8 0#64 [] [] []) jc0)) (n:=0+0) (m:=1) (sz:=4) (by omega) (appJ_cs (cs:=[]) (new:=dcs) (n:=0) (m:=0) (sz:=4) rfl (fun _ h=>absurd h (Nat.not_lt_zero _)) hdcl hf11) rfl (fun j hj=>updJ_new hj) j hj)).trans (rzJ_raw (hdr9.raw _ (nthJ_mem hj)))) (fun hf=>⟨(hI 18 rfl hf).1,fun hm=>(hI 18 rfl hf).2 hm rfl⟩) marks_off (n:=0+0+1) (by rw [List.length_append,hdm]; show 0+1=_; omega) hc14 (by omega),?_⟩
      refine strs_frz (l:=((dataJ f).ns++[moreB]).map U8) (F:=fun j=>memB j [6,8,15,18]) (fun j hj=>?_) (fun hf=>(hI 15 rfl hf).1) (n:=0+0+1) (by rw [List.length_map,List.length_append,hdp]; show 0+1=_; omega) he7 (by omega)
      rw [nmJ_map,nmL_app] at hj ⊢
      exact appJ_cs (cs:=nmJ (dataJ f).ns) (new:=nmJ [moreB]) (n:=0+0) (m:=1) (sz:=0) (by omega) (appJ_cs (cs:=[]) (new:=nmJ (dataJ f).ns) (n:=0) (m:=0) (sz:=0) rfl (fun _ h=>absurd h (Nat.not_lt_zero _)) hdnl hf5) rfl (fun _ _=>rfl) j hj
     have hrow9:RowJ W9 ms9 1 (flat (jvS (tNum f.t) ua)++(flat (jvS (tText (evNm f.k)) ub)++flat (jvS (JT.mk 6#8 0#64 [] ((dataJ f).l++[(JT.mk 3#8 0#64 [] [] [])]) ((dataJ f).ns++[moreB])) ⟨some ((α 18).add (0+0)),0+0+1,c14,some ((α 15).add (0+0)),0+0+1,e7⟩))) [tNum f.t,tText (evNm f.k),(JT.mk 6#8 0#64 [] ((dataJ f).l++[(JT.mk 3#8 0#64 [] [] [])]) ((dataJ f).ns++[moreB]))]:=((RowJ.nil.snoc (wa.later hL9)).snoc (wb.later hL9)).snoc hD
     exact ⟨hrow9.frz2 (F:=fun j=>memB j [6,8,15,18]) (fun j hj=>(by have hj:j<15:=hj; rcases (show j=0∨j=1∨j=2∨j=3∨j=4∨j=5∨j=6∨j=7∨j=8∨j=9∨j=10∨j=11∨j=12∨j=13∨j=14 by omega) with rfl|rfl|rfl|rfl|rfl|rfl|rfl|rfl|rfl|rfl|rfl|rfl|rfl|rfl|rfl <;> rfl)) (fun hf=>⟨(hI 8 rfl hf).1,fun hm=>(hI 8 rfl hf).2 hm rfl⟩) marks_off (n:=3) rfl hc7n (by decide),strs_frz (l:=[timeB,nameB,dataB].map U8) (F:=fun j=>memB j [6,8,15,18]) (fun j hj=>(by have hj:j<3:=hj; rcases (show j=0∨j=1∨j=2 by omega) with rfl|rfl|rfl <;> rfl)) (fun hf=>(hI 6 rfl hf).1) (n:=3) rfl hc6n (by decide)⟩
    ·rw [hev9] at hr
     obtain ⟨_,W',ms',_,rfl,rfl⟩:=hr
     exact ⟨rfl,rfl⟩
    rintro y hs ⟨rfl,hdrop⟩
    rw [hdrop]
    (repeat show _∧_;first|refine yr ?_|refine yt ?_|refine yf ?_|refine yo ?_)
    refine call_past (fn_qevent (d:=0) (v:=.mk 5#8 0#64 [] (evJ f).l (evJ f).ns) (x:=⟨some A,3,xmc,some B,3,xpc⟩) (show TAt W5 ms5 2 (.mk 5#8 0#64 [] (evJ f).l (evJ f).ns) _ from hv5) ⟨Nat.zero_le _,(shrt_ev hck).2⟩) 0 [] rfl rfl (by (repeat first|exact trivial|refine ent1 ?_)) (by (repeat first|exact trivial|refine ent1 ?_)) (fun _ _=>trivial) (fun x hs hr=>?_) ?_
    ·rw [hevl] at hr
     obtain ⟨_,W',ms',h1,_,rfl⟩:=hr
     exact ⟨W',ms',rfl,h1⟩
    rintro y hs hr
    rw [hevl] at hr
    obtain ⟨_,W6,ms6,_,rfl,rfl⟩:=hr
    (repeat show _∧_;first|refine yr ?_|refine yt ?_|refine yf ?_|refine yo ?_)
    exact ⟨.a (.c (.bool true)),[[.past W6 ms6]],⟨[0],⟨rfl,rfl,rfl⟩,by (repeat first|exact trivial|refine ent1 ?_)⟩,rfl⟩
  ·refine And.intro ?_ ?_
   ·(repeat show _∧_;first|refine yr ?_|refine yt ?_|refine yf ?_|refine yo ?_)
    refine And.intro ?_ ?_
    ·(repeat show _∧_;first|refine yr ?_|refine yt ?_|refine yf ?_|refine yo ?_)
     have hf5:∀ j,j<(nmJ (dataJ f).ns).length→(fun _:Nat=>SC.any) j=nthC (nmJ (dataJ f).ns) j:=fun j hj=>absurd hj (by omega)
     intro e5 he5
     (repeat show _∧_;first|refine yr ?_|refine yt ?_|refine yf ?_|refine yo ?_)
     refine And.intro ?_ ?_
     ·(repeat show _∧_;first|refine yr ?_|refine yt ?_|refine yf ?_|refine yo ?_)
      refine And.intro ?_ ?_
      ·(repeat show _∧_;first|refine yr ?_|refine yt ?_|refine yf ?_|refine yo ?_)
       refine And.intro ⟨he5,Nat.le_of_eq (Nat.zero_add _),(show (0+0+1)*16≤140737488355328 by omega)⟩ ?_
       intro e7 he7
       (repeat show _∧_;first|refine yr ?_|refine yt ?_|refine yf ?_|refine yo ?_)
       refine And.intro ?_ ?_
       ·(repeat show _∧_;first|refine yr ?_|refine yt ?_|refine yf ?_|refine yo ?_)
        refine And.intro ?_ ?_
        ·(repeat show _∧_;first|refine yr ?_|refine yt ?_|refine yf ?_|refine yo ?_)
         refine ⟨nthC dcs,.inl rfl,?_⟩
         have hf11:∀ j,j<dcs.length→nthC dcs j=nthC dcs j:=fun _ _=>rfl
         refine ⟨⟨Nat.le_refl _,(show 0+scale 0 (4+1)≤0 by decide),(show (0+0)*80≤140737488355328 by omega)⟩,fun c11 hc11=>?_⟩
         (repeat show _∧_;first|refine yr ?_|refine yt ?_|refine yf ?_|refine yo ?_)
         refine And.intro ⟨hc11,Nat.le_of_eq (Nat.zero_add _),(show (0+0+1)*80≤140737488355328 by omega)⟩ ?_
         intro c14 hc14
         (repeat show _∧_;first|refine yr ?_|refine yt ?_|refine yf ?_|refine yo ?_)
         refine And.intro (show (0:Int)≤2∧(2:Int)<((0+3:Nat):Int) by decide) ?_
         (repeat show _∧_;first|refine yr ?_|refine yt ?_|refine yf ?_|refine yo ?_)
         refine And.intro (show 2*5+5≤scale c7 (4+1) by rw [sc5]; omega) ?_
         (repeat show _∧_;first|refine yr ?_|refine yt ?_|refine yf ?_|refine yo ?_)
         refine call_lendU [6,8,14,18] 0 [] rfl rfl (by (repeat first|exact trivial|refine ent1 ?_)) NoP.nil (fun _ _=>trivial) (fun W9 ms9 α hL9 hI=>⟨[.agg (jvS (JT.mk 6#8 0#64 [] [tNum f.t,tText (evNm f.k),(JT.mk 6#8 0#64 [] ((dataJ f).l++[(JT.mk 3#8 0#64 [] [] [])]) ((dataJ f).ns++[moreB]))] [timeB,nameB,dataB]) ⟨some ((α 8).add (0+0)),3,c7,some ((α 6).add (0+0)),3,c6⟩)],?_,(fn_qevent (d:=0) (v:=(JT.mk 6#8 0#64 [] [tNum f.t,tText (evNm f.k),(JT.mk 6#8 0#64 [] ((dataJ f).l++[(JT.mk 3#8 0#64 [] [] [])]) ((dataJ f).ns++[moreB]))] [timeB,nameB,dataB])) (x:=⟨some ((α 8).add (0+0)),3,c7,some ((α 6).add (0+0)),3,c6⟩) ?_ hsh9).mono (Res':=fun y hs=>y=.tup [.agg (evS ev0 ec0),.c (.int .i64 4)]∧hs.drop 1=[]) (fun x hs hr=>?_)⟩) (fun x hs hr=>by rw [hr.2]; exact NoP.nil) ?_
         ·(repeat first|exact trivial|refine ent1 ?_)
         ·have hD:TAt W9 ms9 1 (JT.mk 6#8 0#64 [] ((dataJ f).l++[(JT.mk 3#8 0#64 [] [] [])]) ((dataJ f).ns++[moreB])) ⟨some ((α 18).add (0+0)),0+0+1,c14,some ((α 14).add (0+0)),0+0+1,e7⟩:=by
           refine ⟨(hdr9.later hL9).frz2 (F:=fun j=>memB j [6,8,14,18]) (fun j hj=>by exact (congrArg (fun y=>(SC.rz (fun j=>memB j [6,8,14,18]) α y).raw) (appJ_cs (cs:=dcs) (new:=flat (jvS (JT.mk 3#8 0#64 [] [] []) jc0)) (n:=0+0) (m:=1) (sz:=4) (by omega) (appJ_cs (cs:=[]) (new:=dcs) (n:=0) (m:=0) (sz:=4) rfl (fun _ h=>absurd h (Nat.not_lt_zero _)) hdcl hf11) rfl (fun j hj=>updJ_new hj) j hj)).trans (rzJ_raw (hdr9.raw _ (nthJ_mem hj)))) (fun hf=>⟨(hI 18 rfl hf).1,fun hm=>(hI 18 rfl hf).2 hm rfl⟩) marks_off (n:=0+0+1) (by rw [List.length_append,hdm]; show 0+1=_; omega) hc14 (by omega),?_⟩
           refine strs_frz (l:=((dataJ f).ns++[moreB]).map U8) (F:=fun j=>memB j [6,8,14,18]) (fun j hj=>?_) (fun hf=>(hI 14 rfl hf).1) (n:=0+0+1) (by rw [List.length_map,List.length_append,hdp]; show 0+1=_; omega) he7 (by omega)
           rw [nmJ_map,nmL_app] at hj ⊢
           exact appJ_cs (cs:=nmJ (dataJ f).ns) (new:=nmJ [moreB]) (n:=0+0) (m:=1) (sz:=0) (by omega) (appJ_cs (cs:=[]) (new:=nmJ (dataJ f).ns) (n:=0) (m:=0) (sz:=0) rfl (fun _ h=>absurd h (Nat.not_lt_zero _)) hdnl hf5) rfl (fun _ _=>rfl) j hj
          have hrow9:RowJ W9 ms9 1 (flat (jvS (tNum f.t) ua)++(flat (jvS (tText (evNm f.k)) ub)++flat (jvS (JT.mk 6#8 0#64 [] ((dataJ f).l++[(JT.mk 3#8 0#64 [] [] [])]) ((dataJ f).ns++[moreB])) ⟨some ((α 18).add (0+0)),0+0+1,c14,some ((α 14).add (0+0)),0+0+1,e7⟩))) [tNum f.t,tText (evNm f.k),(JT.mk 6#8 0#64 [] ((dataJ f).l++[(JT.mk 3#8 0#64 [] [] [])]) ((dataJ f).ns++[moreB]))]:=((RowJ.nil.snoc (wa.later hL9)).snoc (wb.later hL9)).snoc hD
          exact ⟨hrow9.frz2 (F:=fun j=>memB j [6,8,14,18]) (fun j hj=>(by have hj:j<15:=hj; rcases (show j=0∨j=1∨j=2∨j=3∨j=4∨j=5∨j=6∨j=7∨j=8∨j=9∨j=10∨j=11∨j=12∨j=13∨j=14 by omega) with rfl|rfl|rfl|rfl|rfl|rfl|rfl|rfl|rfl|rfl|rfl|rfl|rfl|rfl|rfl <;> rfl)) (fun hf=>⟨(hI 8 rfl hf).1,fun hm=>(hI 8 rfl hf).2 hm rfl⟩) marks_off (n:=3) rfl hc7n (by decide),strs_frz (l:=[timeB,nameB,dataB].map U8) (F:=fun j=>memB j [6,8,14,18]) (fun j hj=>(by have hj:j<3:=hj; rcases (show j=0∨j=1∨j=2 by omega) with rfl|rfl|rfl <;> rfl)) (fun hf=>(hI 6 rfl hf).1) (n:=3) rfl hc6n (by decide)⟩
         ·rw [hev9] at hr
          obtain ⟨_,W',ms',_,rfl,rfl⟩:=hr
          exact ⟨rfl,rfl⟩
         rintro y hs ⟨rfl,hdrop⟩
         rw [hdrop]
         (repeat show _∧_;first|refine yr ?_|refine yt ?_|refine yf ?_|refine yo ?_)
         refine call_past (fn_qevent (d:=0) (v:=.mk 5#8 0#64 [] (evJ f).l (evJ f).ns) (x:=⟨some A,3,xmc,some B,3,xpc⟩) (show TAt W5 ms5 2 (.mk 5#8 0#64 [] (evJ f).l (evJ f).ns) _ from hv5) ⟨Nat.zero_le _,(shrt_ev hck).2⟩) 0 [] rfl rfl (by (repeat first|exact trivial|refine ent1 ?_)) (by (repeat first|exact trivial|refine ent1 ?_)) (fun _ _=>trivial) (fun x hs hr=>?_) ?_
         ·rw [hevl] at hr
          obtain ⟨_,W',ms',h1,_,rfl⟩:=hr
          exact ⟨W',ms',rfl,h1⟩
         rintro y hs hr
         rw [hevl] at hr
         obtain ⟨_,W6,ms6,_,rfl,rfl⟩:=hr
         (repeat show _∧_;first|refine yr ?_|refine yt ?_|refine yf ?_|refine yo ?_)
         exact ⟨.a (.c (.bool true)),[[.past W6 ms6]],⟨[0],⟨rfl,rfl,rfl⟩,by (repeat first|exact trivial|refine ent1 ?_)⟩,rfl⟩
        ·(repeat show _∧_;first|refine yr ?_|refine yt ?_|refine yf ?_|refine yo ?_)
         refine ⟨nthC dcs,.inl rfl,?_⟩
         have hf11:∀ j,j<dcs.length→nthC dcs j=nthC dcs j:=fun _ _=>rfl
         refine ⟨⟨Nat.le_refl _,(show 0+scale 0 (4+1)≤0 by decide),(show (0+0)*80≤140737488355328 by omega)⟩,fun c11 hc11=>?_⟩
         (repeat show _∧_;first|refine yr ?_|refine yt ?_|refine yf ?_|refine yo ?_)
         refine And.intro ⟨hc11,Nat.le_of_eq (Nat.zero_add _),(show (0+0+1)*80≤140737488355328 by omega)⟩ ?_
         intro c14 hc14
         (repeat show _∧_;first|refine yr ?_|refine yt ?_|refine yf ?_|refine yo ?_)
         refine And.intro (show (0:Int)≤2∧(2:Int)<((0+3:Nat):Int) by decide) ?_
         (repeat show _∧_;first|refine yr ?_|refine yt ?_|refine yf ?_|refine yo ?_)
         refine And.intro (show 2*5+5≤scale c7 (4+1) by rw [sc5]; omega) ?_
         (repeat show _∧_;first|refine yr ?_|refine yt ?_|refine yf ?_|refine yo ?_)
         refine call_lendU [6,8,14,18] 0 [] rfl rfl (by (repeat first|exact trivial|refine ent1 ?_)) NoP.nil (fun _ _=>trivial) (fun W9 ms9 α hL9 hI=>⟨[.agg (jvS (JT.mk 6#8 0#64 [] [tNum f.t,tText (evNm f.k),(JT.mk 6#8 0#64 [] ((dataJ f).l++[(JT.mk 3#8 0#64 [] [] [])]) ((dataJ f).ns++[moreB]))] [timeB,nameB,dataB]) ⟨some ((α 8).add (0+0)),3,c7,some ((α 6).add (0+0)),3,c6⟩)],?_,(fn_qevent (d:=0) (v:=(JT.mk 6#8 0#64 [] [tNum f.t,tText (evNm f.k),(JT.mk 6#8 0#64 [] ((dataJ f).l++[(JT.mk 3#8 0#64 [] [] [])]) ((dataJ f).ns++[moreB]))] [timeB,nameB,dataB])) (x:=⟨some ((α 8).add (0+0)),3,c7,some ((α 6).add (0+0)),3,c6⟩) ?_ hsh9).mono (Res':=fun y hs=>y=.tup [.agg (evS ev0 ec0),.c (.int .i64 4)]∧hs.drop 1=[]) (fun x hs hr=>?_)⟩) (fun x hs hr=>by rw [hr.2]; exact NoP.nil) ?_
         ·(repeat first|exact trivial|refine ent1 ?_)
         ·have hD:TAt W9 ms9 1 (JT.mk 6#8 0#64 [] ((dataJ f).l++[(JT.mk 3#8 0#64 [] [] [])]) ((dataJ f).ns++[moreB])) ⟨some ((α 18).add (0+0)),0+0+1,c14,some ((α 14).add (0+0)),0+0+1,e7⟩:=by
           refine ⟨(hdr9.later hL9).frz2 (F:=fun j=>memB j [6,8,14,18]) (fun j hj=>by exact (congrArg (fun y=>(SC.rz (fun j=>memB j [6,8,14,18]) α y).raw) (appJ_cs (cs:=dcs) (new:=flat (jvS (JT.mk 3#8 0#64 [] [] []) jc0)) (n:=0+0) (m:=1) (sz:=4) (by omega) (appJ_cs (cs:=[]) (new:=dcs) (n:=0) (m:=0) (sz:=4) rfl (fun _ h=>absurd h (Nat.not_lt_zero _)) hdcl hf11) rfl (fun j hj=>updJ_new hj) j hj)).trans (rzJ_raw (hdr9.raw _ (nthJ_mem hj)))) (fun hf=>⟨(hI 18 rfl hf).1,fun hm=>(hI 18 rfl hf).2 hm rfl⟩) marks_off (n:=0+0+1) (by rw [List.length_append,hdm]; show 0+1=_; omega) hc14 (by omega),?_⟩
           refine strs_frz (l:=((dataJ f).ns++[moreB]).map U8) (F:=fun j=>memB j [6,8,14,18]) (fun j hj=>?_) (fun hf=>(hI 14 rfl hf).1) (n:=0+0+1) (by rw [List.length_map,List.length_append,hdp]; show 0+1=_; omega) he7 (by omega)
           rw [nmJ_map,nmL_app] at hj ⊢
           exact appJ_cs (cs:=nmJ (dataJ f).ns) (new:=nmJ [moreB]) (n:=0+0) (m:=1) (sz:=0) (by omega) (appJ_cs (cs:=[]) (new:=nmJ (dataJ f).ns) (n:=0) (m:=0) (sz:=0) rfl (fun _ h=>absurd h (Nat.not_lt_zero _)) hdnl hf5) rfl (fun _ _=>rfl) j hj
          have hrow9:RowJ W9 ms9 1 (flat (jvS (tNum f.t) ua)++(flat (jvS (tText (evNm f.k)) ub)++flat (jvS (JT.mk 6#8 0#64 [] ((dataJ f).l++[(JT.mk 3#8 0#64 [] [] [])]) ((dataJ f).ns++[moreB])) ⟨some ((α 18).add (0+0)),0+0+1,c14,some ((α 14).add (0+0)),0+0+1,e7⟩))) [tNum f.t,tText (evNm f.k),(JT.mk 6#8 0#64 [] ((dataJ f).l++[(JT.mk 3#8 0#64 [] [] [])]) ((dataJ f).ns++[moreB]))]:=((RowJ.nil.snoc (wa.later hL9)).snoc (wb.later hL9)).snoc hD
          exact ⟨hrow9.frz2 (F:=fun j=>memB j [6,8,14,18]) (fun j hj=>(by have hj:j<15:=hj; rcases (show j=0∨j=1∨j=2∨j=3∨j=4∨j=5∨j=6∨j=7∨j=8∨j=9∨j=10∨j=11∨j=12∨j=13∨j=14 by omega) with rfl|rfl|rfl|rfl|rfl|rfl|rfl|rfl|rfl|rfl|rfl|rfl|rfl|rfl|rfl <;> rfl)) (fun hf=>⟨(hI 8 rfl hf).1,fun hm=>(hI 8 rfl hf).2 hm rfl⟩) marks_off (n:=3) rfl hc7n (by decide),strs_frz (l:=[timeB,nameB,dataB].map U8) (F:=fun j=>memB j [6,8,14,18]) (fun j hj=>(by have hj:j<3:=hj; rcases (show j=0∨j=1∨j=2 by omega) with rfl|rfl|rfl <;> rfl)) (fun hf=>(hI 6 rfl hf).1) (n:=3) rfl hc6n (by decide)⟩
         ·rw [hev9] at hr
          obtain ⟨_,W',ms',_,rfl,rfl⟩:=hr
          exact ⟨rfl,rfl⟩
         rintro y hs ⟨rfl,hdrop⟩
         rw [hdrop]
         (repeat show _∧_;first|refine yr ?_|refine yt ?_|refine yf ?_|refine yo ?_)
         refine call_past (fn_qevent (d:=0) (v:=.mk 5#8 0#64 [] (evJ f).l (evJ f).ns) (x:=⟨some A,3,xmc,some B,3,xpc⟩) (show TAt W5 ms5 2 (.mk 5#8 0#64 [] (evJ f).l (evJ f).ns) _ from hv5) ⟨Nat.zero_le _,(shrt_ev hck).2⟩) 0 [] rfl rfl (by (repeat first|exact trivial|refine ent1 ?_)) (by (repeat first|exact trivial|refine ent1 ?_)) (fun _ _=>trivial) (fun x hs hr=>?_) ?_
         ·rw [hevl] at hr
          obtain ⟨_,W',ms',h1,_,rfl⟩:=hr
          exact ⟨W',ms',rfl,h1⟩
         rintro y hs hr
         rw [hevl] at hr
         obtain ⟨_,W6,ms6,_,rfl,rfl⟩:=hr
         (repeat show _∧_;first|refine yr ?_|refine yt ?_|refine yf ?_|refine yo ?_)
         exact ⟨.a (.c (.bool true)),[[.past W6 ms6]],⟨[0],⟨rfl,rfl,rfl⟩,by (repeat first|exact trivial|refine ent1 ?_)⟩,rfl⟩
       ·(repeat show _∧_;first|refine yr ?_|refine yt ?_|refine yf ?_|refine yo ?_)
        refine ⟨nthC dcs,.inl rfl,?_⟩
        have hf11:∀ j,j<dcs.length→nthC dcs j=nthC dcs j:=fun _ _=>rfl
        refine ⟨⟨Nat.le_refl _,(show 0+scale 0 (4+1)≤0 by decide),(show (0+0)*80≤140737488355328 by omega)⟩,fun c11 hc11=>?_⟩
        (repeat show _∧_;first|refine yr ?_|refine yt ?_|refine yf ?_|refine yo ?_)
        refine And.intro ⟨hc11,Nat.le_of_eq (Nat.zero_add _),(show (0+0+1)*80≤140737488355328 by omega)⟩ ?_
        intro c14 hc14
        (repeat show _∧_;first|refine yr ?_|refine yt ?_|refine yf ?_|refine yo ?_)
        refine And.intro (show (0:Int)≤2∧(2:Int)<((0+3:Nat):Int) by decide) ?_
        (repeat show _∧_;first|refine yr ?_|refine yt ?_|refine yf ?_|refine yo ?_)
        refine And.intro (show 2*5+5≤scale c7 (4+1) by rw [sc5]; omega) ?_
        (repeat show _∧_;first|refine yr ?_|refine yt ?_|refine yf ?_|refine yo ?_)
        refine call_lendU [6,8,14,18] 0 [] rfl rfl (by (repeat first|exact trivial|refine ent1 ?_)) NoP.nil (fun _ _=>trivial) (fun W9 ms9 α hL9 hI=>⟨[.agg (jvS (JT.mk 6#8 0#64 [] [tNum f.t,tText (evNm f.k),(JT.mk 6#8 0#64 [] ((dataJ f).l++[(JT.mk 3#8 0#64 [] [] [])]) ((dataJ f).ns++[moreB]))] [timeB,nameB,dataB]) ⟨some ((α 8).add (0+0)),3,c7,some ((α 6).add (0+0)),3,c6⟩)],?_,(fn_qevent (d:=0) (v:=(JT.mk 6#8 0#64 [] [tNum f.t,tText (evNm f.k),(JT.mk 6#8 0#64 [] ((dataJ f).l++[(JT.mk 3#8 0#64 [] [] [])]) ((dataJ f).ns++[moreB]))] [timeB,nameB,dataB])) (x:=⟨some ((α 8).add (0+0)),3,c7,some ((α 6).add (0+0)),3,c6⟩) ?_ hsh9).mono (Res':=fun y hs=>y=.tup [.agg (evS ev0 ec0),.c (.int .i64 4)]∧hs.drop 1=[]) (fun x hs hr=>?_)⟩) (fun x hs hr=>by rw [hr.2]; exact NoP.nil) ?_
        ·(repeat first|exact trivial|refine ent1 ?_)
        ·have hD:TAt W9 ms9 1 (JT.mk 6#8 0#64 [] ((dataJ f).l++[(JT.mk 3#8 0#64 [] [] [])]) ((dataJ f).ns++[moreB])) ⟨some ((α 18).add (0+0)),0+0+1,c14,some ((α 14).add (0+0)),0+0+1,e7⟩:=by
          refine ⟨(hdr9.later hL9).frz2 (F:=fun j=>memB j [6,8,14,18]) (fun j hj=>by exact (congrArg (fun y=>(SC.rz (fun j=>memB j [6,8,14,18]) α y).raw) (appJ_cs (cs:=dcs) (new:=flat (jvS (JT.mk 3#8 0#64 [] [] []) jc0)) (n:=0+0) (m:=1) (sz:=4) (by omega) (appJ_cs (cs:=[]) (new:=dcs) (n:=0) (m:=0) (sz:=4) rfl (fun _ h=>absurd h (Nat.not_lt_zero _)) hdcl hf11) rfl (fun j hj=>updJ_new hj) j hj)).trans (rzJ_raw (hdr9.raw _ (nthJ_mem hj)))) (fun hf=>⟨(hI 18 rfl hf).1,fun hm=>(hI 18 rfl hf).2 hm rfl⟩) marks_off (n:=0+0+1) (by rw [List.length_append,hdm]; show 0+1=_; omega) hc14 (by omega),?_⟩
          refine strs_frz (l:=((dataJ f).ns++[moreB]).map U8) (F:=fun j=>memB j [6,8,14,18]) (fun j hj=>?_) (fun hf=>(hI 14 rfl hf).1) (n:=0+0+1) (by rw [List.length_map,List.length_append,hdp]; show 0+1=_; omega) he7 (by omega)
          rw [nmJ_map,nmL_app] at hj ⊢
          exact appJ_cs (cs:=nmJ (dataJ f).ns) (new:=nmJ [moreB]) (n:=0+0) (m:=1) (sz:=0) (by omega) (appJ_cs (cs:=[]) (new:=nmJ (dataJ f).ns) (n:=0) (m:=0) (sz:=0) rfl (fun _ h=>absurd h (Nat.not_lt_zero _)) hdnl hf5) rfl (fun _ _=>rfl) j hj
         have hrow9:RowJ W9 ms9 1 (flat (jvS (tNum f.t) ua)++(flat (jvS (tText (evNm f.k)) ub)++flat (jvS (JT.mk 6#8 0#64 [] ((dataJ f).l++[(JT.mk 3#8 0#64 [] [] [])]) ((dataJ f).ns++[moreB])) ⟨some ((α 18).add (0+0)),0+0+1,c14,some ((α 14).add (0+0)),0+0+1,e7⟩))) [tNum f.t,tText (evNm f.k),(JT.mk 6#8 0#64 [] ((dataJ f).l++[(JT.mk 3#8 0#64 [] [] [])]) ((dataJ f).ns++[moreB]))]:=((RowJ.nil.snoc (wa.later hL9)).snoc (wb.later hL9)).snoc hD
         exact ⟨hrow9.frz2 (F:=fun j=>memB j [6,8,14,18]) (fun j hj=>(by have hj:j<15:=hj; rcases (show j=0∨j=1∨j=2∨j=3∨j=4∨j=5∨j=6∨j=7∨j=8∨j=9∨j=10∨j=11∨j=12∨j=13∨j=14 by omega) with rfl|rfl|rfl|rfl|rfl|rfl|rfl|rfl|rfl|rfl|rfl|rfl|rfl|rfl|rfl <;> rfl)) (fun hf=>⟨(hI 8 rfl hf).1,fun hm=>(hI 8 rfl hf).2 hm rfl⟩) marks_off (n:=3) rfl hc7n (by decide),strs_frz (l:=[timeB,nameB,dataB].map U8) (F:=fun j=>memB j [6,8,14,18]) (fun j hj=>(by have hj:j<3:=hj; rcases (show j=0∨j=1∨j=2 by omega) with rfl|rfl|rfl <;> rfl)) (fun hf=>(hI 6 rfl hf).1) (n:=3) rfl hc6n (by decide)⟩
        ·rw [hev9] at hr
         obtain ⟨_,W',ms',_,rfl,rfl⟩:=hr
         exact ⟨rfl,rfl⟩
        rintro y hs ⟨rfl,hdrop⟩
        rw [hdrop]
        (repeat show _∧_;first|refine yr ?_|refine yt ?_|refine yf ?_|refine yo ?_)
        refine call_past (fn_qevent (d:=0) (v:=.mk 5#8 0#64 [] (evJ f).l (evJ f).ns) (x:=⟨some A,3,xmc,some B,3,xpc⟩) (show TAt W5 ms5 2 (.mk 5#8 0#64 [] (evJ f).l (evJ f).ns) _ from hv5) ⟨Nat.zero_le _,(shrt_ev hck).2⟩) 0 [] rfl rfl (by (repeat first|exact trivial|refine ent1 ?_)) (by (repeat first|exact trivial|refine ent1 ?_)) (fun _ _=>trivial) (fun x hs hr=>?_) ?_
        ·rw [hevl] at hr
         obtain ⟨_,W',ms',h1,_,rfl⟩:=hr
         exact ⟨W',ms',rfl,h1⟩
        rintro y hs hr
        rw [hevl] at hr
        obtain ⟨_,W6,ms6,_,rfl,rfl⟩:=hr
        (repeat show _∧_;first|refine yr ?_|refine yt ?_|refine yf ?_|refine yo ?_)
        exact ⟨.a (.c (.bool true)),[[.past W6 ms6]],⟨[0],⟨rfl,rfl,rfl⟩,by (repeat first|exact trivial|refine ent1 ?_)⟩,rfl⟩
      ·(repeat show _∧_;first|refine yr ?_|refine yt ?_|refine yf ?_|refine yo ?_)
       refine And.intro ⟨he5,Nat.le_of_eq (Nat.zero_add _),(show (0+0+1)*16≤140737488355328 by omega)⟩ ?_
       intro e7 he7
       (repeat show _∧_;first|refine yr ?_|refine yt ?_|refine yf ?_|refine yo ?_)
       refine ⟨nthC dcs,.inl rfl,?_⟩
       have hf11:∀ j,j<dcs.length→nthC dcs j=nthC dcs j:=fun _ _=>rfl
       refine ⟨⟨Nat.le_refl _,(show 0+scale 0 (4+1)≤0 by decide),(show (0+0)*80≤140737488355328 by omega)⟩,fun c11 hc11=>?_⟩
       (repeat show _∧_;first|refine yr ?_|refine yt ?_|refine yf ?_|refine yo ?_)
       refine And.intro ⟨hc11,Nat.le_of_eq (Nat.zero_add _),(show (0+0+1)*80≤140737488355328 by omega)⟩ ?_
       intro c14 hc14
       (repeat show _∧_;first|refine yr ?_|refine yt ?_|refine yf ?_|refine yo ?_)
       refine And.intro (show (0:Int)≤2∧(2:Int)<((0+3:Nat):Int) by decide) ?_
       (repeat show _∧_;first|refine yr ?_|refine yt ?_|refine yf ?_|refine yo ?_)
       refine And.intro (show 2*5+5≤scale c7 (4+1) by rw [sc5]; omega) ?_
       (repeat show _∧_;first|refine yr ?_|refine yt ?_|refine yf ?_|refine yo ?_)
       refine call_lendU [6,8,15,18] 0 [] rfl rfl (by (repeat first|exact trivial|refine ent1 ?_)) NoP.nil (fun _ _=>trivial) (fun W9 ms9 α hL9 hI=>⟨[.agg (jvS (JT.mk 6#8 0#64 [] [tNum f.t,tText (evNm f.k),(JT.mk 6#8 0#64 [] ((dataJ f).l++[(JT.mk 3#8 0#64 [] [] [])]) ((dataJ f).ns++[moreB]))] [timeB,nameB,dataB]) ⟨some ((α 8).add (0+0)),3,c7,some ((α 6).add (0+0)),3,c6⟩)],?_,(fn_qevent (d:=0) (v:=(JT.mk 6#8 0#64 [] [tNum f.t,tText (evNm f.k),(JT.mk 6#8 0#64 [] ((dataJ f).l++[(JT.mk 3#8 0#64 [] [] [])]) ((dataJ f).ns++[moreB]))] [timeB,nameB,dataB])) (x:=⟨some ((α 8).add (0+0)),3,c7,some ((α 6).add (0+0)),3,c6⟩) ?_ hsh9).mono (Res':=fun y hs=>y=.tup [.agg (evS ev0 ec0),.c (.int .i64 4)]∧hs.drop 1=[]) (fun x hs hr=>?_)⟩) (fun x hs hr=>by rw [hr.2]; exact NoP.nil) ?_
       ·(repeat first|exact trivial|refine ent1 ?_)
       ·have hD:TAt W9 ms9 1 (JT.mk 6#8 0#64 [] ((dataJ f).l++[(JT.mk 3#8 0#64 [] [] [])]) ((dataJ f).ns++[moreB])) ⟨some ((α 18).add (0+0)),0+0+1,c14,some ((α 15).add (0+0)),0+0+1,e7⟩:=by
         refine ⟨(hdr9.later hL9).frz2 (F:=fun j=>memB j [6,8,15,18]) (fun j hj=>by exact (congrArg (fun y=>(SC.rz (fun j=>memB j [6,8,15,18]) α y).raw) (appJ_cs (cs:=dcs) (new:=flat (jvS (JT.mk 3#8 0#64 [] [] []) jc0)) (n:=0+0) (m:=1) (sz:=4) (by omega) (appJ_cs (cs:=[]) (new:=dcs) (n:=0) (m:=0) (sz:=4) rfl (fun _ h=>absurd h (Nat.not_lt_zero _)) hdcl hf11) rfl (fun j hj=>updJ_new hj) j hj)).trans (rzJ_raw (hdr9.raw _ (nthJ_mem hj)))) (fun hf=>⟨(hI 18 rfl hf).1,fun hm=>(hI 18 rfl hf).2 hm rfl⟩) marks_off (n:=0+0+1) (by rw [List.length_append,hdm]; show 0+1=_; omega) hc14 (by omega),?_⟩
         refine strs_frz (l:=((dataJ f).ns++[moreB]).map U8) (F:=fun j=>memB j [6,8,15,18]) (fun j hj=>?_) (fun hf=>(hI 15 rfl hf).1) (n:=0+0+1) (by rw [List.length_map,List.length_append,hdp]; show 0+1=_; omega) he7 (by omega)
         rw [nmJ_map,nmL_app] at hj ⊢
         exact appJ_cs (cs:=nmJ (dataJ f).ns) (new:=nmJ [moreB]) (n:=0+0) (m:=1) (sz:=0) (by omega) (appJ_cs (cs:=[]) (new:=nmJ (dataJ f).ns) (n:=0) (m:=0) (sz:=0) rfl (fun _ h=>absurd h (Nat.not_lt_zero _)) hdnl hf5) rfl (fun _ _=>rfl) j hj
        have hrow9:RowJ W9 ms9 1 (flat (jvS (tNum f.t) ua)++(flat (jvS (tText (evNm f.k)) ub)++flat (jvS (JT.mk 6#8 0#64 [] ((dataJ f).l++[(JT.mk 3#8 0#64 [] [] [])]) ((dataJ f).ns++[moreB])) ⟨some ((α 18).add (0+0)),0+0+1,c14,some ((α 15).add (0+0)),0+0+1,e7⟩))) [tNum f.t,tText (evNm f.k),(JT.mk 6#8 0#64 [] ((dataJ f).l++[(JT.mk 3#8 0#64 [] [] [])]) ((dataJ f).ns++[moreB]))]:=((RowJ.nil.snoc (wa.later hL9)).snoc (wb.later hL9)).snoc hD
        exact ⟨hrow9.frz2 (F:=fun j=>memB j [6,8,15,18]) (fun j hj=>(by have hj:j<15:=hj; rcases (show j=0∨j=1∨j=2∨j=3∨j=4∨j=5∨j=6∨j=7∨j=8∨j=9∨j=10∨j=11∨j=12∨j=13∨j=14 by omega) with rfl|rfl|rfl|rfl|rfl|rfl|rfl|rfl|rfl|rfl|rfl|rfl|rfl|rfl|rfl <;> rfl)) (fun hf=>⟨(hI 8 rfl hf).1,fun hm=>(hI 8 rfl hf).2 hm rfl⟩) marks_off (n:=3) rfl hc7n (by decide),strs_frz (l:=[timeB,nameB,dataB].map U8) (F:=fun j=>memB j [6,8,15,18]) (fun j hj=>(by have hj:j<3:=hj; rcases (show j=0∨j=1∨j=2 by omega) with rfl|rfl|rfl <;> rfl)) (fun hf=>(hI 6 rfl hf).1) (n:=3) rfl hc6n (by decide)⟩
       ·rw [hev9] at hr
        obtain ⟨_,W',ms',_,rfl,rfl⟩:=hr
        exact ⟨rfl,rfl⟩
       rintro y hs ⟨rfl,hdrop⟩
       rw [hdrop]
       (repeat show _∧_;first|refine yr ?_|refine yt ?_|refine yf ?_|refine yo ?_)
       refine call_past (fn_qevent (d:=0) (v:=.mk 5#8 0#64 [] (evJ f).l (evJ f).ns) (x:=⟨some A,3,xmc,some B,3,xpc⟩) (show TAt W5 ms5 2 (.mk 5#8 0#64 [] (evJ f).l (evJ f).ns) _ from hv5) ⟨Nat.zero_le _,(shrt_ev hck).2⟩) 0 [] rfl rfl (by (repeat first|exact trivial|refine ent1 ?_)) (by (repeat first|exact trivial|refine ent1 ?_)) (fun _ _=>trivial) (fun x hs hr=>?_) ?_
       ·rw [hevl] at hr
        obtain ⟨_,W',ms',h1,_,rfl⟩:=hr
        exact ⟨W',ms',rfl,h1⟩
       rintro y hs hr
       rw [hevl] at hr
       obtain ⟨_,W6,ms6,_,rfl,rfl⟩:=hr
       (repeat show _∧_;first|refine yr ?_|refine yt ?_|refine yf ?_|refine yo ?_)
       exact ⟨.a (.c (.bool true)),[[.past W6 ms6]],⟨[0],⟨rfl,rfl,rfl⟩,by (repeat first|exact trivial|refine ent1 ?_)⟩,rfl⟩
     ·(repeat show _∧_;first|refine yr ?_|refine yt ?_|refine yf ?_|refine yo ?_)
      refine And.intro ⟨he5,Nat.le_of_eq (Nat.zero_add _),(show (0+0+1)*16≤140737488355328 by omega)⟩ ?_
      intro e7 he7
      (repeat show _∧_;first|refine yr ?_|refine yt ?_|refine yf ?_|refine yo ?_)
      refine ⟨nthC dcs,.inl rfl,?_⟩
      have hf11:∀ j,j<dcs.length→nthC dcs j=nthC dcs j:=fun _ _=>rfl
      refine ⟨⟨Nat.le_refl _,(show 0+scale 0 (4+1)≤0 by decide),(show (0+0)*80≤140737488355328 by omega)⟩,fun c11 hc11=>?_⟩
      (repeat show _∧_;first|refine yr ?_|refine yt ?_|refine yf ?_|refine yo ?_)
      refine And.intro ⟨hc11,Nat.le_of_eq (Nat.zero_add _),(show (0+0+1)*80≤140737488355328 by omega)⟩ ?_
      intro c14 hc14
      (repeat show _∧_;first|refine yr ?_|refine yt ?_|refine yf ?_|refine yo ?_)
      refine And.intro (show (0:Int)≤2∧(2:Int)<((0+3:Nat):Int) by decide) ?_
      (repeat show _∧_;first|refine yr ?_|refine yt ?_|refine yf ?_|refine yo ?_)
      refine And.intro (show 2*5+5≤scale c7 (4+1) by rw [sc5]; omega) ?_
      (repeat show _∧_;first|refine yr ?_|refine yt ?_|refine yf ?_|refine yo ?_)
      refine call_lendU [6,8,15,18] 0 [] rfl rfl (by (repeat first|exact trivial|refine ent1 ?_)) NoP.nil (fun _ _=>trivial) (fun W9 ms9 α hL9 hI=>⟨[.agg (jvS (JT.mk 6#8 0#64 [] [tNum f.t,tText (evNm f.k),(JT.mk 6#8 0#64 [] ((dataJ f).l++[(JT.mk 3#8 0#64 [] [] [])]) ((dataJ f).ns++[moreB]))] [timeB,nameB,dataB]) ⟨some ((α 8).add (0+0)),3,c7,some ((α 6).add (0+0)),3,c6⟩)],?_,(fn_qevent (d:=0) (v:=(JT.mk 6#8 0#64 [] [tNum f.t,tText (evNm f.k),(JT.mk 6#8 0#64 [] ((dataJ f).l++[(JT.mk 3#8 0#64 [] [] [])]) ((dataJ f).ns++[moreB]))] [timeB,nameB,dataB])) (x:=⟨some ((α 8).add (0+0)),3,c7,some ((α 6).add (0+0)),3,c6⟩) ?_ hsh9).mono (Res':=fun y hs=>y=.tup [.agg (evS ev0 ec0),.c (.int .i64 4)]∧hs.drop 1=[]) (fun x hs hr=>?_)⟩) (fun x hs hr=>by rw [hr.2]; exact NoP.nil) ?_
      ·(repeat first|exact trivial|refine ent1 ?_)
      ·have hD:TAt W9 ms9 1 (JT.mk 6#8 0#64 [] ((dataJ f).l++[(JT.mk 3#8 0#64 [] [] [])]) ((dataJ f).ns++[moreB])) ⟨some ((α 18).add (0+0)),0+0+1,c14,some ((α 15).add (0+0)),0+0+1,e7⟩:=by
        refine ⟨(hdr9.later hL9).frz2 (F:=fun j=>memB j [6,8,15,18]) (fun j hj=>by exact (congrArg (fun y=>(SC.rz (fun j=>memB j [6,8,15,18]) α y).raw) (appJ_cs (cs:=dcs) (new:=flat (jvS (JT.mk 3#8 0#64 [] [] []) jc0)) (n:=0+0) (m:=1) (sz:=4) (by omega) (appJ_cs (cs:=[]) (new:=dcs) (n:=0) (m:=0) (sz:=4) rfl (fun _ h=>absurd h (Nat.not_lt_zero _)) hdcl hf11) rfl (fun j hj=>updJ_new hj) j hj)).trans (rzJ_raw (hdr9.raw _ (nthJ_mem hj)))) (fun hf=>⟨(hI 18 rfl hf).1,fun hm=>(hI 18 rfl hf).2 hm rfl⟩) marks_off (n:=0+0+1) (by rw [List.length_append,hdm]; show 0+1=_; omega) hc14 (by omega),?_⟩
        refine strs_frz (l:=((dataJ f).ns++[moreB]).map U8) (F:=fun j=>memB j [6,8,15,18]) (fun j hj=>?_) (fun hf=>(hI 15 rfl hf).1) (n:=0+0+1) (by rw [List.length_map,List.length_append,hdp]; show 0+1=_; omega) he7 (by omega)
        rw [nmJ_map,nmL_app] at hj ⊢
        exact appJ_cs (cs:=nmJ (dataJ f).ns) (new:=nmJ [moreB]) (n:=0+0) (m:=1) (sz:=0) (by omega) (appJ_cs (cs:=[]) (new:=nmJ (dataJ f).ns) (n:=0) (m:=0) (sz:=0) rfl (fun _ h=>absurd h (Nat.not_lt_zero _)) hdnl hf5) rfl (fun _ _=>rfl) j hj
       have hrow9:RowJ W9 ms9 1 (flat (jvS (tNum f.t) ua)++(flat (jvS (tText (evNm f.k)) ub)++flat (jvS (JT.mk 6#8 0#64 [] ((dataJ f).l++[(JT.mk 3#8 0#64 [] [] [])]) ((dataJ f).ns++[moreB])) ⟨some ((α 18).add (0+0)),0+0+1,c14,some ((α 15).add (0+0)),0+0+1,e7⟩))) [tNum f.t,tText (evNm f.k),(JT.mk 6#8 0#64 [] ((dataJ f).l++[(JT.mk 3#8 0#64 [] [] [])]) ((dataJ f).ns++[moreB]))]:=((RowJ.nil.snoc (wa.later hL9)).snoc (wb.later hL9)).snoc hD
       exact ⟨hrow9.frz2 (F:=fun j=>memB j [6,8,15,18]) (fun j hj=>(by have hj:j<15:=hj; rcases (show j=0∨j=1∨j=2∨j=3∨j=4∨j=5∨j=6∨j=7∨j=8∨j=9∨j=10∨j=11∨j=12∨j=13∨j=14 by omega) with rfl|rfl|rfl|rfl|rfl|rfl|rfl|rfl|rfl|rfl|rfl|rfl|rfl|rfl|rfl <;> rfl)) (fun hf=>⟨(hI 8 rfl hf).1,fun hm=>(hI 8 rfl hf).2 hm rfl⟩) marks_off (n:=3) rfl hc7n (by decide),strs_frz (l:=[timeB,nameB,dataB].map U8) (F:=fun j=>memB j [6,8,15,18]) (fun j hj=>(by have hj:j<3:=hj; rcases (show j=0∨j=1∨j=2 by omega) with rfl|rfl|rfl <;> rfl)) (fun hf=>(hI 6 rfl hf).1) (n:=3) rfl hc6n (by decide)⟩
      ·rw [hev9] at hr
       obtain ⟨_,W',ms',_,rfl,rfl⟩:=hr
       exact ⟨rfl,rfl⟩
      rintro y hs ⟨rfl,hdrop⟩
      rw [hdrop]
      (repeat show _∧_;first|refine yr ?_|refine yt ?_|refine yf ?_|refine yo ?_)
      refine call_past (fn_qevent (d:=0) (v:=.mk 5#8 0#64 [] (evJ f).l (evJ f).ns) (x:=⟨some A,3,xmc,some B,3,xpc⟩) (show TAt W5 ms5 2 (.mk 5#8 0#64 [] (evJ f).l (evJ f).ns) _ from hv5) ⟨Nat.zero_le _,(shrt_ev hck).2⟩) 0 [] rfl rfl (by (repeat first|exact trivial|refine ent1 ?_)) (by (repeat first|exact trivial|refine ent1 ?_)) (fun _ _=>trivial) (fun x hs hr=>?_) ?_
      ·rw [hevl] at hr
       obtain ⟨_,W',ms',h1,_,rfl⟩:=hr
       exact ⟨W',ms',rfl,h1⟩
      rintro y hs hr
      rw [hevl] at hr
      obtain ⟨_,W6,ms6,_,rfl,rfl⟩:=hr
      (repeat show _∧_;first|refine yr ?_|refine yt ?_|refine yf ?_|refine yo ?_)
      exact ⟨.a (.c (.bool true)),[[.past W6 ms6]],⟨[0],⟨rfl,rfl,rfl⟩,by (repeat first|exact trivial|refine ent1 ?_)⟩,rfl⟩
    ·(repeat show _∧_;first|refine yr ?_|refine yt ?_|refine yf ?_|refine yo ?_)
     have hf5:∀ j,j<(nmJ (dataJ f).ns).length→(fun _:Nat=>SC.any) j=nthC (nmJ (dataJ f).ns) j:=fun j hj=>absurd hj (by omega)
     intro e5 he5
     (repeat show _∧_;first|refine yr ?_|refine yt ?_|refine yf ?_|refine yo ?_)
     refine And.intro ⟨he5,Nat.le_of_eq (Nat.zero_add _),(show (0+0+1)*16≤140737488355328 by omega)⟩ ?_
     intro e7 he7
     (repeat show _∧_;first|refine yr ?_|refine yt ?_|refine yf ?_|refine yo ?_)
     refine ⟨nthC dcs,.inl rfl,?_⟩
     have hf11:∀ j,j<dcs.length→nthC dcs j=nthC dcs j:=fun _ _=>rfl
     refine ⟨⟨Nat.le_refl _,(show 0+scale 0 (4+1)≤0 by decide),(show (0+0)*80≤140737488355328 by omega)⟩,fun c11 hc11=>?_⟩
     (repeat show _∧_;first|refine yr ?_|refine yt ?_|refine yf ?_|refine yo ?_)
     refine And.intro ⟨hc11,Nat.le_of_eq (Nat.zero_add _),(show (0+0+1)*80≤140737488355328 by omega)⟩ ?_
     intro c14 hc14
     (repeat show _∧_;first|refine yr ?_|refine yt ?_|refine yf ?_|refine yo ?_)
     refine And.intro (show (0:Int)≤2∧(2:Int)<((0+3:Nat):Int) by decide) ?_
     (repeat show _∧_;first|refine yr ?_|refine yt ?_|refine yf ?_|refine yo ?_)
     refine And.intro (show 2*5+5≤scale c7 (4+1) by rw [sc5]; omega) ?_
     (repeat show _∧_;first|refine yr ?_|refine yt ?_|refine yf ?_|refine yo ?_)
     refine call_lendU [6,8,15,18] 0 [] rfl rfl (by (repeat first|exact trivial|refine ent1 ?_)) NoP.nil (fun _ _=>trivial) (fun W9 ms9 α hL9 hI=>⟨[.agg (jvS (JT.mk 6#8 0#64 [] [tNum f.t,tText (evNm f.k),(JT.mk 6#8 0#64 [] ((dataJ f).l++[(JT.mk 3#8 0#64 [] [] [])]) ((dataJ f).ns++[moreB]))] [timeB,nameB,dataB]) ⟨some ((α 8).add (0+0)),3,c7,some ((α 6).add (0+0)),3,c6⟩)],?_,(fn_qevent (d:=0) (v:=(JT.mk 6#8 0#64 [] [tNum f.t,tText (evNm f.k),(JT.mk 6#8 0#64 [] ((dataJ f).l++[(JT.mk 3#8 0#64 [] [] [])]) ((dataJ f).ns++[moreB]))] [timeB,nameB,dataB])) (x:=⟨some ((α 8).add (0+0)),3,c7,some ((α 6).add (0+0)),3,c6⟩) ?_ hsh9).mono (Res':=fun y hs=>y=.tup [.agg (evS ev0 ec0),.c (.int .i64 4)]∧hs.drop 1=[]) (fun x hs hr=>?_)⟩) (fun x hs hr=>by rw [hr.2]; exact NoP.nil) ?_
     ·(repeat first|exact trivial|refine ent1 ?_)
     ·have hD:TAt W9 ms9 1 (JT.mk 6#8 0#64 [] ((dataJ f).l++[(JT.mk 3#8 0#64 [] [] [])]) ((dataJ f).ns++[moreB])) ⟨some ((α 18).add (0+0)),0+0+1,c14,some ((α 15).add (0+0)),0+0+1,e7⟩:=by
       refine ⟨(hdr9.later hL9).frz2 (F:=fun j=>memB j [6,8,15,18]) (fun j hj=>by exact (congrArg (fun y=>(SC.rz (fun j=>memB j [6,8,15,18]) α y).raw) (appJ_cs (cs:=dcs) (new:=flat (jvS (JT.mk 3#8 0#64 [] [] []) jc0)) (n:=0+0) (m:=1) (sz:=4) (by omega) (appJ_cs (cs:=[]) (new:=dcs) (n:=0) (m:=0) (sz:=4) rfl (fun _ h=>absurd h (Nat.not_lt_zero _)) hdcl hf11) rfl (fun j hj=>updJ_new hj) j hj)).trans (rzJ_raw (hdr9.raw _ (nthJ_mem hj)))) (fun hf=>⟨(hI 18 rfl hf).1,fun hm=>(hI 18 rfl hf).2 hm rfl⟩) marks_off (n:=0+0+1) (by rw [List.length_append,hdm]; show 0+1=_; omega) hc14 (by omega),?_⟩
       refine strs_frz (l:=((dataJ f).ns++[moreB]).map U8) (F:=fun j=>memB j [6,8,15,18]) (fun j hj=>?_) (fun hf=>(hI 15 rfl hf).1) (n:=0+0+1) (by rw [List.length_map,List.length_append,hdp]; show 0+1=_; omega) he7 (by omega)
       rw [nmJ_map,nmL_app] at hj ⊢
       exact appJ_cs (cs:=nmJ (dataJ f).ns) (new:=nmJ [moreB]) (n:=0+0) (m:=1) (sz:=0) (by omega) (appJ_cs (cs:=[]) (new:=nmJ (dataJ f).ns) (n:=0) (m:=0) (sz:=0) rfl (fun _ h=>absurd h (Nat.not_lt_zero _)) hdnl hf5) rfl (fun _ _=>rfl) j hj
      have hrow9:RowJ W9 ms9 1 (flat (jvS (tNum f.t) ua)++(flat (jvS (tText (evNm f.k)) ub)++flat (jvS (JT.mk 6#8 0#64 [] ((dataJ f).l++[(JT.mk 3#8 0#64 [] [] [])]) ((dataJ f).ns++[moreB])) ⟨some ((α 18).add (0+0)),0+0+1,c14,some ((α 15).add (0+0)),0+0+1,e7⟩))) [tNum f.t,tText (evNm f.k),(JT.mk 6#8 0#64 [] ((dataJ f).l++[(JT.mk 3#8 0#64 [] [] [])]) ((dataJ f).ns++[moreB]))]:=((RowJ.nil.snoc (wa.later hL9)).snoc (wb.later hL9)).snoc hD
      exact ⟨hrow9.frz2 (F:=fun j=>memB j [6,8,15,18]) (fun j hj=>(by have hj:j<15:=hj; rcases (show j=0∨j=1∨j=2∨j=3∨j=4∨j=5∨j=6∨j=7∨j=8∨j=9∨j=10∨j=11∨j=12∨j=13∨j=14 by omega) with rfl|rfl|rfl|rfl|rfl|rfl|rfl|rfl|rfl|rfl|rfl|rfl|rfl|rfl|rfl <;> rfl)) (fun hf=>⟨(hI 8 rfl hf).1,fun hm=>(hI 8 rfl hf).2 hm rfl⟩) marks_off (n:=3) rfl hc7n (by decide),strs_frz (l:=[timeB,nameB,dataB].map U8) (F:=fun j=>memB j [6,8,15,18]) (fun j hj=>(by have hj:j<3:=hj; rcases (show j=0∨j=1∨j=2 by omega) with rfl|rfl|rfl <;> rfl)) (fun hf=>(hI 6 rfl hf).1) (n:=3) rfl hc6n (by decide)⟩
     ·rw [hev9] at hr
      obtain ⟨_,W',ms',_,rfl,rfl⟩:=hr
      exact ⟨rfl,rfl⟩
     rintro y hs ⟨rfl,hdrop⟩
     rw [hdrop]
     (repeat show _∧_;first|refine yr ?_|refine yt ?_|refine yf ?_|refine yo ?_)
     refine call_past (fn_qevent (d:=0) (v:=.mk 5#8 0#64 [] (evJ f).l (evJ f).ns) (x:=⟨some A,3,xmc,some B,3,xpc⟩) (show TAt W5 ms5 2 (.mk 5#8 0#64 [] (evJ f).l (evJ f).ns) _ from hv5) ⟨Nat.zero_le _,(shrt_ev hck).2⟩) 0 [] rfl rfl (by (repeat first|exact trivial|refine ent1 ?_)) (by (repeat first|exact trivial|refine ent1 ?_)) (fun _ _=>trivial) (fun x hs hr=>?_) ?_
     ·rw [hevl] at hr
      obtain ⟨_,W',ms',h1,_,rfl⟩:=hr
      exact ⟨W',ms',rfl,h1⟩
     rintro y hs hr
     rw [hevl] at hr
     obtain ⟨_,W6,ms6,_,rfl,rfl⟩:=hr
     (repeat show _∧_;first|refine yr ?_|refine yt ?_|refine yf ?_|refine yo ?_)
     exact ⟨.a (.c (.bool true)),[[.past W6 ms6]],⟨[0],⟨rfl,rfl,rfl⟩,by (repeat first|exact trivial|refine ent1 ?_)⟩,rfl⟩
   ·(repeat show _∧_;first|refine yr ?_|refine yt ?_|refine yf ?_|refine yo ?_)
    have hf5:∀ j,j<(nmJ (dataJ f).ns).length→(fun _:Nat=>SC.any) j=nthC (nmJ (dataJ f).ns) j:=fun j hj=>absurd hj (by omega)
    intro e5 he5
    (repeat show _∧_;first|refine yr ?_|refine yt ?_|refine yf ?_|refine yo ?_)
    refine And.intro ⟨he5,Nat.le_of_eq (Nat.zero_add _),(show (0+0+1)*16≤140737488355328 by omega)⟩ ?_
    intro e7 he7
    (repeat show _∧_;first|refine yr ?_|refine yt ?_|refine yf ?_|refine yo ?_)
    refine ⟨nthC dcs,.inl rfl,?_⟩
    have hf11:∀ j,j<dcs.length→nthC dcs j=nthC dcs j:=fun _ _=>rfl
    refine ⟨⟨Nat.le_refl _,(show 0+scale 0 (4+1)≤0 by decide),(show (0+0)*80≤140737488355328 by omega)⟩,fun c11 hc11=>?_⟩
    (repeat show _∧_;first|refine yr ?_|refine yt ?_|refine yf ?_|refine yo ?_)
    refine And.intro ⟨hc11,Nat.le_of_eq (Nat.zero_add _),(show (0+0+1)*80≤140737488355328 by omega)⟩ ?_
    intro c14 hc14
    (repeat show _∧_;first|refine yr ?_|refine yt ?_|refine yf ?_|refine yo ?_)
    refine And.intro (show (0:Int)≤2∧(2:Int)<((0+3:Nat):Int) by decide) ?_
    (repeat show _∧_;first|refine yr ?_|refine yt ?_|refine yf ?_|refine yo ?_)
    refine And.intro (show 2*5+5≤scale c7 (4+1) by rw [sc5]; omega) ?_
    (repeat show _∧_;first|refine yr ?_|refine yt ?_|refine yf ?_|refine yo ?_)
    refine call_lendU [6,8,15,18] 0 [] rfl rfl (by (repeat first|exact trivial|refine ent1 ?_)) NoP.nil (fun _ _=>trivial) (fun W9 ms9 α hL9 hI=>⟨[.agg (jvS (JT.mk 6#8 0#64 [] [tNum f.t,tText (evNm f.k),(JT.mk 6#8 0#64 [] ((dataJ f).l++[(JT.mk 3#8 0#64 [] [] [])]) ((dataJ f).ns++[moreB]))] [timeB,nameB,dataB]) ⟨some ((α 8).add (0+0)),3,c7,some ((α 6).add (0+0)),3,c6⟩)],?_,(fn_qevent (d:=0) (v:=(JT.mk 6#8 0#64 [] [tNum f.t,tText (evNm f.k),(JT.mk 6#8 0#64 [] ((dataJ f).l++[(JT.mk 3#8 0#64 [] [] [])]) ((dataJ f).ns++[moreB]))] [timeB,nameB,dataB])) (x:=⟨some ((α 8).add (0+0)),3,c7,some ((α 6).add (0+0)),3,c6⟩) ?_ hsh9).mono (Res':=fun y hs=>y=.tup [.agg (evS ev0 ec0),.c (.int .i64 4)]∧hs.drop 1=[]) (fun x hs hr=>?_)⟩) (fun x hs hr=>by rw [hr.2]; exact NoP.nil) ?_
    ·(repeat first|exact trivial|refine ent1 ?_)
    ·have hD:TAt W9 ms9 1 (JT.mk 6#8 0#64 [] ((dataJ f).l++[(JT.mk 3#8 0#64 [] [] [])]) ((dataJ f).ns++[moreB])) ⟨some ((α 18).add (0+0)),0+0+1,c14,some ((α 15).add (0+0)),0+0+1,e7⟩:=by
      refine ⟨(hdr9.later hL9).frz2 (F:=fun j=>memB j [6,8,15,18]) (fun j hj=>by exact (congrArg (fun y=>(SC.rz (fun j=>memB j [6,8,15,18]) α y).raw) (appJ_cs (cs:=dcs) (new:=flat (jvS (JT.mk 3#8 0#64 [] [] []) jc0)) (n:=0+0) (m:=1) (sz:=4) (by omega) (appJ_cs (cs:=[]) (new:=dcs) (n:=0) (m:=0) (sz:=4) rfl (fun _ h=>absurd h (Nat.not_lt_zero _)) hdcl hf11) rfl (fun j hj=>updJ_new hj) j hj)).trans (rzJ_raw (hdr9.raw _ (nthJ_mem hj)))) (fun hf=>⟨(hI 18 rfl hf).1,fun hm=>(hI 18 rfl hf).2 hm rfl⟩) marks_off (n:=0+0+1) (by rw [List.length_append,hdm]; show 0+1=_; omega) hc14 (by omega),?_⟩
      refine strs_frz (l:=((dataJ f).ns++[moreB]).map U8) (F:=fun j=>memB j [6,8,15,18]) (fun j hj=>?_) (fun hf=>(hI 15 rfl hf).1) (n:=0+0+1) (by rw [List.length_map,List.length_append,hdp]; show 0+1=_; omega) he7 (by omega)
      rw [nmJ_map,nmL_app] at hj ⊢
      exact appJ_cs (cs:=nmJ (dataJ f).ns) (new:=nmJ [moreB]) (n:=0+0) (m:=1) (sz:=0) (by omega) (appJ_cs (cs:=[]) (new:=nmJ (dataJ f).ns) (n:=0) (m:=0) (sz:=0) rfl (fun _ h=>absurd h (Nat.not_lt_zero _)) hdnl hf5) rfl (fun _ _=>rfl) j hj
     have hrow9:RowJ W9 ms9 1 (flat (jvS (tNum f.t) ua)++(flat (jvS (tText (evNm f.k)) ub)++flat (jvS (JT.mk 6#8 0#64 [] ((dataJ f).l++[(JT.mk 3#8 0#64 [] [] [])]) ((dataJ f).ns++[moreB])) ⟨some ((α 18).add (0+0)),0+0+1,c14,some ((α 15).add (0+0)),0+0+1,e7⟩))) [tNum f.t,tText (evNm f.k),(JT.mk 6#8 0#64 [] ((dataJ f).l++[(JT.mk 3#8 0#64 [] [] [])]) ((dataJ f).ns++[moreB]))]:=((RowJ.nil.snoc (wa.later hL9)).snoc (wb.later hL9)).snoc hD
     exact ⟨hrow9.frz2 (F:=fun j=>memB j [6,8,15,18]) (fun j hj=>(by have hj:j<15:=hj; rcases (show j=0∨j=1∨j=2∨j=3∨j=4∨j=5∨j=6∨j=7∨j=8∨j=9∨j=10∨j=11∨j=12∨j=13∨j=14 by omega) with rfl|rfl|rfl|rfl|rfl|rfl|rfl|rfl|rfl|rfl|rfl|rfl|rfl|rfl|rfl <;> rfl)) (fun hf=>⟨(hI 8 rfl hf).1,fun hm=>(hI 8 rfl hf).2 hm rfl⟩) marks_off (n:=3) rfl hc7n (by decide),strs_frz (l:=[timeB,nameB,dataB].map U8) (F:=fun j=>memB j [6,8,15,18]) (fun j hj=>(by have hj:j<3:=hj; rcases (show j=0∨j=1∨j=2 by omega) with rfl|rfl|rfl <;> rfl)) (fun hf=>(hI 6 rfl hf).1) (n:=3) rfl hc6n (by decide)⟩
    ·rw [hev9] at hr
     obtain ⟨_,W',ms',_,rfl,rfl⟩:=hr
     exact ⟨rfl,rfl⟩
    rintro y hs ⟨rfl,hdrop⟩
    rw [hdrop]
    (repeat show _∧_;first|refine yr ?_|refine yt ?_|refine yf ?_|refine yo ?_)
    refine call_past (fn_qevent (d:=0) (v:=.mk 5#8 0#64 [] (evJ f).l (evJ f).ns) (x:=⟨some A,3,xmc,some B,3,xpc⟩) (show TAt W5 ms5 2 (.mk 5#8 0#64 [] (evJ f).l (evJ f).ns) _ from hv5) ⟨Nat.zero_le _,(shrt_ev hck).2⟩) 0 [] rfl rfl (by (repeat first|exact trivial|refine ent1 ?_)) (by (repeat first|exact trivial|refine ent1 ?_)) (fun _ _=>trivial) (fun x hs hr=>?_) ?_
    ·rw [hevl] at hr
     obtain ⟨_,W',ms',h1,_,rfl⟩:=hr
     exact ⟨W',ms',rfl,h1⟩
    rintro y hs hr
    rw [hevl] at hr
    obtain ⟨_,W6,ms6,_,rfl,rfl⟩:=hr
    (repeat show _∧_;first|refine yr ?_|refine yt ?_|refine yf ?_|refine yo ?_)
    exact ⟨.a (.c (.bool true)),[[.past W6 ms6]],⟨[0],⟨rfl,rfl,rfl⟩,by (repeat first|exact trivial|refine ent1 ?_)⟩,rfl⟩
 ·rcases da with _|da
  ·obtain rfl:dp=0:=hda rfl
   refine And.intro ?_ ?_
   ·(repeat show _∧_;first|refine yr ?_|refine yt ?_|refine yf ?_|refine yo ?_)
    refine And.intro ?_ ?_
    ·(repeat show _∧_;first|refine yr ?_|refine yt ?_|refine yf ?_|refine yo ?_)
     refine ⟨nthC (nmJ (dataJ f).ns),.inl rfl,?_⟩
     have hf5:∀ j,j<(nmJ (dataJ f).ns).length→nthC (nmJ (dataJ f).ns) j=nthC (nmJ (dataJ f).ns) j:=fun _ _=>rfl
     refine ⟨⟨Nat.le_refl _,(show 0+scale 0 (0+1)≤0 by decide),(show (0+0)*16≤140737488355328 by omega)⟩,fun e5 he5=>?_⟩
     (repeat show _∧_;first|refine yr ?_|refine yt ?_|refine yf ?_|refine yo ?_)
     refine And.intro ?_ ?_
     ·(repeat show _∧_;first|refine yr ?_|refine yt ?_|refine yf ?_|refine yo ?_)
      refine And.intro ?_ ?_
      ·(repeat show _∧_;first|refine yr ?_|refine yt ?_|refine yf ?_|refine yo ?_)
       refine And.intro ⟨he5,Nat.le_of_eq (Nat.zero_add _),(show (0+0+1)*16≤140737488355328 by omega)⟩ ?_
       intro e7 he7
       (repeat show _∧_;first|refine yr ?_|refine yt ?_|refine yf ?_|refine yo ?_)
       refine And.intro ?_ ?_
       ·(repeat show _∧_;first|refine yr ?_|refine yt ?_|refine yf ?_|refine yo ?_)
        refine And.intro ?_ ?_
        ·(repeat show _∧_;first|refine yr ?_|refine yt ?_|refine yf ?_|refine yo ?_)
         have hf11:∀ j,j<dcs.length→(fun _:Nat=>SC.any) j=nthC dcs j:=fun j hj=>absurd hj (by omega)
         intro c11 hc11
         (repeat show _∧_;first|refine yr ?_|refine yt ?_|refine yf ?_|refine yo ?_)
         refine And.intro ⟨hc11,Nat.le_of_eq (Nat.zero_add _),(show (0+0+1)*80≤140737488355328 by omega)⟩ ?_
         intro c14 hc14
         (repeat show _∧_;first|refine yr ?_|refine yt ?_|refine yf ?_|refine yo ?_)
         refine And.intro (show (0:Int)≤2∧(2:Int)<((0+3:Nat):Int) by decide) ?_
         (repeat show _∧_;first|refine yr ?_|refine yt ?_|refine yf ?_|refine yo ?_)
         refine And.intro (show 2*5+5≤scale c7 (4+1) by rw [sc5]; omega) ?_
         (repeat show _∧_;first|refine yr ?_|refine yt ?_|refine yf ?_|refine yo ?_)
         refine call_lendU [6,8,14,18] 0 [] rfl rfl (by (repeat first|exact trivial|refine ent1 ?_)) NoP.nil (fun _ _=>trivial) (fun W9 ms9 α hL9 hI=>⟨[.agg (jvS (JT.mk 6#8 0#64 [] [tNum f.t,tText (evNm f.k),(JT.mk 6#8 0#64 [] ((dataJ f).l++[(JT.mk 3#8 0#64 [] [] [])]) ((dataJ f).ns++[moreB]))] [timeB,nameB,dataB]) ⟨some ((α 8).add (0+0)),3,c7,some ((α 6).add (0+0)),3,c6⟩)],?_,(fn_qevent (d:=0) (v:=(JT.mk 6#8 0#64 [] [tNum f.t,tText (evNm f.k),(JT.mk 6#8 0#64 [] ((dataJ f).l++[(JT.mk 3#8 0#64 [] [] [])]) ((dataJ f).ns++[moreB]))] [timeB,nameB,dataB])) (x:=⟨some ((α 8).add (0+0)),3,c7,some ((α 6).add (0+0)),3,c6⟩) ?_ hsh9).mono (Res':=fun y hs=>y=.tup [.agg (evS ev0 ec0),.c (.int .i64 4)]∧hs.drop 1=[]) (fun x hs hr=>?_)⟩) (fun x hs hr=>by rw [hr.2]; exact NoP.nil) ?_
         ·(repeat first|exact trivial|refine ent1 ?_)
         ·have hD:TAt W9 ms9 1 (JT.mk 6#8 0#64 [] ((dataJ f).l++[(JT.mk 3#8 0#64 [] [] [])]) ((dataJ f).ns++[moreB])) ⟨some ((α 18).add (0+0)),0+0+1,c14,some ((α 14).add (0+0)),0+0+1,e7⟩:=by
           refine ⟨(hdr9.later hL9).frz2 (F:=fun j=>memB j [6,8,14,18]) (fun j hj=>by exact (congrArg (fun y=>(SC.rz (fun j=>memB j [6,8,14,18]) α y).raw) (appJ_cs (cs:=dcs) (new:=flat (jvS (JT.mk 3#8 0#64 [] [] []) jc0)) (n:=0+0) (m:=1) (sz:=4) (by omega) (appJ_cs (cs:=[]) (new:=dcs) (n:=0) (m:=0) (sz:=4) rfl (fun _ h=>absurd h (Nat.not_lt_zero _)) hdcl hf11) rfl (fun j hj=>updJ_new hj) j hj)).trans (rzJ_raw (hdr9.raw _ (nthJ_mem hj)))) (fun hf=>⟨(hI 18 rfl hf).1,fun hm=>(hI 18 rfl hf).2 hm rfl⟩) marks_off (n:=0+0+1) (by rw [List.length_append,hdm]; show 0+1=_; omega) hc14 (by omega),?_⟩
           refine strs_frz (l:=((dataJ f).ns++[moreB]).map U8) (F:=fun j=>memB j [6,8,14,18]) (fun j hj=>?_) (fun hf=>(hI 14 rfl hf).1) (n:=0+0+1) (by rw [List.length_map,List.length_append,hdp]; show 0+1=_; omega) he7 (by omega)
           rw [nmJ_map,nmL_app] at hj ⊢
           exact appJ_cs (cs:=nmJ (dataJ f).ns) (new:=nmJ [moreB]) (n:=0+0) (m:=1) (sz:=0) (by omega) (appJ_cs (cs:=[]) (new:=nmJ (dataJ f).ns) (n:=0) (m:=0) (sz:=0) rfl (fun _ h=>absurd h (Nat.not_lt_zero _)) hdnl hf5) rfl (fun _ _=>rfl) j hj
          have hrow9:RowJ W9 ms9 1 (flat (jvS (tNum f.t) ua)++(flat (jvS (tText (evNm f.k)) ub)++flat (jvS (JT.mk 6#8 0#64 [] ((dataJ f).l++[(JT.mk 3#8 0#64 [] [] [])]) ((dataJ f).ns++[moreB])) ⟨some ((α 18).add (0+0)),0+0+1,c14,some ((α 14).add (0+0)),0+0+1,e7⟩))) [tNum f.t,tText (evNm f.k),(JT.mk 6#8 0#64 [] ((dataJ f).l++[(JT.mk 3#8 0#64 [] [] [])]) ((dataJ f).ns++[moreB]))]:=((RowJ.nil.snoc (wa.later hL9)).snoc (wb.later hL9)).snoc hD
          exact ⟨hrow9.frz2 (F:=fun j=>memB j [6,8,14,18]) (fun j hj=>(by have hj:j<15:=hj; rcases (show j=0∨j=1∨j=2∨j=3∨j=4∨j=5∨j=6∨j=7∨j=8∨j=9∨j=10∨j=11∨j=12∨j=13∨j=14 by omega) with rfl|rfl|rfl|rfl|rfl|rfl|rfl|rfl|rfl|rfl|rfl|rfl|rfl|rfl|rfl <;> rfl)) (fun hf=>⟨(hI 8 rfl hf).1,fun hm=>(hI 8 rfl hf).2 hm rfl⟩) marks_off (n:=3) rfl hc7n (by decide),strs_frz (l:=[timeB,nameB,dataB].map U8) (F:=fun j=>memB j [6,8,14,18]) (fun j hj=>(by have hj:j<3:=hj; rcases (show j=0∨j=1∨j=2 by omega) with rfl|rfl|rfl <;> rfl)) (fun hf=>(hI 6 rfl hf).1) (n:=3) rfl hc6n (by decide)⟩
         ·rw [hev9] at hr
          obtain ⟨_,W',ms',_,rfl,rfl⟩:=hr
          exact ⟨rfl,rfl⟩
         rintro y hs ⟨rfl,hdrop⟩
         rw [hdrop]
         (repeat show _∧_;first|refine yr ?_|refine yt ?_|refine yf ?_|refine yo ?_)
         refine call_past (fn_qevent (d:=0) (v:=.mk 5#8 0#64 [] (evJ f).l (evJ f).ns) (x:=⟨some A,3,xmc,some B,3,xpc⟩) (show TAt W5 ms5 2 (.mk 5#8 0#64 [] (evJ f).l (evJ f).ns) _ from hv5) ⟨Nat.zero_le _,(shrt_ev hck).2⟩) 0 [] rfl rfl (by (repeat first|exact trivial|refine ent1 ?_)) (by (repeat first|exact trivial|refine ent1 ?_)) (fun _ _=>trivial) (fun x hs hr=>?_) ?_
         ·rw [hevl] at hr
          obtain ⟨_,W',ms',h1,_,rfl⟩:=hr
          exact ⟨W',ms',rfl,h1⟩
         rintro y hs hr
         rw [hevl] at hr
         obtain ⟨_,W6,ms6,_,rfl,rfl⟩:=hr
         (repeat show _∧_;first|refine yr ?_|refine yt ?_|refine yf ?_|refine yo ?_)
         exact ⟨.a (.c (.bool true)),[[.past W6 ms6]],⟨[0],⟨rfl,rfl,rfl⟩,by (repeat first|exact trivial|refine ent1 ?_)⟩,rfl⟩
        ·(repeat show _∧_;first|refine yr ?_|refine yt ?_|refine yf ?_|refine yo ?_)
         have hf11:∀ j,j<dcs.length→(fun _:Nat=>SC.any) j=nthC dcs j:=fun j hj=>absurd hj (by omega)
         intro c11 hc11
         (repeat show _∧_;first|refine yr ?_|refine yt ?_|refine yf ?_|refine yo ?_)
         refine And.intro ⟨hc11,Nat.le_of_eq (Nat.zero_add _),(show (0+0+1)*80≤140737488355328 by omega)⟩ ?_
         intro c14 hc14
         (repeat show _∧_;first|refine yr ?_|refine yt ?_|refine yf ?_|refine yo ?_)
         refine And.intro (show (0:Int)≤2∧(2:Int)<((0+3:Nat):Int) by decide) ?_
         (repeat show _∧_;first|refine yr ?_|refine yt ?_|refine yf ?_|refine yo ?_)
         refine And.intro (show 2*5+5≤scale c7 (4+1) by rw [sc5]; omega) ?_
         (repeat show _∧_;first|refine yr ?_|refine yt ?_|refine yf ?_|refine yo ?_)
         refine call_lendU [6,8,14,18] 0 [] rfl rfl (by (repeat first|exact trivial|refine ent1 ?_)) NoP.nil (fun _ _=>trivial) (fun W9 ms9 α hL9 hI=>⟨[.agg (jvS (JT.mk 6#8 0#64 [] [tNum f.t,tText (evNm f.k),(JT.mk 6#8 0#64 [] ((dataJ f).l++[(JT.mk 3#8 0#64 [] [] [])]) ((dataJ f).ns++[moreB]))] [timeB,nameB,dataB]) ⟨some ((α 8).add (0+0)),3,c7,some ((α 6).add (0+0)),3,c6⟩)],?_,(fn_qevent (d:=0) (v:=(JT.mk 6#8 0#64 [] [tNum f.t,tText (evNm f.k),(JT.mk 6#8 0#64 [] ((dataJ f).l++[(JT.mk 3#8 0#64 [] [] [])]) ((dataJ f).ns++[moreB]))] [timeB,nameB,dataB])) (x:=⟨some ((α 8).add (0+0)),3,c7,some ((α 6).add (0+0)),3,c6⟩) ?_ hsh9).mono (Res':=fun y hs=>y=.tup [.agg (evS ev0 ec0),.c (.int .i64 4)]∧hs.drop 1=[]) (fun x hs hr=>?_)⟩) (fun x hs hr=>by rw [hr.2]; exact NoP.nil) ?_
         ·(repeat first|exact trivial|refine ent1 ?_)
         ·have hD:TAt W9 ms9 1 (JT.mk 6#8 0#64 [] ((dataJ f).l++[(JT.mk 3#8 0#64 [] [] [])]) ((dataJ f).ns++[moreB])) ⟨some ((α 18).add (0+0)),0+0+1,c14,some ((α 14).add (0+0)),0+0+1,e7⟩:=by
           refine ⟨(hdr9.later hL9).frz2 (F:=fun j=>memB j [6,8,14,18]) (fun j hj=>by exact (congrArg (fun y=>(SC.rz (fun j=>memB j [6,8,14,18]) α y).raw) (appJ_cs (cs:=dcs) (new:=flat (jvS (JT.mk 3#8 0#64 [] [] []) jc0)) (n:=0+0) (m:=1) (sz:=4) (by omega) (appJ_cs (cs:=[]) (new:=dcs) (n:=0) (m:=0) (sz:=4) rfl (fun _ h=>absurd h (Nat.not_lt_zero _)) hdcl hf11) rfl (fun j hj=>updJ_new hj) j hj)).trans (rzJ_raw (hdr9.raw _ (nthJ_mem hj)))) (fun hf=>⟨(hI 18 rfl hf).1,fun hm=>(hI 18 rfl hf).2 hm rfl⟩) marks_off (n:=0+0+1) (by rw [List.length_append,hdm]; show 0+1=_; omega) hc14 (by omega),?_⟩
           refine strs_frz (l:=((dataJ f).ns++[moreB]).map U8) (F:=fun j=>memB j [6,8,14,18]) (fun j hj=>?_) (fun hf=>(hI 14 rfl hf).1) (n:=0+0+1) (by rw [List.length_map,List.length_append,hdp]; show 0+1=_; omega) he7 (by omega)
           rw [nmJ_map,nmL_app] at hj ⊢
           exact appJ_cs (cs:=nmJ (dataJ f).ns) (new:=nmJ [moreB]) (n:=0+0) (m:=1) (sz:=0) (by omega) (appJ_cs (cs:=[]) (new:=nmJ (dataJ f).ns) (n:=0) (m:=0) (sz:=0) rfl (fun _ h=>absurd h (Nat.not_lt_zero _)) hdnl hf5) rfl (fun _ _=>rfl) j hj
          have hrow9:RowJ W9 ms9 1 (flat (jvS (tNum f.t) ua)++(flat (jvS (tText (evNm f.k)) ub)++flat (jvS (JT.mk 6#8 0#64 [] ((dataJ f).l++[(JT.mk 3#8 0#64 [] [] [])]) ((dataJ f).ns++[moreB])) ⟨some ((α 18).add (0+0)),0+0+1,c14,some ((α 14).add (0+0)),0+0+1,e7⟩))) [tNum f.t,tText (evNm f.k),(JT.mk 6#8 0#64 [] ((dataJ f).l++[(JT.mk 3#8 0#64 [] [] [])]) ((dataJ f).ns++[moreB]))]:=((RowJ.nil.snoc (wa.later hL9)).snoc (wb.later hL9)).snoc hD
          exact ⟨hrow9.frz2 (F:=fun j=>memB j [6,8,14,18]) (fun j hj=>(by have hj:j<15:=hj; rcases (show j=0∨j=1∨j=2∨j=3∨j=4∨j=5∨j=6∨j=7∨j=8∨j=9∨j=10∨j=11∨j=12∨j=13∨j=14 by omega) with rfl|rfl|rfl|rfl|rfl|rfl|rfl|rfl|rfl|rfl|rfl|rfl|rfl|rfl|rfl <;> rfl)) (fun hf=>⟨(hI 8 rfl hf).1,fun hm=>(hI 8 rfl hf).2 hm rfl⟩) marks_off (n:=3) rfl hc7n (by decide),strs_frz (l:=[timeB,nameB,dataB].map U8) (F:=fun j=>memB j [6,8,14,18]) (fun j hj=>(by have hj:j<3:=hj; rcases (show j=0∨j=1∨j=2 by omega) with rfl|rfl|rfl <;> rfl)) (fun hf=>(hI 6 rfl hf).1) (n:=3) rfl hc6n (by decide)⟩
         ·rw [hev9] at hr
          obtain ⟨_,W',ms',_,rfl,rfl⟩:=hr
          exact ⟨rfl,rfl⟩
         rintro y hs ⟨rfl,hdrop⟩
         rw [hdrop]
         (repeat show _∧_;first|refine yr ?_|refine yt ?_|refine yf ?_|refine yo ?_)
         refine call_past (fn_qevent (d:=0) (v:=.mk 5#8 0#64 [] (evJ f).l (evJ f).ns) (x:=⟨some A,3,xmc,some B,3,xpc⟩) (show TAt W5 ms5 2 (.mk 5#8 0#64 [] (evJ f).l (evJ f).ns) _ from hv5) ⟨Nat.zero_le _,(shrt_ev hck).2⟩) 0 [] rfl rfl (by (repeat first|exact trivial|refine ent1 ?_)) (by (repeat first|exact trivial|refine ent1 ?_)) (fun _ _=>trivial) (fun x hs hr=>?_) ?_
         ·rw [hevl] at hr
          obtain ⟨_,W',ms',h1,_,rfl⟩:=hr
          exact ⟨W',ms',rfl,h1⟩
         rintro y hs hr
         rw [hevl] at hr
         obtain ⟨_,W6,ms6,_,rfl,rfl⟩:=hr
         (repeat show _∧_;first|refine yr ?_|refine yt ?_|refine yf ?_|refine yo ?_)
         exact ⟨.a (.c (.bool true)),[[.past W6 ms6]],⟨[0],⟨rfl,rfl,rfl⟩,by (repeat first|exact trivial|refine ent1 ?_)⟩,rfl⟩
       ·(repeat show _∧_;first|refine yr ?_|refine yt ?_|refine yf ?_|refine yo ?_)
        have hf11:∀ j,j<dcs.length→(fun _:Nat=>SC.any) j=nthC dcs j:=fun j hj=>absurd hj (by omega)
        intro c11 hc11
        (repeat show _∧_;first|refine yr ?_|refine yt ?_|refine yf ?_|refine yo ?_)
        refine And.intro ⟨hc11,Nat.le_of_eq (Nat.zero_add _),(show (0+0+1)*80≤140737488355328 by omega)⟩ ?_
        intro c14 hc14
        (repeat show _∧_;first|refine yr ?_|refine yt ?_|refine yf ?_|refine yo ?_)
        refine And.intro (show (0:Int)≤2∧(2:Int)<((0+3:Nat):Int) by decide) ?_
        (repeat show _∧_;first|refine yr ?_|refine yt ?_|refine yf ?_|refine yo ?_)
        refine And.intro (show 2*5+5≤scale c7 (4+1) by rw [sc5]; omega) ?_
        (repeat show _∧_;first|refine yr ?_|refine yt ?_|refine yf ?_|refine yo ?_)
        refine call_lendU [6,8,14,18] 0 [] rfl rfl (by (repeat first|exact trivial|refine ent1 ?_)) NoP.nil (fun _ _=>trivial) (fun W9 ms9 α hL9 hI=>⟨[.agg (jvS (JT.mk 6#8 0#64 [] [tNum f.t,tText (evNm f.k),(JT.mk 6#8 0#64 [] ((dataJ f).l++[(JT.mk 3#8 0#64 [] [] [])]) ((dataJ f).ns++[moreB]))] [timeB,nameB,dataB]) ⟨some ((α 8).add (0+0)),3,c7,some ((α 6).add (0+0)),3,c6⟩)],?_,(fn_qevent (d:=0) (v:=(JT.mk 6#8 0#64 [] [tNum f.t,tText (evNm f.k),(JT.mk 6#8 0#64 [] ((dataJ f).l++[(JT.mk 3#8 0#64 [] [] [])]) ((dataJ f).ns++[moreB]))] [timeB,nameB,dataB])) (x:=⟨some ((α 8).add (0+0)),3,c7,some ((α 6).add (0+0)),3,c6⟩) ?_ hsh9).mono (Res':=fun y hs=>y=.tup [.agg (evS ev0 ec0),.c (.int .i64 4)]∧hs.drop 1=[]) (fun x hs hr=>?_)⟩) (fun x hs hr=>by rw [hr.2]; exact NoP.nil) ?_
        ·(repeat first|exact trivial|refine ent1 ?_)
        ·have hD:TAt W9 ms9 1 (JT.mk 6#8 0#64 [] ((dataJ f).l++[(JT.mk 3#8 0#64 [] [] [])]) ((dataJ f).ns++[moreB])) ⟨some ((α 18).add (0+0)),0+0+1,c14,some ((α 14).add (0+0)),0+0+1,e7⟩:=by
          refine ⟨(hdr9.later hL9).frz2 (F:=fun j=>memB j [6,8,14,18]) (fun j hj=>by exact (congrArg (fun y=>(SC.rz (fun j=>memB j [6,8,14,18]) α y).raw) (appJ_cs (cs:=dcs) (new:=flat (jvS (JT.mk 3#8 0#64 [] [] []) jc0)) (n:=0+0) (m:=1) (sz:=4) (by omega) (appJ_cs (cs:=[]) (new:=dcs) (n:=0) (m:=0) (sz:=4) rfl (fun _ h=>absurd h (Nat.not_lt_zero _)) hdcl hf11) rfl (fun j hj=>updJ_new hj) j hj)).trans (rzJ_raw (hdr9.raw _ (nthJ_mem hj)))) (fun hf=>⟨(hI 18 rfl hf).1,fun hm=>(hI 18 rfl hf).2 hm rfl⟩) marks_off (n:=0+0+1) (by rw [List.length_append,hdm]; show 0+1=_; omega) hc14 (by omega),?_⟩
          refine strs_frz (l:=((dataJ f).ns++[moreB]).map U8) (F:=fun j=>memB j [6,8,14,18]) (fun j hj=>?_) (fun hf=>(hI 14 rfl hf).1) (n:=0+0+1) (by rw [List.length_map,List.length_append,hdp]; show 0+1=_; omega) he7 (by omega)
          rw [nmJ_map,nmL_app] at hj ⊢
          exact appJ_cs (cs:=nmJ (dataJ f).ns) (new:=nmJ [moreB]) (n:=0+0) (m:=1) (sz:=0) (by omega) (appJ_cs (cs:=[]) (new:=nmJ (dataJ f).ns) (n:=0) (m:=0) (sz:=0) rfl (fun _ h=>absurd h (Nat.not_lt_zero _)) hdnl hf5) rfl (fun _ _=>rfl) j hj
         have hrow9:RowJ W9 ms9 1 (flat (jvS (tNum f.t) ua)++(flat (jvS (tText (evNm f.k)) ub)++flat (jvS (JT.mk 6#8 0#64 [] ((dataJ f).l++[(JT.mk 3#8 0#64 [] [] [])]) ((dataJ f).ns++[moreB])) ⟨some ((α 18).add (0+0)),0+0+1,c14,some ((α 14).add (0+0)),0+0+1,e7⟩))) [tNum f.t,tText (evNm f.k),(JT.mk 6#8 0#64 [] ((dataJ f).l++[(JT.mk 3#8 0#64 [] [] [])]) ((dataJ f).ns++[moreB]))]:=((RowJ.nil.snoc (wa.later hL9)).snoc (wb.later hL9)).snoc hD
         exact ⟨hrow9.frz2 (F:=fun j=>memB j [6,8,14,18]) (fun j hj=>(by have hj:j<15:=hj; rcases (show j=0∨j=1∨j=2∨j=3∨j=4∨j=5∨j=6∨j=7∨j=8∨j=9∨j=10∨j=11∨j=12∨j=13∨j=14 by omega) with rfl|rfl|rfl|rfl|rfl|rfl|rfl|rfl|rfl|rfl|rfl|rfl|rfl|rfl|rfl <;> rfl)) (fun hf=>⟨(hI 8 rfl hf).1,fun hm=>(hI 8 rfl hf).2 hm rfl⟩) marks_off (n:=3) rfl hc7n (by decide),strs_frz (l:=[timeB,nameB,dataB].map U8) (F:=fun j=>memB j [6,8,14,18]) (fun j hj=>(by have hj:j<3:=hj; rcases (show j=0∨j=1∨j=2 by omega) with rfl|rfl|rfl <;> rfl)) (fun hf=>(hI 6 rfl hf).1) (n:=3) rfl hc6n (by decide)⟩
        ·rw [hev9] at hr
         obtain ⟨_,W',ms',_,rfl,rfl⟩:=hr
         exact ⟨rfl,rfl⟩
        rintro y hs ⟨rfl,hdrop⟩
        rw [hdrop]
        (repeat show _∧_;first|refine yr ?_|refine yt ?_|refine yf ?_|refine yo ?_)
        refine call_past (fn_qevent (d:=0) (v:=.mk 5#8 0#64 [] (evJ f).l (evJ f).ns) (x:=⟨some A,3,xmc,some B,3,xpc⟩) (show TAt W5 ms5 2 (.mk 5#8 0#64 [] (evJ f).l (evJ f).ns) _ from hv5) ⟨Nat.zero_le _,(shrt_ev hck).2⟩) 0 [] rfl rfl (by (repeat first|exact trivial|refine ent1 ?_)) (by (repeat first|exact trivial|refine ent1 ?_)) (fun _ _=>trivial) (fun x hs hr=>?_) ?_
        ·rw [hevl] at hr
         obtain ⟨_,W',ms',h1,_,rfl⟩:=hr
         exact ⟨W',ms',rfl,h1⟩
        rintro y hs hr
        rw [hevl] at hr
        obtain ⟨_,W6,ms6,_,rfl,rfl⟩:=hr
        (repeat show _∧_;first|refine yr ?_|refine yt ?_|refine yf ?_|refine yo ?_)
        exact ⟨.a (.c (.bool true)),[[.past W6 ms6]],⟨[0],⟨rfl,rfl,rfl⟩,by (repeat first|exact trivial|refine ent1 ?_)⟩,rfl⟩
      ·(repeat show _∧_;first|refine yr ?_|refine yt ?_|refine yf ?_|refine yo ?_)
       refine And.intro ⟨he5,Nat.le_of_eq (Nat.zero_add _),(show (0+0+1)*16≤140737488355328 by omega)⟩ ?_
       intro e7 he7
       (repeat show _∧_;first|refine yr ?_|refine yt ?_|refine yf ?_|refine yo ?_)
       have hf11:∀ j,j<dcs.length→(fun _:Nat=>SC.any) j=nthC dcs j:=fun j hj=>absurd hj (by omega)
       intro c11 hc11
       (repeat show _∧_;first|refine yr ?_|refine yt ?_|refine yf ?_|refine yo ?_)
       refine And.intro ⟨hc11,Nat.le_of_eq (Nat.zero_add _),(show (0+0+1)*80≤140737488355328 by omega)⟩ ?_
       intro c14 hc14
       (repeat show _∧_;first|refine yr ?_|refine yt ?_|refine yf ?_|refine yo ?_)
       refine And.intro (show (0:Int)≤2∧(2:Int)<((0+3:Nat):Int) by decide) ?_
       (repeat show _∧_;first|refine yr ?_|refine yt ?_|refine yf ?_|refine yo ?_)
       refine And.intro (show 2*5+5≤scale c7 (4+1) by rw [sc5]; omega) ?_
       (repeat show _∧_;first|refine yr ?_|refine yt ?_|refine yf ?_|refine yo ?_)
       refine call_lendU [6,8,15,18] 0 [] rfl rfl (by (repeat first|exact trivial|refine ent1 ?_)) NoP.nil (fun _ _=>trivial) (fun W9 ms9 α hL9 hI=>⟨[.agg (jvS (JT.mk 6#8 0#64 [] [tNum f.t,tText (evNm f.k),(JT.mk 6#8 0#64 [] ((dataJ f).l++[(JT.mk 3#8 0#64 [] [] [])]) ((dataJ f).ns++[moreB]))] [timeB,nameB,dataB]) ⟨some ((α 8).add (0+0)),3,c7,some ((α 6).add (0+0)),3,c6⟩)],?_,(fn_qevent (d:=0) (v:=(JT.mk 6#8 0#64 [] [tNum f.t,tText (evNm f.k),(JT.mk 6#8 0#64 [] ((dataJ f).l++[(JT.mk 3#8 0#64 [] [] [])]) ((dataJ f).ns++[moreB]))] [timeB,nameB,dataB])) (x:=⟨some ((α 8).add (0+0)),3,c7,some ((α 6).add (0+0)),3,c6⟩) ?_ hsh9).mono (Res':=fun y hs=>y=.tup [.agg (evS ev0 ec0),.c (.int .i64 4)]∧hs.drop 1=[]) (fun x hs hr=>?_)⟩) (fun x hs hr=>by rw [hr.2]; exact NoP.nil) ?_
       ·(repeat first|exact trivial|refine ent1 ?_)
       ·have hD:TAt W9 ms9 1 (JT.mk 6#8 0#64 [] ((dataJ f).l++[(JT.mk 3#8 0#64 [] [] [])]) ((dataJ f).ns++[moreB])) ⟨some ((α 18).add (0+0)),0+0+1,c14,some ((α 15).add (0+0)),0+0+1,e7⟩:=by
         refine ⟨(hdr9.later hL9).frz2 (F:=fun j=>memB j [6,8,15,18]) (fun j hj=>by exact (congrArg (fun y=>(SC.rz (fun j=>memB j [6,8,15,18]) α y).raw) (appJ_cs (cs:=dcs) (new:=flat (jvS (JT.mk 3#8 0#64 [] [] []) jc0)) (n:=0+0) (m:=1) (sz:=4) (by omega) (appJ_cs (cs:=[]) (new:=dcs) (n:=0) (m:=0) (sz:=4) rfl (fun _ h=>absurd h (Nat.not_lt_zero _)) hdcl hf11) rfl (fun j hj=>updJ_new hj) j hj)).trans (rzJ_raw (hdr9.raw _ (nthJ_mem hj)))) (fun hf=>⟨(hI 18 rfl hf).1,fun hm=>(hI 18 rfl hf).2 hm rfl⟩) marks_off (n:=0+0+1) (by rw [List.length_append,hdm]; show 0+1=_; omega) hc14 (by omega),?_⟩
         refine strs_frz (l:=((dataJ f).ns++[moreB]).map U8) (F:=fun j=>memB j [6,8,15,18]) (fun j hj=>?_) (fun hf=>(hI 15 rfl hf).1) (n:=0+0+1) (by rw [List.length_map,List.length_append,hdp]; show 0+1=_; omega) he7 (by omega)
         rw [nmJ_map,nmL_app] at hj ⊢
         exact appJ_cs (cs:=nmJ (dataJ f).ns) (new:=nmJ [moreB]) (n:=0+0) (m:=1) (sz:=0) (by omega) (appJ_cs (cs:=[]) (new:=nmJ (dataJ f).ns) (n:=0) (m:=0) (sz:=0) rfl (fun _ h=>absurd h (Nat.not_lt_zero _)) hdnl hf5) rfl (fun _ _=>rfl) j hj
        have hrow9:RowJ W9 ms9 1 (flat (jvS (tNum f.t) ua)++(flat (jvS (tText (evNm f.k)) ub)++flat (jvS (JT.mk 6#8 0#64 [] ((dataJ f).l++[(JT.mk 3#8 0#64 [] [] [])]) ((dataJ f).ns++[moreB])) ⟨some ((α 18).add (0+0)),0+0+1,c14,some ((α 15).add (0+0)),0+0+1,e7⟩))) [tNum f.t,tText (evNm f.k),(JT.mk 6#8 0#64 [] ((dataJ f).l++[(JT.mk 3#8 0#64 [] [] [])]) ((dataJ f).ns++[moreB]))]:=((RowJ.nil.snoc (wa.later hL9)).snoc (wb.later hL9)).snoc hD
        exact ⟨hrow9.frz2 (F:=fun j=>memB j [6,8,15,18]) (fun j hj=>(by have hj:j<15:=hj; rcases (show j=0∨j=1∨j=2∨j=3∨j=4∨j=5∨j=6∨j=7∨j=8∨j=9∨j=10∨j=11∨j=12∨j=13∨j=14 by omega) with rfl|rfl|rfl|rfl|rfl|rfl|rfl|rfl|rfl|rfl|rfl|rfl|rfl|rfl|rfl <;> rfl)) (fun hf=>⟨(hI 8 rfl hf).1,fun hm=>(hI 8 rfl hf).2 hm rfl⟩) marks_off (n:=3) rfl hc7n (by decide),strs_frz (l:=[timeB,nameB,dataB].map U8) (F:=fun j=>memB j [6,8,15,18]) (fun j hj=>(by have hj:j<3:=hj; rcases (show j=0∨j=1∨j=2 by omega) with rfl|rfl|rfl <;> rfl)) (fun hf=>(hI 6 rfl hf).1) (n:=3) rfl hc6n (by decide)⟩
       ·rw [hev9] at hr
        obtain ⟨_,W',ms',_,rfl,rfl⟩:=hr
        exact ⟨rfl,rfl⟩
       rintro y hs ⟨rfl,hdrop⟩
       rw [hdrop]
       (repeat show _∧_;first|refine yr ?_|refine yt ?_|refine yf ?_|refine yo ?_)
       refine call_past (fn_qevent (d:=0) (v:=.mk 5#8 0#64 [] (evJ f).l (evJ f).ns) (x:=⟨some A,3,xmc,some B,3,xpc⟩) (show TAt W5 ms5 2 (.mk 5#8 0#64 [] (evJ f).l (evJ f).ns) _ from hv5) ⟨Nat.zero_le _,(shrt_ev hck).2⟩) 0 [] rfl rfl (by (repeat first|exact trivial|refine ent1 ?_)) (by (repeat first|exact trivial|refine ent1 ?_)) (fun _ _=>trivial) (fun x hs hr=>?_) ?_
       ·rw [hevl] at hr
        obtain ⟨_,W',ms',h1,_,rfl⟩:=hr
        exact ⟨W',ms',rfl,h1⟩
       rintro y hs hr
       rw [hevl] at hr
       obtain ⟨_,W6,ms6,_,rfl,rfl⟩:=hr
       (repeat show _∧_;first|refine yr ?_|refine yt ?_|refine yf ?_|refine yo ?_)
       exact ⟨.a (.c (.bool true)),[[.past W6 ms6]],⟨[0],⟨rfl,rfl,rfl⟩,by (repeat first|exact trivial|refine ent1 ?_)⟩,rfl⟩
     ·(repeat show _∧_;first|refine yr ?_|refine yt ?_|refine yf ?_|refine yo ?_)
      refine And.intro ⟨he5,Nat.le_of_eq (Nat.zero_add _),(show (0+0+1)*16≤140737488355328 by omega)⟩ ?_
      intro e7 he7
      (repeat show _∧_;first|refine yr ?_|refine yt ?_|refine yf ?_|refine yo ?_)
      have hf11:∀ j,j<dcs.length→(fun _:Nat=>SC.any) j=nthC dcs j:=fun j hj=>absurd hj (by omega)
      intro c11 hc11
      (repeat show _∧_;first|refine yr ?_|refine yt ?_|refine yf ?_|refine yo ?_)
      refine And.intro ⟨hc11,Nat.le_of_eq (Nat.zero_add _),(show (0+0+1)*80≤140737488355328 by omega)⟩ ?_
      intro c14 hc14
      (repeat show _∧_;first|refine yr ?_|refine yt ?_|refine yf ?_|refine yo ?_)
      refine And.intro (show (0:Int)≤2∧(2:Int)<((0+3:Nat):Int) by decide) ?_
      (repeat show _∧_;first|refine yr ?_|refine yt ?_|refine yf ?_|refine yo ?_)
      refine And.intro (show 2*5+5≤scale c7 (4+1) by rw [sc5]; omega) ?_
      (repeat show _∧_;first|refine yr ?_|refine yt ?_|refine yf ?_|refine yo ?_)
      refine call_lendU [6,8,15,18] 0 [] rfl rfl (by (repeat first|exact trivial|refine ent1 ?_)) NoP.nil (fun _ _=>trivial) (fun W9 ms9 α hL9 hI=>⟨[.agg (jvS (JT.mk 6#8 0#64 [] [tNum f.t,tText (evNm f.k),(JT.mk 6#8 0#64 [] ((dataJ f).l++[(JT.mk 3#8 0#64 [] [] [])]) ((dataJ f).ns++[moreB]))] [timeB,nameB,dataB]) ⟨some ((α 8).add (0+0)),3,c7,some ((α 6).add (0+0)),3,c6⟩)],?_,(fn_qevent (d:=0) (v:=(JT.mk 6#8 0#64 [] [tNum f.t,tText (evNm f.k),(JT.mk 6#8 0#64 [] ((dataJ f).l++[(JT.mk 3#8 0#64 [] [] [])]) ((dataJ f).ns++[moreB]))] [timeB,nameB,dataB])) (x:=⟨some ((α 8).add (0+0)),3,c7,some ((α 6).add (0+0)),3,c6⟩) ?_ hsh9).mono (Res':=fun y hs=>y=.tup [.agg (evS ev0 ec0),.c (.int .i64 4)]∧hs.drop 1=[]) (fun x hs hr=>?_)⟩) (fun x hs hr=>by rw [hr.2]; exact NoP.nil) ?_
      ·(repeat first|exact trivial|refine ent1 ?_)
      ·have hD:TAt W9 ms9 1 (JT.mk 6#8 0#64 [] ((dataJ f).l++[(JT.mk 3#8 0#64 [] [] [])]) ((dataJ f).ns++[moreB])) ⟨some ((α 18).add (0+0)),0+0+1,c14,some ((α 15).add (0+0)),0+0+1,e7⟩:=by
        refine ⟨(hdr9.later hL9).frz2 (F:=fun j=>memB j [6,8,15,18]) (fun j hj=>by exact (congrArg (fun y=>(SC.rz (fun j=>memB j [6,8,15,18]) α y).raw) (appJ_cs (cs:=dcs) (new:=flat (jvS (JT.mk 3#8 0#64 [] [] []) jc0)) (n:=0+0) (m:=1) (sz:=4) (by omega) (appJ_cs (cs:=[]) (new:=dcs) (n:=0) (m:=0) (sz:=4) rfl (fun _ h=>absurd h (Nat.not_lt_zero _)) hdcl hf11) rfl (fun j hj=>updJ_new hj) j hj)).trans (rzJ_raw (hdr9.raw _ (nthJ_mem hj)))) (fun hf=>⟨(hI 18 rfl hf).1,fun hm=>(hI 18 rfl hf).2 hm rfl⟩) marks_off (n:=0+0+1) (by rw [List.length_append,hdm]; show 0+1=_; omega) hc14 (by omega),?_⟩
        refine strs_frz (l:=((dataJ f).ns++[moreB]).map U8) (F:=fun j=>memB j [6,8,15,18]) (fun j hj=>?_) (fun hf=>(hI 15 rfl hf).1) (n:=0+0+1) (by rw [List.length_map,List.length_append,hdp]; show 0+1=_; omega) he7 (by omega)
        rw [nmJ_map,nmL_app] at hj ⊢
        exact appJ_cs (cs:=nmJ (dataJ f).ns) (new:=nmJ [moreB]) (n:=0+0) (m:=1) (sz:=0) (by omega) (appJ_cs (cs:=[]) (new:=nmJ (dataJ f).ns) (n:=0) (m:=0) (sz:=0) rfl (fun _ h=>absurd h (Nat.not_lt_zero _)) hdnl hf5) rfl (fun _ _=>rfl) j hj
       have hrow9:RowJ W9 ms9 1 (flat (jvS (tNum f.t) ua)++(flat (jvS (tText (evNm f.k)) ub)++flat (jvS (JT.mk 6#8 0#64 [] ((dataJ f).l++[(JT.mk 3#8 0#64 [] [] [])]) ((dataJ f).ns++[moreB])) ⟨some ((α 18).add (0+0)),0+0+1,c14,some ((α 15).add (0+0)),0+0+1,e7⟩))) [tNum f.t,tText (evNm f.k),(JT.mk 6#8 0#64 [] ((dataJ f).l++[(JT.mk 3#8 0#64 [] [] [])]) ((dataJ f).ns++[moreB]))]:=((RowJ.nil.snoc (wa.later hL9)).snoc (wb.later hL9)).snoc hD
       exact ⟨hrow9.frz2 (F:=fun j=>memB j [6,8,15,18]) (fun j hj=>(by have hj:j<15:=hj; rcases (show j=0∨j=1∨j=2∨j=3∨j=4∨j=5∨j=6∨j=7∨j=8∨j=9∨j=10∨j=11∨j=12∨j=13∨j=14 by omega) with rfl|rfl|rfl|rfl|rfl|rfl|rfl|rfl|rfl|rfl|rfl|rfl|rfl|rfl|rfl <;> rfl)) (fun hf=>⟨(hI 8 rfl hf).1,fun hm=>(hI 8 rfl hf).2 hm rfl⟩) marks_off (n:=3) rfl hc7n (by decide),strs_frz (l:=[timeB,nameB,dataB].map U8) (F:=fun j=>memB j [6,8,15,18]) (fun j hj=>(by have hj:j<3:=hj; rcases (show j=0∨j=1∨j=2 by omega) with rfl|rfl|rfl <;> rfl)) (fun hf=>(hI 6 rfl hf).1) (n:=3) rfl hc6n (by decide)⟩
      ·rw [hev9] at hr
       obtain ⟨_,W',ms',_,rfl,rfl⟩:=hr
       exact ⟨rfl,rfl⟩
      rintro y hs ⟨rfl,hdrop⟩
      rw [hdrop]
      (repeat show _∧_;first|refine yr ?_|refine yt ?_|refine yf ?_|refine yo ?_)
      refine call_past (fn_qevent (d:=0) (v:=.mk 5#8 0#64 [] (evJ f).l (evJ f).ns) (x:=⟨some A,3,xmc,some B,3,xpc⟩) (show TAt W5 ms5 2 (.mk 5#8 0#64 [] (evJ f).l (evJ f).ns) _ from hv5) ⟨Nat.zero_le _,(shrt_ev hck).2⟩) 0 [] rfl rfl (by (repeat first|exact trivial|refine ent1 ?_)) (by (repeat first|exact trivial|refine ent1 ?_)) (fun _ _=>trivial) (fun x hs hr=>?_) ?_
      ·rw [hevl] at hr
       obtain ⟨_,W',ms',h1,_,rfl⟩:=hr
       exact ⟨W',ms',rfl,h1⟩
      rintro y hs hr
      rw [hevl] at hr
      obtain ⟨_,W6,ms6,_,rfl,rfl⟩:=hr
      (repeat show _∧_;first|refine yr ?_|refine yt ?_|refine yf ?_|refine yo ?_)
      exact ⟨.a (.c (.bool true)),[[.past W6 ms6]],⟨[0],⟨rfl,rfl,rfl⟩,by (repeat first|exact trivial|refine ent1 ?_)⟩,rfl⟩
    ·(repeat show _∧_;first|refine yr ?_|refine yt ?_|refine yf ?_|refine yo ?_)
     refine ⟨nthC (nmJ (dataJ f).ns),.inl rfl,?_⟩
     have hf5:∀ j,j<(nmJ (dataJ f).ns).length→nthC (nmJ (dataJ f).ns) j=nthC (nmJ (dataJ f).ns) j:=fun _ _=>rfl
     refine ⟨⟨Nat.le_refl _,(show 0+scale 0 (0+1)≤0 by decide),(show (0+0)*16≤140737488355328 by omega)⟩,fun e5 he5=>?_⟩
     (repeat show _∧_;first|refine yr ?_|refine yt ?_|refine yf ?_|refine yo ?_)
     refine And.intro ⟨he5,Nat.le_of_eq (Nat.zero_add _),(show (0+0+1)*16≤140737488355328 by omega)⟩ ?_
     intro e7 he7
     (repeat show _∧_;first|refine yr ?_|refine yt ?_|refine yf ?_|refine yo ?_)
     have hf11:∀ j,j<dcs.length→(fun _:Nat=>SC.any) j=nthC dcs j:=fun j hj=>absurd hj (by omega)
     intro c11 hc11
     (repeat show _∧_;first|refine yr ?_|refine yt ?_|refine yf ?_|refine yo ?_)
     refine And.intro ⟨hc11,Nat.le_of_eq (Nat.zero_add _),(show (0+0+1)*80≤140737488355328 by omega)⟩ ?_
     intro c14 hc14
     (repeat show _∧_;first|refine yr ?_|refine yt ?_|refine yf ?_|refine yo ?_)
     refine And.intro (show (0:Int)≤2∧(2:Int)<((0+3:Nat):Int) by decide) ?_
     (repeat show _∧_;first|refine yr ?_|refine yt ?_|refine yf ?_|refine yo ?_)
     refine And.intro (show 2*5+5≤scale c7 (4+1) by rw [sc5]; omega) ?_
     (repeat show _∧_;first|refine yr ?_|refine yt ?_|refine yf ?_|refine yo ?_)
     refine call_lendU [6,8,15,18] 0 [] rfl rfl (by (repeat first|exact trivial|refine ent1 ?_)) NoP.nil (fun _ _=>trivial) (fun W9 ms9 α hL9 hI=>⟨[.agg (jvS (JT.mk 6#8 0#64 [] [tNum f.t,tText (evNm f.k),(JT.mk 6#8 0#64 [] ((dataJ f).l++[(JT.mk 3#8 0#64 [] [] [])]) ((dataJ f).ns++[moreB]))] [timeB,nameB,dataB]) ⟨some ((α 8).add (0+0)),3,c7,some ((α 6).add (0+0)),3,c6⟩)],?_,(fn_qevent (d:=0) (v:=(JT.mk 6#8 0#64 [] [tNum f.t,tText (evNm f.k),(JT.mk 6#8 0#64 [] ((dataJ f).l++[(JT.mk 3#8 0#64 [] [] [])]) ((dataJ f).ns++[moreB]))] [timeB,nameB,dataB])) (x:=⟨some ((α 8).add (0+0)),3,c7,some ((α 6).add (0+0)),3,c6⟩) ?_ hsh9).mono (Res':=fun y hs=>y=.tup [.agg (evS ev0 ec0),.c (.int .i64 4)]∧hs.drop 1=[]) (fun x hs hr=>?_)⟩) (fun x hs hr=>by rw [hr.2]; exact NoP.nil) ?_
     ·(repeat first|exact trivial|refine ent1 ?_)
     ·have hD:TAt W9 ms9 1 (JT.mk 6#8 0#64 [] ((dataJ f).l++[(JT.mk 3#8 0#64 [] [] [])]) ((dataJ f).ns++[moreB])) ⟨some ((α 18).add (0+0)),0+0+1,c14,some ((α 15).add (0+0)),0+0+1,e7⟩:=by
       refine ⟨(hdr9.later hL9).frz2 (F:=fun j=>memB j [6,8,15,18]) (fun j hj=>by exact (congrArg (fun y=>(SC.rz (fun j=>memB j [6,8,15,18]) α y).raw) (appJ_cs (cs:=dcs) (new:=flat (jvS (JT.mk 3#8 0#64 [] [] []) jc0)) (n:=0+0) (m:=1) (sz:=4) (by omega) (appJ_cs (cs:=[]) (new:=dcs) (n:=0) (m:=0) (sz:=4) rfl (fun _ h=>absurd h (Nat.not_lt_zero _)) hdcl hf11) rfl (fun j hj=>updJ_new hj) j hj)).trans (rzJ_raw (hdr9.raw _ (nthJ_mem hj)))) (fun hf=>⟨(hI 18 rfl hf).1,fun hm=>(hI 18 rfl hf).2 hm rfl⟩) marks_off (n:=0+0+1) (by rw [List.length_append,hdm]; show 0+1=_; omega) hc14 (by omega),?_⟩
       refine strs_frz (l:=((dataJ f).ns++[moreB]).map U8) (F:=fun j=>memB j [6,8,15,18]) (fun j hj=>?_) (fun hf=>(hI 15 rfl hf).1) (n:=0+0+1) (by rw [List.length_map,List.length_append,hdp]; show 0+1=_; omega) he7 (by omega)
       rw [nmJ_map,nmL_app] at hj ⊢
       exact appJ_cs (cs:=nmJ (dataJ f).ns) (new:=nmJ [moreB]) (n:=0+0) (m:=1) (sz:=0) (by omega) (appJ_cs (cs:=[]) (new:=nmJ (dataJ f).ns) (n:=0) (m:=0) (sz:=0) rfl (fun _ h=>absurd h (Nat.not_lt_zero _)) hdnl hf5) rfl (fun _ _=>rfl) j hj
      have hrow9:RowJ W9 ms9 1 (flat (jvS (tNum f.t) ua)++(flat (jvS (tText (evNm f.k)) ub)++flat (jvS (JT.mk 6#8 0#64 [] ((dataJ f).l++[(JT.mk 3#8 0#64 [] [] [])]) ((dataJ f).ns++[moreB])) ⟨some ((α 18).add (0+0)),0+0+1,c14,some ((α 15).add (0+0)),0+0+1,e7⟩))) [tNum f.t,tText (evNm f.k),(JT.mk 6#8 0#64 [] ((dataJ f).l++[(JT.mk 3#8 0#64 [] [] [])]) ((dataJ f).ns++[moreB]))]:=((RowJ.nil.snoc (wa.later hL9)).snoc (wb.later hL9)).snoc hD
      exact ⟨hrow9.frz2 (F:=fun j=>memB j [6,8,15,18]) (fun j hj=>(by have hj:j<15:=hj; rcases (show j=0∨j=1∨j=2∨j=3∨j=4∨j=5∨j=6∨j=7∨j=8∨j=9∨j=10∨j=11∨j=12∨j=13∨j=14 by omega) with rfl|rfl|rfl|rfl|rfl|rfl|rfl|rfl|rfl|rfl|rfl|rfl|rfl|rfl|rfl <;> rfl)) (fun hf=>⟨(hI 8 rfl hf).1,fun hm=>(hI 8 rfl hf).2 hm rfl⟩) marks_off (n:=3) rfl hc7n (by decide),strs_frz (l:=[timeB,nameB,dataB].map U8) (F:=fun j=>memB j [6,8,15,18]) (fun j hj=>(by have hj:j<3:=hj; rcases (show j=0∨j=1∨j=2 by omega) with rfl|rfl|rfl <;> rfl)) (fun hf=>(hI 6 rfl hf).1) (n:=3) rfl hc6n (by decide)⟩
     ·rw [hev9] at hr
      obtain ⟨_,W',ms',_,rfl,rfl⟩:=hr
      exact ⟨rfl,rfl⟩
     rintro y hs ⟨rfl,hdrop⟩
     rw [hdrop]
     (repeat show _∧_;first|refine yr ?_|refine yt ?_|refine yf ?_|refine yo ?_)
     refine call_past (fn_qevent (d:=0) (v:=.mk 5#8 0#64 [] (evJ f).l (evJ f).ns) (x:=⟨some A,3,xmc,some B,3,xpc⟩) (show TAt W5 ms5 2 (.mk 5#8 0#64 [] (evJ f).l (evJ f).ns) _ from hv5) ⟨Nat.zero_le _,(shrt_ev hck).2⟩) 0 [] rfl rfl (by (repeat first|exact trivial|refine ent1 ?_)) (by (repeat first|exact trivial|refine ent1 ?_)) (fun _ _=>trivial) (fun x hs hr=>?_) ?_
     ·rw [hevl] at hr
      obtain ⟨_,W',ms',h1,_,rfl⟩:=hr
      exact ⟨W',ms',rfl,h1⟩
     rintro y hs hr
     rw [hevl] at hr
     obtain ⟨_,W6,ms6,_,rfl,rfl⟩:=hr
     (repeat show _∧_;first|refine yr ?_|refine yt ?_|refine yf ?_|refine yo ?_)
     exact ⟨.a (.c (.bool true)),[[.past W6 ms6]],⟨[0],⟨rfl,rfl,rfl⟩,by (repeat first|exact trivial|refine ent1 ?_)⟩,rfl⟩
   ·(repeat show _∧_;first|refine yr ?_|refine yt ?_|refine yf ?_|refine yo ?_)
    refine ⟨nthC (nmJ (dataJ f).ns),.inl rfl,?_⟩
    have hf5:∀ j,j<(nmJ (dataJ f).ns).length→nthC (nmJ (dataJ f).ns) j=nthC (nmJ (dataJ f).ns) j:=fun _ _=>rfl
    refine ⟨⟨Nat.le_refl _,(show 0+scale 0 (0+1)≤0 by decide),(show (0+0)*16≤140737488355328 by omega)⟩,fun e5 he5=>?_⟩
    (repeat show _∧_;first|refine yr ?_|refine yt ?_|refine yf ?_|refine yo ?_)
    refine And.intro ⟨he5,Nat.le_of_eq (Nat.zero_add _),(show (0+0+1)*16≤140737488355328 by omega)⟩ ?_
    intro e7 he7
    (repeat show _∧_;first|refine yr ?_|refine yt ?_|refine yf ?_|refine yo ?_)
    have hf11:∀ j,j<dcs.length→(fun _:Nat=>SC.any) j=nthC dcs j:=fun j hj=>absurd hj (by omega)
    intro c11 hc11
    (repeat show _∧_;first|refine yr ?_|refine yt ?_|refine yf ?_|refine yo ?_)
    refine And.intro ⟨hc11,Nat.le_of_eq (Nat.zero_add _),(show (0+0+1)*80≤140737488355328 by omega)⟩ ?_
    intro c14 hc14
    (repeat show _∧_;first|refine yr ?_|refine yt ?_|refine yf ?_|refine yo ?_)
    refine And.intro (show (0:Int)≤2∧(2:Int)<((0+3:Nat):Int) by decide) ?_
    (repeat show _∧_;first|refine yr ?_|refine yt ?_|refine yf ?_|refine yo ?_)
    refine And.intro (show 2*5+5≤scale c7 (4+1) by rw [sc5]; omega) ?_
    (repeat show _∧_;first|refine yr ?_|refine yt ?_|refine yf ?_|refine yo ?_)
    refine call_lendU [6,8,15,18] 0 [] rfl rfl (by (repeat first|exact trivial|refine ent1 ?_)) NoP.nil (fun _ _=>trivial) (fun W9 ms9 α hL9 hI=>⟨[.agg (jvS (JT.mk 6#8 0#64 [] [tNum f.t,tText (evNm f.k),(JT.mk 6#8 0#64 [] ((dataJ f).l++[(JT.mk 3#8 0#64 [] [] [])]) ((dataJ f).ns++[moreB]))] [timeB,nameB,dataB]) ⟨some ((α 8).add (0+0)),3,c7,some ((α 6).add (0+0)),3,c6⟩)],?_,(fn_qevent (d:=0) (v:=(JT.mk 6#8 0#64 [] [tNum f.t,tText (evNm f.k),(JT.mk 6#8 0#64 [] ((dataJ f).l++[(JT.mk 3#8 0#64 [] [] [])]) ((dataJ f).ns++[moreB]))] [timeB,nameB,dataB])) (x:=⟨some ((α 8).add (0+0)),3,c7,some ((α 6).add (0+0)),3,c6⟩) ?_ hsh9).mono (Res':=fun y hs=>y=.tup [.agg (evS ev0 ec0),.c (.int .i64 4)]∧hs.drop 1=[]) (fun x hs hr=>?_)⟩) (fun x hs hr=>by rw [hr.2]; exact NoP.nil) ?_
    ·(repeat first|exact trivial|refine ent1 ?_)
    ·have hD:TAt W9 ms9 1 (JT.mk 6#8 0#64 [] ((dataJ f).l++[(JT.mk 3#8 0#64 [] [] [])]) ((dataJ f).ns++[moreB])) ⟨some ((α 18).add (0+0)),0+0+1,c14,some ((α 15).add (0+0)),0+0+1,e7⟩:=by
      refine ⟨(hdr9.later hL9).frz2 (F:=fun j=>memB j [6,8,15,18]) (fun j hj=>by exact (congrArg (fun y=>(SC.rz (fun j=>memB j [6,8,15,18]) α y).raw) (appJ_cs (cs:=dcs) (new:=flat (jvS (JT.mk 3#8 0#64 [] [] []) jc0)) (n:=0+0) (m:=1) (sz:=4) (by omega) (appJ_cs (cs:=[]) (new:=dcs) (n:=0) (m:=0) (sz:=4) rfl (fun _ h=>absurd h (Nat.not_lt_zero _)) hdcl hf11) rfl (fun j hj=>updJ_new hj) j hj)).trans (rzJ_raw (hdr9.raw _ (nthJ_mem hj)))) (fun hf=>⟨(hI 18 rfl hf).1,fun hm=>(hI 18 rfl hf).2 hm rfl⟩) marks_off (n:=0+0+1) (by rw [List.length_append,hdm]; show 0+1=_; omega) hc14 (by omega),?_⟩
      refine strs_frz (l:=((dataJ f).ns++[moreB]).map U8) (F:=fun j=>memB j [6,8,15,18]) (fun j hj=>?_) (fun hf=>(hI 15 rfl hf).1) (n:=0+0+1) (by rw [List.length_map,List.length_append,hdp]; show 0+1=_; omega) he7 (by omega)
      rw [nmJ_map,nmL_app] at hj ⊢
      exact appJ_cs (cs:=nmJ (dataJ f).ns) (new:=nmJ [moreB]) (n:=0+0) (m:=1) (sz:=0) (by omega) (appJ_cs (cs:=[]) (new:=nmJ (dataJ f).ns) (n:=0) (m:=0) (sz:=0) rfl (fun _ h=>absurd h (Nat.not_lt_zero _)) hdnl hf5) rfl (fun _ _=>rfl) j hj
     have hrow9:RowJ W9 ms9 1 (flat (jvS (tNum f.t) ua)++(flat (jvS (tText (evNm f.k)) ub)++flat (jvS (JT.mk 6#8 0#64 [] ((dataJ f).l++[(JT.mk 3#8 0#64 [] [] [])]) ((dataJ f).ns++[moreB])) ⟨some ((α 18).add (0+0)),0+0+1,c14,some ((α 15).add (0+0)),0+0+1,e7⟩))) [tNum f.t,tText (evNm f.k),(JT.mk 6#8 0#64 [] ((dataJ f).l++[(JT.mk 3#8 0#64 [] [] [])]) ((dataJ f).ns++[moreB]))]:=((RowJ.nil.snoc (wa.later hL9)).snoc (wb.later hL9)).snoc hD
     exact ⟨hrow9.frz2 (F:=fun j=>memB j [6,8,15,18]) (fun j hj=>(by have hj:j<15:=hj; rcases (show j=0∨j=1∨j=2∨j=3∨j=4∨j=5∨j=6∨j=7∨j=8∨j=9∨j=10∨j=11∨j=12∨j=13∨j=14 by omega) with rfl|rfl|rfl|rfl|rfl|rfl|rfl|rfl|rfl|rfl|rfl|rfl|rfl|rfl|rfl <;> rfl)) (fun hf=>⟨(hI 8 rfl hf).1,fun hm=>(hI 8 rfl hf).2 hm rfl⟩) marks_off (n:=3) rfl hc7n (by decide),strs_frz (l:=[timeB,nameB,dataB].map U8) (F:=fun j=>memB j [6,8,15,18]) (fun j hj=>(by have hj:j<3:=hj; rcases (show j=0∨j=1∨j=2 by omega) with rfl|rfl|rfl <;> rfl)) (fun hf=>(hI 6 rfl hf).1) (n:=3) rfl hc6n (by decide)⟩
    ·rw [hev9] at hr
     obtain ⟨_,W',ms',_,rfl,rfl⟩:=hr
     exact ⟨rfl,rfl⟩
    rintro y hs ⟨rfl,hdrop⟩
    rw [hdrop]
    (repeat show _∧_;first|refine yr ?_|refine yt ?_|refine yf ?_|refine yo ?_)
    refine call_past (fn_qevent (d:=0) (v:=.mk 5#8 0#64 [] (evJ f).l (evJ f).ns) (x:=⟨some A,3,xmc,some B,3,xpc⟩) (show TAt W5 ms5 2 (.mk 5#8 0#64 [] (evJ f).l (evJ f).ns) _ from hv5) ⟨Nat.zero_le _,(shrt_ev hck).2⟩) 0 [] rfl rfl (by (repeat first|exact trivial|refine ent1 ?_)) (by (repeat first|exact trivial|refine ent1 ?_)) (fun _ _=>trivial) (fun x hs hr=>?_) ?_
    ·rw [hevl] at hr
     obtain ⟨_,W',ms',h1,_,rfl⟩:=hr
     exact ⟨W',ms',rfl,h1⟩
    rintro y hs hr
    rw [hevl] at hr
    obtain ⟨_,W6,ms6,_,rfl,rfl⟩:=hr
    (repeat show _∧_;first|refine yr ?_|refine yt ?_|refine yf ?_|refine yo ?_)
    exact ⟨.a (.c (.bool true)),[[.past W6 ms6]],⟨[0],⟨rfl,rfl,rfl⟩,by (repeat first|exact trivial|refine ent1 ?_)⟩,rfl⟩
  ·refine And.intro ?_ ?_
   ·(repeat show _∧_;first|refine yr ?_|refine yt ?_|refine yf ?_|refine yo ?_)
    refine And.intro ?_ ?_
    ·(repeat show _∧_;first|refine yr ?_|refine yt ?_|refine yf ?_|refine yo ?_)
     refine ⟨nthC (nmJ (dataJ f).ns),?_,?_⟩
     ·rcases Nat.eq_zero_or_pos dp with h0|h0
      ·exact .inl h0
      ·exact .inr (by rw [← hdnl,range_nthC]; exact RawAt.past (i:=0) rfl (hdn.im db rfl (by have:=hdn.le; omega)))
     have hf5:∀ j,j<(nmJ (dataJ f).ns).length→nthC (nmJ (dataJ f).ns) j=nthC (nmJ (dataJ f).ns) j:=fun _ _=>rfl
     refine ⟨⟨Nat.le_refl _,(show 0+scale 0 (0+1)≤0 by decide),(show (0+dp)*16≤140737488355328 by omega)⟩,fun e5 he5=>?_⟩
     (repeat show _∧_;first|refine yr ?_|refine yt ?_|refine yf ?_|refine yo ?_)
     refine And.intro ?_ ?_
     ·(repeat show _∧_;first|refine yr ?_|refine yt ?_|refine yf ?_|refine yo ?_)
      refine And.intro ?_ ?_
      ·(repeat show _∧_;first|refine yr ?_|refine yt ?_|refine yf ?_|refine yo ?_)
       refine And.intro ⟨he5,Nat.le_of_eq (Nat.zero_add _),(show (0+dp+1)*16≤140737488355328 by omega)⟩ ?_
       intro e7 he7
       (repeat show _∧_;first|refine yr ?_|refine yt ?_|refine yf ?_|refine yo ?_)
       refine And.intro ?_ ?_
       ·(repeat show _∧_;first|refine yr ?_|refine yt ?_|refine yf ?_|refine yo ?_)
        refine And.intro ?_ ?_
        ·(repeat show _∧_;first|refine yr ?_|refine yt ?_|refine yf ?_|refine yo ?_)
         refine ⟨nthC dcs,?_,?_⟩
         ·exact (hdi da rfl).imp id (fun h=>by rw [← hdcl,range_nthC]; exact RawAt.past (i:=0) rfl h)
         have hf11:∀ j,j<dcs.length→nthC dcs j=nthC dcs j:=fun _ _=>rfl
         refine ⟨⟨Nat.le_refl _,(show 0+scale 0 (4+1)≤0 by decide),(show (0+dp)*80≤140737488355328 by omega)⟩,fun c11 hc11=>?_⟩
         (repeat show _∧_;first|refine yr ?_|refine yt ?_|refine yf ?_|refine yo ?_)
         refine And.intro ⟨hc11,Nat.le_of_eq (Nat.zero_add _),(show (0+dp+1)*80≤140737488355328 by omega)⟩ ?_
         intro c14 hc14
         (repeat show _∧_;first|refine yr ?_|refine yt ?_|refine yf ?_|refine yo ?_)
         refine And.intro (show (0:Int)≤2∧(2:Int)<((0+3:Nat):Int) by decide) ?_
         (repeat show _∧_;first|refine yr ?_|refine yt ?_|refine yf ?_|refine yo ?_)
         refine And.intro (show 2*5+5≤scale c7 (4+1) by rw [sc5]; omega) ?_
         (repeat show _∧_;first|refine yr ?_|refine yt ?_|refine yf ?_|refine yo ?_)
         refine call_lendU [6,8,14,18] 0 [] rfl rfl (by (repeat first|exact trivial|refine ent1 ?_)) NoP.nil (fun _ _=>trivial) (fun W9 ms9 α hL9 hI=>⟨[.agg (jvS (JT.mk 6#8 0#64 [] [tNum f.t,tText (evNm f.k),(JT.mk 6#8 0#64 [] ((dataJ f).l++[(JT.mk 3#8 0#64 [] [] [])]) ((dataJ f).ns++[moreB]))] [timeB,nameB,dataB]) ⟨some ((α 8).add (0+0)),3,c7,some ((α 6).add (0+0)),3,c6⟩)],?_,(fn_qevent (d:=0) (v:=(JT.mk 6#8 0#64 [] [tNum f.t,tText (evNm f.k),(JT.mk 6#8 0#64 [] ((dataJ f).l++[(JT.mk 3#8 0#64 [] [] [])]) ((dataJ f).ns++[moreB]))] [timeB,nameB,dataB])) (x:=⟨some ((α 8).add (0+0)),3,c7,some ((α 6).add (0+0)),3,c6⟩) ?_ hsh9).mono (Res':=fun y hs=>y=.tup [.agg (evS ev0 ec0),.c (.int .i64 4)]∧hs.drop 1=[]) (fun x hs hr=>?_)⟩) (fun x hs hr=>by rw [hr.2]; exact NoP.nil) ?_
         ·(repeat first|exact trivial|refine ent1 ?_)
         ·have hD:TAt W9 ms9 1 (JT.mk 6#8 0#64 [] ((dataJ f).l++[(JT.mk 3#8 0#64 [] [] [])]) ((dataJ f).ns++[moreB])) ⟨some ((α 18).add (0+0)),0+dp+1,c14,some ((α 14).add (0+0)),0+dp+1,e7⟩:=by
           refine ⟨(hdr9.later hL9).frz2 (F:=fun j=>memB j [6,8,14,18]) (fun j hj=>by exact (congrArg (fun y=>(SC.rz (fun j=>memB j [6,8,14,18]) α y).raw) (appJ_cs (cs:=dcs) (new:=flat (jvS (JT.mk 3#8 0#64 [] [] []) jc0)) (n:=0+dp) (m:=1) (sz:=4) (by omega) (appJ_cs (cs:=[]) (new:=dcs) (n:=0) (m:=dp) (sz:=4) rfl (fun _ h=>absurd h (Nat.not_lt_zero _)) hdcl hf11) rfl (fun j hj=>updJ_new hj) j hj)).trans (rzJ_raw (hdr9.raw _ (nthJ_mem hj)))) (fun hf=>⟨(hI 18 rfl hf).1,fun hm=>(hI 18 rfl hf).2 hm rfl⟩) marks_off (n:=0+dp+1) (by rw [List.length_append,hdm]; show dp+1=_; omega) hc14 (by omega),?_⟩
           refine strs_frz (l:=((dataJ f).ns++[moreB]).map U8) (F:=fun j=>memB j [6,8,14,18]) (fun j hj=>?_) (fun hf=>(hI 14 rfl hf).1) (n:=0+dp+1) (by rw [List.length_map,List.length_append,hdp]; show dp+1=_; omega) he7 (by omega)
           rw [nmJ_map,nmL_app] at hj ⊢
           exact appJ_cs (cs:=nmJ (dataJ f).ns) (new:=nmJ [moreB]) (n:=0+dp) (m:=1) (sz:=0) (by omega) (appJ_cs (cs:=[]) (new:=nmJ (dataJ f).ns) (n:=0) (m:=dp) (sz:=0) rfl (fun _ h=>absurd h (Nat.not_lt_zero _)) hdnl hf5) rfl (fun _ _=>rfl) j hj
          have hrow9:RowJ W9 ms9 1 (flat (jvS (tNum f.t) ua)++(flat (jvS (tText (evNm f.k)) ub)++flat (jvS (JT.mk 6#8 0#64 [] ((dataJ f).l++[(JT.mk 3#8 0#64 [] [] [])]) ((dataJ f).ns++[moreB])) ⟨some ((α 18).add (0+0)),0+dp+1,c14,some ((α 14).add (0+0)),0+dp+1,e7⟩))) [tNum f.t,tText (evNm f.k),(JT.mk 6#8 0#64 [] ((dataJ f).l++[(JT.mk 3#8 0#64 [] [] [])]) ((dataJ f).ns++[moreB]))]:=((RowJ.nil.snoc (wa.later hL9)).snoc (wb.later hL9)).snoc hD
          exact ⟨hrow9.frz2 (F:=fun j=>memB j [6,8,14,18]) (fun j hj=>(by have hj:j<15:=hj; rcases (show j=0∨j=1∨j=2∨j=3∨j=4∨j=5∨j=6∨j=7∨j=8∨j=9∨j=10∨j=11∨j=12∨j=13∨j=14 by omega) with rfl|rfl|rfl|rfl|rfl|rfl|rfl|rfl|rfl|rfl|rfl|rfl|rfl|rfl|rfl <;> rfl)) (fun hf=>⟨(hI 8 rfl hf).1,fun hm=>(hI 8 rfl hf).2 hm rfl⟩) marks_off (n:=3) rfl hc7n (by decide),strs_frz (l:=[timeB,nameB,dataB].map U8) (F:=fun j=>memB j [6,8,14,18]) (fun j hj=>(by have hj:j<3:=hj; rcases (show j=0∨j=1∨j=2 by omega) with rfl|rfl|rfl <;> rfl)) (fun hf=>(hI 6 rfl hf).1) (n:=3) rfl hc6n (by decide)⟩
         ·rw [hev9] at hr
          obtain ⟨_,W',ms',_,rfl,rfl⟩:=hr
          exact ⟨rfl,rfl⟩
         rintro y hs ⟨rfl,hdrop⟩
         rw [hdrop]
         (repeat show _∧_;first|refine yr ?_|refine yt ?_|refine yf ?_|refine yo ?_)
         refine call_past (fn_qevent (d:=0) (v:=.mk 5#8 0#64 [] (evJ f).l (evJ f).ns) (x:=⟨some A,3,xmc,some B,3,xpc⟩) (show TAt W5 ms5 2 (.mk 5#8 0#64 [] (evJ f).l (evJ f).ns) _ from hv5) ⟨Nat.zero_le _,(shrt_ev hck).2⟩) 0 [] rfl rfl (by (repeat first|exact trivial|refine ent1 ?_)) (by (repeat first|exact trivial|refine ent1 ?_)) (fun _ _=>trivial) (fun x hs hr=>?_) ?_
         ·rw [hevl] at hr
          obtain ⟨_,W',ms',h1,_,rfl⟩:=hr
          exact ⟨W',ms',rfl,h1⟩
         rintro y hs hr
         rw [hevl] at hr
         obtain ⟨_,W6,ms6,_,rfl,rfl⟩:=hr
         (repeat show _∧_;first|refine yr ?_|refine yt ?_|refine yf ?_|refine yo ?_)
         exact ⟨.a (.c (.bool true)),[[.past W6 ms6]],⟨[0],⟨rfl,rfl,rfl⟩,by (repeat first|exact trivial|refine ent1 ?_)⟩,rfl⟩
        ·(repeat show _∧_;first|refine yr ?_|refine yt ?_|refine yf ?_|refine yo ?_)
         refine ⟨nthC dcs,?_,?_⟩
         ·exact (hdi da rfl).imp id (fun h=>by rw [← hdcl,range_nthC]; exact RawAt.past (i:=0) rfl h)
         have hf11:∀ j,j<dcs.length→nthC dcs j=nthC dcs j:=fun _ _=>rfl
         refine ⟨⟨Nat.le_refl _,(show 0+scale 0 (4+1)≤0 by decide),(show (0+dp)*80≤140737488355328 by omega)⟩,fun c11 hc11=>?_⟩
         (repeat show _∧_;first|refine yr ?_|refine yt ?_|refine yf ?_|refine yo ?_)
         refine And.intro ⟨hc11,Nat.le_of_eq (Nat.zero_add _),(show (0+dp+1)*80≤140737488355328 by omega)⟩ ?_
         intro c14 hc14
         (repeat show _∧_;first|refine yr ?_|refine yt ?_|refine yf ?_|refine yo ?_)
         refine And.intro (show (0:Int)≤2∧(2:Int)<((0+3:Nat):Int) by decide) ?_
         (repeat show _∧_;first|refine yr ?_|refine yt ?_|refine yf ?_|refine yo ?_)
         refine And.intro (show 2*5+5≤scale c7 (4+1) by rw [sc5]; omega) ?_
         (repeat show _∧_;first|refine yr ?_|refine yt ?_|refine yf ?_|refine yo ?_)
         refine call_lendU [6,8,14,18] 0 [] rfl rfl (by (repeat first|exact trivial|refine ent1 ?_)) NoP.nil (fun _ _=>trivial) (fun W9 ms9 α hL9 hI=>⟨[.agg (jvS (JT.mk 6#8 0#64 [] [tNum f.t,tText (evNm f.k),(JT.mk 6#8 0#64 [] ((dataJ f).l++[(JT.mk 3#8 0#64 [] [] [])]) ((dataJ f).ns++[moreB]))] [timeB,nameB,dataB]) ⟨some ((α 8).add (0+0)),3,c7,some ((α 6).add (0+0)),3,c6⟩)],?_,(fn_qevent (d:=0) (v:=(JT.mk 6#8 0#64 [] [tNum f.t,tText (evNm f.k),(JT.mk 6#8 0#64 [] ((dataJ f).l++[(JT.mk 3#8 0#64 [] [] [])]) ((dataJ f).ns++[moreB]))] [timeB,nameB,dataB])) (x:=⟨some ((α 8).add (0+0)),3,c7,some ((α 6).add (0+0)),3,c6⟩) ?_ hsh9).mono (Res':=fun y hs=>y=.tup [.agg (evS ev0 ec0),.c (.int .i64 4)]∧hs.drop 1=[]) (fun x hs hr=>?_)⟩) (fun x hs hr=>by rw [hr.2]; exact NoP.nil) ?_
         ·(repeat first|exact trivial|refine ent1 ?_)
         ·have hD:TAt W9 ms9 1 (JT.mk 6#8 0#64 [] ((dataJ f).l++[(JT.mk 3#8 0#64 [] [] [])]) ((dataJ f).ns++[moreB])) ⟨some ((α 18).add (0+0)),0+dp+1,c14,some ((α 14).add (0+0)),0+dp+1,e7⟩:=by
           refine ⟨(hdr9.later hL9).frz2 (F:=fun j=>memB j [6,8,14,18]) (fun j hj=>by exact (congrArg (fun y=>(SC.rz (fun j=>memB j [6,8,14,18]) α y).raw) (appJ_cs (cs:=dcs) (new:=flat (jvS (JT.mk 3#8 0#64 [] [] []) jc0)) (n:=0+dp) (m:=1) (sz:=4) (by omega) (appJ_cs (cs:=[]) (new:=dcs) (n:=0) (m:=dp) (sz:=4) rfl (fun _ h=>absurd h (Nat.not_lt_zero _)) hdcl hf11) rfl (fun j hj=>updJ_new hj) j hj)).trans (rzJ_raw (hdr9.raw _ (nthJ_mem hj)))) (fun hf=>⟨(hI 18 rfl hf).1,fun hm=>(hI 18 rfl hf).2 hm rfl⟩) marks_off (n:=0+dp+1) (by rw [List.length_append,hdm]; show dp+1=_; omega) hc14 (by omega),?_⟩
           refine strs_frz (l:=((dataJ f).ns++[moreB]).map U8) (F:=fun j=>memB j [6,8,14,18]) (fun j hj=>?_) (fun hf=>(hI 14 rfl hf).1) (n:=0+dp+1) (by rw [List.length_map,List.length_append,hdp]; show dp+1=_; omega) he7 (by omega)
           rw [nmJ_map,nmL_app] at hj ⊢
           exact appJ_cs (cs:=nmJ (dataJ f).ns) (new:=nmJ [moreB]) (n:=0+dp) (m:=1) (sz:=0) (by omega) (appJ_cs (cs:=[]) (new:=nmJ (dataJ f).ns) (n:=0) (m:=dp) (sz:=0) rfl (fun _ h=>absurd h (Nat.not_lt_zero _)) hdnl hf5) rfl (fun _ _=>rfl) j hj
          have hrow9:RowJ W9 ms9 1 (flat (jvS (tNum f.t) ua)++(flat (jvS (tText (evNm f.k)) ub)++flat (jvS (JT.mk 6#8 0#64 [] ((dataJ f).l++[(JT.mk 3#8 0#64 [] [] [])]) ((dataJ f).ns++[moreB])) ⟨some ((α 18).add (0+0)),0+dp+1,c14,some ((α 14).add (0+0)),0+dp+1,e7⟩))) [tNum f.t,tText (evNm f.k),(JT.mk 6#8 0#64 [] ((dataJ f).l++[(JT.mk 3#8 0#64 [] [] [])]) ((dataJ f).ns++[moreB]))]:=((RowJ.nil.snoc (wa.later hL9)).snoc (wb.later hL9)).snoc hD
          exact ⟨hrow9.frz2 (F:=fun j=>memB j [6,8,14,18]) (fun j hj=>(by have hj:j<15:=hj; rcases (show j=0∨j=1∨j=2∨j=3∨j=4∨j=5∨j=6∨j=7∨j=8∨j=9∨j=10∨j=11∨j=12∨j=13∨j=14 by omega) with rfl|rfl|rfl|rfl|rfl|rfl|rfl|rfl|rfl|rfl|rfl|rfl|rfl|rfl|rfl <;> rfl)) (fun hf=>⟨(hI 8 rfl hf).1,fun hm=>(hI 8 rfl hf).2 hm rfl⟩) marks_off (n:=3) rfl hc7n (by decide),strs_frz (l:=[timeB,nameB,dataB].map U8) (F:=fun j=>memB j [6,8,14,18]) (fun j hj=>(by have hj:j<3:=hj; rcases (show j=0∨j=1∨j=2 by omega) with rfl|rfl|rfl <;> rfl)) (fun hf=>(hI 6 rfl hf).1) (n:=3) rfl hc6n (by decide)⟩
         ·rw [hev9] at hr
          obtain ⟨_,W',ms',_,rfl,rfl⟩:=hr
          exact ⟨rfl,rfl⟩
         rintro y hs ⟨rfl,hdrop⟩
         rw [hdrop]
         (repeat show _∧_;first|refine yr ?_|refine yt ?_|refine yf ?_|refine yo ?_)
         refine call_past (fn_qevent (d:=0) (v:=.mk 5#8 0#64 [] (evJ f).l (evJ f).ns) (x:=⟨some A,3,xmc,some B,3,xpc⟩) (show TAt W5 ms5 2 (.mk 5#8 0#64 [] (evJ f).l (evJ f).ns) _ from hv5) ⟨Nat.zero_le _,(shrt_ev hck).2⟩) 0 [] rfl rfl (by (repeat first|exact trivial|refine ent1 ?_)) (by (repeat first|exact trivial|refine ent1 ?_)) (fun _ _=>trivial) (fun x hs hr=>?_) ?_
         ·rw [hevl] at hr
          obtain ⟨_,W',ms',h1,_,rfl⟩:=hr
          exact ⟨W',ms',rfl,h1⟩
         rintro y hs hr
         rw [hevl] at hr
         obtain ⟨_,W6,ms6,_,rfl,rfl⟩:=hr
         (repeat show _∧_;first|refine yr ?_|refine yt ?_|refine yf ?_|refine yo ?_)
         exact ⟨.a (.c (.bool true)),[[.past W6 ms6]],⟨[0],⟨rfl,rfl,rfl⟩,by (repeat first|exact trivial|refine ent1 ?_)⟩,rfl⟩
       ·(repeat show _∧_;first|refine yr ?_|refine yt ?_|refine yf ?_|refine yo ?_)
        refine ⟨nthC dcs,?_,?_⟩
        ·exact (hdi da rfl).imp id (fun h=>by rw [← hdcl,range_nthC]; exact RawAt.past (i:=0) rfl h)
        have hf11:∀ j,j<dcs.length→nthC dcs j=nthC dcs j:=fun _ _=>rfl
        refine ⟨⟨Nat.le_refl _,(show 0+scale 0 (4+1)≤0 by decide),(show (0+dp)*80≤140737488355328 by omega)⟩,fun c11 hc11=>?_⟩
        (repeat show _∧_;first|refine yr ?_|refine yt ?_|refine yf ?_|refine yo ?_)
        refine And.intro ⟨hc11,Nat.le_of_eq (Nat.zero_add _),(show (0+dp+1)*80≤140737488355328 by omega)⟩ ?_
        intro c14 hc14
        (repeat show _∧_;first|refine yr ?_|refine yt ?_|refine yf ?_|refine yo ?_)
        refine And.intro (show (0:Int)≤2∧(2:Int)<((0+3:Nat):Int) by decide) ?_
        (repeat show _∧_;first|refine yr ?_|refine yt ?_|refine yf ?_|refine yo ?_)
        refine And.intro (show 2*5+5≤scale c7 (4+1) by rw [sc5]; omega) ?_
        (repeat show _∧_;first|refine yr ?_|refine yt ?_|refine yf ?_|refine yo ?_)
        refine call_lendU [6,8,14,18] 0 [] rfl rfl (by (repeat first|exact trivial|refine ent1 ?_)) NoP.nil (fun _ _=>trivial) (fun W9 ms9 α hL9 hI=>⟨[.agg (jvS (JT.mk 6#8 0#64 [] [tNum f.t,tText (evNm f.k),(JT.mk 6#8 0#64 [] ((dataJ f).l++[(JT.mk 3#8 0#64 [] [] [])]) ((dataJ f).ns++[moreB]))] [timeB,nameB,dataB]) ⟨some ((α 8).add (0+0)),3,c7,some ((α 6).add (0+0)),3,c6⟩)],?_,(fn_qevent (d:=0) (v:=(JT.mk 6#8 0#64 [] [tNum f.t,tText (evNm f.k),(JT.mk 6#8 0#64 [] ((dataJ f).l++[(JT.mk 3#8 0#64 [] [] [])]) ((dataJ f).ns++[moreB]))] [timeB,nameB,dataB])) (x:=⟨some ((α 8).add (0+0)),3,c7,some ((α 6).add (0+0)),3,c6⟩) ?_ hsh9).mono (Res':=fun y hs=>y=.tup [.agg (evS ev0 ec0),.c (.int .i64 4)]∧hs.drop 1=[]) (fun x hs hr=>?_)⟩) (fun x hs hr=>by rw [hr.2]; exact NoP.nil) ?_
        ·(repeat first|exact trivial|refine ent1 ?_)
        ·have hD:TAt W9 ms9 1 (JT.mk 6#8 0#64 [] ((dataJ f).l++[(JT.mk 3#8 0#64 [] [] [])]) ((dataJ f).ns++[moreB])) ⟨some ((α 18).add (0+0)),0+dp+1,c14,some ((α 14).add (0+0)),0+dp+1,e7⟩:=by
          refine ⟨(hdr9.later hL9).frz2 (F:=fun j=>memB j [6,8,14,18]) (fun j hj=>by exact (congrArg (fun y=>(SC.rz (fun j=>memB j [6,8,14,18]) α y).raw) (appJ_cs (cs:=dcs) (new:=flat (jvS (JT.mk 3#8 0#64 [] [] []) jc0)) (n:=0+dp) (m:=1) (sz:=4) (by omega) (appJ_cs (cs:=[]) (new:=dcs) (n:=0) (m:=dp) (sz:=4) rfl (fun _ h=>absurd h (Nat.not_lt_zero _)) hdcl hf11) rfl (fun j hj=>updJ_new hj) j hj)).trans (rzJ_raw (hdr9.raw _ (nthJ_mem hj)))) (fun hf=>⟨(hI 18 rfl hf).1,fun hm=>(hI 18 rfl hf).2 hm rfl⟩) marks_off (n:=0+dp+1) (by rw [List.length_append,hdm]; show dp+1=_; omega) hc14 (by omega),?_⟩
          refine strs_frz (l:=((dataJ f).ns++[moreB]).map U8) (F:=fun j=>memB j [6,8,14,18]) (fun j hj=>?_) (fun hf=>(hI 14 rfl hf).1) (n:=0+dp+1) (by rw [List.length_map,List.length_append,hdp]; show dp+1=_; omega) he7 (by omega)
          rw [nmJ_map,nmL_app] at hj ⊢
          exact appJ_cs (cs:=nmJ (dataJ f).ns) (new:=nmJ [moreB]) (n:=0+dp) (m:=1) (sz:=0) (by omega) (appJ_cs (cs:=[]) (new:=nmJ (dataJ f).ns) (n:=0) (m:=dp) (sz:=0) rfl (fun _ h=>absurd h (Nat.not_lt_zero _)) hdnl hf5) rfl (fun _ _=>rfl) j hj
         have hrow9:RowJ W9 ms9 1 (flat (jvS (tNum f.t) ua)++(flat (jvS (tText (evNm f.k)) ub)++flat (jvS (JT.mk 6#8 0#64 [] ((dataJ f).l++[(JT.mk 3#8 0#64 [] [] [])]) ((dataJ f).ns++[moreB])) ⟨some ((α 18).add (0+0)),0+dp+1,c14,some ((α 14).add (0+0)),0+dp+1,e7⟩))) [tNum f.t,tText (evNm f.k),(JT.mk 6#8 0#64 [] ((dataJ f).l++[(JT.mk 3#8 0#64 [] [] [])]) ((dataJ f).ns++[moreB]))]:=((RowJ.nil.snoc (wa.later hL9)).snoc (wb.later hL9)).snoc hD
         exact ⟨hrow9.frz2 (F:=fun j=>memB j [6,8,14,18]) (fun j hj=>(by have hj:j<15:=hj; rcases (show j=0∨j=1∨j=2∨j=3∨j=4∨j=5∨j=6∨j=7∨j=8∨j=9∨j=10∨j=11∨j=12∨j=13∨j=14 by omega) with rfl|rfl|rfl|rfl|rfl|rfl|rfl|rfl|rfl|rfl|rfl|rfl|rfl|rfl|rfl <;> rfl)) (fun hf=>⟨(hI 8 rfl hf).1,fun hm=>(hI 8 rfl hf).2 hm rfl⟩) marks_off (n:=3) rfl hc7n (by decide),strs_frz (l:=[timeB,nameB,dataB].map U8) (F:=fun j=>memB j [6,8,14,18]) (fun j hj=>(by have hj:j<3:=hj; rcases (show j=0∨j=1∨j=2 by omega) with rfl|rfl|rfl <;> rfl)) (fun hf=>(hI 6 rfl hf).1) (n:=3) rfl hc6n (by decide)⟩
        ·rw [hev9] at hr
         obtain ⟨_,W',ms',_,rfl,rfl⟩:=hr
         exact ⟨rfl,rfl⟩
        rintro y hs ⟨rfl,hdrop⟩
        rw [hdrop]
        (repeat show _∧_;first|refine yr ?_|refine yt ?_|refine yf ?_|refine yo ?_)
        refine call_past (fn_qevent (d:=0) (v:=.mk 5#8 0#64 [] (evJ f).l (evJ f).ns) (x:=⟨some A,3,xmc,some B,3,xpc⟩) (show TAt W5 ms5 2 (.mk 5#8 0#64 [] (evJ f).l (evJ f).ns) _ from hv5) ⟨Nat.zero_le _,(shrt_ev hck).2⟩) 0 [] rfl rfl (by (repeat first|exact trivial|refine ent1 ?_)) (by (repeat first|exact trivial|refine ent1 ?_)) (fun _ _=>trivial) (fun x hs hr=>?_) ?_
        ·rw [hevl] at hr
         obtain ⟨_,W',ms',h1,_,rfl⟩:=hr
         exact ⟨W',ms',rfl,h1⟩
        rintro y hs hr
        rw [hevl] at hr
        obtain ⟨_,W6,ms6,_,rfl,rfl⟩:=hr
        (repeat show _∧_;first|refine yr ?_|refine yt ?_|refine yf ?_|refine yo ?_)
        exact ⟨.a (.c (.bool true)),[[.past W6 ms6]],⟨[0],⟨rfl,rfl,rfl⟩,by (repeat first|exact trivial|refine ent1 ?_)⟩,rfl⟩
      ·(repeat show _∧_;first|refine yr ?_|refine yt ?_|refine yf ?_|refine yo ?_)
       refine And.intro ⟨he5,Nat.le_of_eq (Nat.zero_add _),(show (0+dp+1)*16≤140737488355328 by omega)⟩ ?_
       intro e7 he7
       (repeat show _∧_;first|refine yr ?_|refine yt ?_|refine yf ?_|refine yo ?_)
       refine ⟨nthC dcs,?_,?_⟩
       ·exact (hdi da rfl).imp id (fun h=>by rw [← hdcl,range_nthC]; exact RawAt.past (i:=0) rfl h)
       have hf11:∀ j,j<dcs.length→nthC dcs j=nthC dcs j:=fun _ _=>rfl
       refine ⟨⟨Nat.le_refl _,(show 0+scale 0 (4+1)≤0 by decide),(show (0+dp)*80≤140737488355328 by omega)⟩,fun c11 hc11=>?_⟩
       (repeat show _∧_;first|refine yr ?_|refine yt ?_|refine yf ?_|refine yo ?_)
       refine And.intro ⟨hc11,Nat.le_of_eq (Nat.zero_add _),(show (0+dp+1)*80≤140737488355328 by omega)⟩ ?_
       intro c14 hc14
       (repeat show _∧_;first|refine yr ?_|refine yt ?_|refine yf ?_|refine yo ?_)
       refine And.intro (show (0:Int)≤2∧(2:Int)<((0+3:Nat):Int) by decide) ?_
       (repeat show _∧_;first|refine yr ?_|refine yt ?_|refine yf ?_|refine yo ?_)
       refine And.intro (show 2*5+5≤scale c7 (4+1) by rw [sc5]; omega) ?_
       (repeat show _∧_;first|refine yr ?_|refine yt ?_|refine yf ?_|refine yo ?_)
       refine call_lendU [6,8,15,18] 0 [] rfl rfl (by (repeat first|exact trivial|refine ent1 ?_)) NoP.nil (fun _ _=>trivial) (fun W9 ms9 α hL9 hI=>⟨[.agg (jvS (JT.mk 6#8 0#64 [] [tNum f.t,tText (evNm f.k),(JT.mk 6#8 0#64 [] ((dataJ f).l++[(JT.mk 3#8 0#64 [] [] [])]) ((dataJ f).ns++[moreB]))] [timeB,nameB,dataB]) ⟨some ((α 8).add (0+0)),3,c7,some ((α 6).add (0+0)),3,c6⟩)],?_,(fn_qevent (d:=0) (v:=(JT.mk 6#8 0#64 [] [tNum f.t,tText (evNm f.k),(JT.mk 6#8 0#64 [] ((dataJ f).l++[(JT.mk 3#8 0#64 [] [] [])]) ((dataJ f).ns++[moreB]))] [timeB,nameB,dataB])) (x:=⟨some ((α 8).add (0+0)),3,c7,some ((α 6).add (0+0)),3,c6⟩) ?_ hsh9).mono (Res':=fun y hs=>y=.tup [.agg (evS ev0 ec0),.c (.int .i64 4)]∧hs.drop 1=[]) (fun x hs hr=>?_)⟩) (fun x hs hr=>by rw [hr.2]; exact NoP.nil) ?_
       ·(repeat first|exact trivial|refine ent1 ?_)
       ·have hD:TAt W9 ms9 1 (JT.mk 6#8 0#64 [] ((dataJ f).l++[(JT.mk 3#8 0#64 [] [] [])]) ((dataJ f).ns++[moreB])) ⟨some ((α 18).add (0+0)),0+dp+1,c14,some ((α 15).add (0+0)),0+dp+1,e7⟩:=by
         refine ⟨(hdr9.later hL9).frz2 (F:=fun j=>memB j [6,8,15,18]) (fun j hj=>by exact (congrArg (fun y=>(SC.rz (fun j=>memB j [6,8,15,18]) α y).raw) (appJ_cs (cs:=dcs) (new:=flat (jvS (JT.mk 3#8 0#64 [] [] []) jc0)) (n:=0+dp) (m:=1) (sz:=4) (by omega) (appJ_cs (cs:=[]) (new:=dcs) (n:=0) (m:=dp) (sz:=4) rfl (fun _ h=>absurd h (Nat.not_lt_zero _)) hdcl hf11) rfl (fun j hj=>updJ_new hj) j hj)).trans (rzJ_raw (hdr9.raw _ (nthJ_mem hj)))) (fun hf=>⟨(hI 18 rfl hf).1,fun hm=>(hI 18 rfl hf).2 hm rfl⟩) marks_off (n:=0+dp+1) (by rw [List.length_append,hdm]; show dp+1=_; omega) hc14 (by omega),?_⟩
         refine strs_frz (l:=((dataJ f).ns++[moreB]).map U8) (F:=fun j=>memB j [6,8,15,18]) (fun j hj=>?_) (fun hf=>(hI 15 rfl hf).1) (n:=0+dp+1) (by rw [List.length_map,List.length_append,hdp]; show dp+1=_; omega) he7 (by omega)
         rw [nmJ_map,nmL_app] at hj ⊢
         exact appJ_cs (cs:=nmJ (dataJ f).ns) (new:=nmJ [moreB]) (n:=0+dp) (m:=1) (sz:=0) (by omega) (appJ_cs (cs:=[]) (new:=nmJ (dataJ f).ns) (n:=0) (m:=dp) (sz:=0) rfl (fun _ h=>absurd h (Nat.not_lt_zero _)) hdnl hf5) rfl (fun _ _=>rfl) j hj
        have hrow9:RowJ W9 ms9 1 (flat (jvS (tNum f.t) ua)++(flat (jvS (tText (evNm f.k)) ub)++flat (jvS (JT.mk 6#8 0#64 [] ((dataJ f).l++[(JT.mk 3#8 0#64 [] [] [])]) ((dataJ f).ns++[moreB])) ⟨some ((α 18).add (0+0)),0+dp+1,c14,some ((α 15).add (0+0)),0+dp+1,e7⟩))) [tNum f.t,tText (evNm f.k),(JT.mk 6#8 0#64 [] ((dataJ f).l++[(JT.mk 3#8 0#64 [] [] [])]) ((dataJ f).ns++[moreB]))]:=((RowJ.nil.snoc (wa.later hL9)).snoc (wb.later hL9)).snoc hD
        exact ⟨hrow9.frz2 (F:=fun j=>memB j [6,8,15,18]) (fun j hj=>(by have hj:j<15:=hj; rcases (show j=0∨j=1∨j=2∨j=3∨j=4∨j=5∨j=6∨j=7∨j=8∨j=9∨j=10∨j=11∨j=12∨j=13∨j=14 by omega) with rfl|rfl|rfl|rfl|rfl|rfl|rfl|rfl|rfl|rfl|rfl|rfl|rfl|rfl|rfl <;> rfl)) (fun hf=>⟨(hI 8 rfl hf).1,fun hm=>(hI 8 rfl hf).2 hm rfl⟩) marks_off (n:=3) rfl hc7n (by decide),strs_frz (l:=[timeB,nameB,dataB].map U8) (F:=fun j=>memB j [6,8,15,18]) (fun j hj=>(by have hj:j<3:=hj; rcases (show j=0∨j=1∨j=2 by omega) with rfl|rfl|rfl <;> rfl)) (fun hf=>(hI 6 rfl hf).1) (n:=3) rfl hc6n (by decide)⟩
       ·rw [hev9] at hr
        obtain ⟨_,W',ms',_,rfl,rfl⟩:=hr
        exact ⟨rfl,rfl⟩
       rintro y hs ⟨rfl,hdrop⟩
       rw [hdrop]
       (repeat show _∧_;first|refine yr ?_|refine yt ?_|refine yf ?_|refine yo ?_)
       refine call_past (fn_qevent (d:=0) (v:=.mk 5#8 0#64 [] (evJ f).l (evJ f).ns) (x:=⟨some A,3,xmc,some B,3,xpc⟩) (show TAt W5 ms5 2 (.mk 5#8 0#64 [] (evJ f).l (evJ f).ns) _ from hv5) ⟨Nat.zero_le _,(shrt_ev hck).2⟩) 0 [] rfl rfl (by (repeat first|exact trivial|refine ent1 ?_)) (by (repeat first|exact trivial|refine ent1 ?_)) (fun _ _=>trivial) (fun x hs hr=>?_) ?_
       ·rw [hevl] at hr
        obtain ⟨_,W',ms',h1,_,rfl⟩:=hr
        exact ⟨W',ms',rfl,h1⟩
       rintro y hs hr
       rw [hevl] at hr
       obtain ⟨_,W6,ms6,_,rfl,rfl⟩:=hr
       (repeat show _∧_;first|refine yr ?_|refine yt ?_|refine yf ?_|refine yo ?_)
       exact ⟨.a (.c (.bool true)),[[.past W6 ms6]],⟨[0],⟨rfl,rfl,rfl⟩,by (repeat first|exact trivial|refine ent1 ?_)⟩,rfl⟩
     ·(repeat show _∧_;first|refine yr ?_|refine yt ?_|refine yf ?_|refine yo ?_)
      refine And.intro ⟨he5,Nat.le_of_eq (Nat.zero_add _),(show (0+dp+1)*16≤140737488355328 by omega)⟩ ?_
      intro e7 he7
      (repeat show _∧_;first|refine yr ?_|refine yt ?_|refine yf ?_|refine yo ?_)
      refine ⟨nthC dcs,?_,?_⟩
      ·exact (hdi da rfl).imp id (fun h=>by rw [← hdcl,range_nthC]; exact RawAt.past (i:=0) rfl h)
      have hf11:∀ j,j<dcs.length→nthC dcs j=nthC dcs j:=fun _ _=>rfl
      refine ⟨⟨Nat.le_refl _,(show 0+scale 0 (4+1)≤0 by decide),(show (0+dp)*80≤140737488355328 by omega)⟩,fun c11 hc11=>?_⟩
      (repeat show _∧_;first|refine yr ?_|refine yt ?_|refine yf ?_|refine yo ?_)
      refine And.intro ⟨hc11,Nat.le_of_eq (Nat.zero_add _),(show (0+dp+1)*80≤140737488355328 by omega)⟩ ?_
      intro c14 hc14
      (repeat show _∧_;first|refine yr ?_|refine yt ?_|refine yf ?_|refine yo ?_)
      refine And.intro (show (0:Int)≤2∧(2:Int)<((0+3:Nat):Int) by decide) ?_
      (repeat show _∧_;first|refine yr ?_|refine yt ?_|refine yf ?_|refine yo ?_)
      refine And.intro (show 2*5+5≤scale c7 (4+1) by rw [sc5]; omega) ?_
      (repeat show _∧_;first|refine yr ?_|refine yt ?_|refine yf ?_|refine yo ?_)
      refine call_lendU [6,8,15,18] 0 [] rfl rfl (by (repeat first|exact trivial|refine ent1 ?_)) NoP.nil (fun _ _=>trivial) (fun W9 ms9 α hL9 hI=>⟨[.agg (jvS (JT.mk 6#8 0#64 [] [tNum f.t,tText (evNm f.k),(JT.mk 6#8 0#64 [] ((dataJ f).l++[(JT.mk 3#8 0#64 [] [] [])]) ((dataJ f).ns++[moreB]))] [timeB,nameB,dataB]) ⟨some ((α 8).add (0+0)),3,c7,some ((α 6).add (0+0)),3,c6⟩)],?_,(fn_qevent (d:=0) (v:=(JT.mk 6#8 0#64 [] [tNum f.t,tText (evNm f.k),(JT.mk 6#8 0#64 [] ((dataJ f).l++[(JT.mk 3#8 0#64 [] [] [])]) ((dataJ f).ns++[moreB]))] [timeB,nameB,dataB])) (x:=⟨some ((α 8).add (0+0)),3,c7,some ((α 6).add (0+0)),3,c6⟩) ?_ hsh9).mono (Res':=fun y hs=>y=.tup [.agg (evS ev0 ec0),.c (.int .i64 4)]∧hs.drop 1=[]) (fun x hs hr=>?_)⟩) (fun x hs hr=>by rw [hr.2]; exact NoP.nil) ?_
      ·(repeat first|exact trivial|refine ent1 ?_)
      ·have hD:TAt W9 ms9 1 (JT.mk 6#8 0#64 [] ((dataJ f).l++[(JT.mk 3#8 0#64 [] [] [])]) ((dataJ f).ns++[moreB])) ⟨some ((α 18).add (0+0)),0+dp+1,c14,some ((α 15).add (0+0)),0+dp+1,e7⟩:=by
        refine ⟨(hdr9.later hL9).frz2 (F:=fun j=>memB j [6,8,15,18]) (fun j hj=>by exact (congrArg (fun y=>(SC.rz (fun j=>memB j [6,8,15,18]) α y).raw) (appJ_cs (cs:=dcs) (new:=flat (jvS (JT.mk 3#8 0#64 [] [] []) jc0)) (n:=0+dp) (m:=1) (sz:=4) (by omega) (appJ_cs (cs:=[]) (new:=dcs) (n:=0) (m:=dp) (sz:=4) rfl (fun _ h=>absurd h (Nat.not_lt_zero _)) hdcl hf11) rfl (fun j hj=>updJ_new hj) j hj)).trans (rzJ_raw (hdr9.raw _ (nthJ_mem hj)))) (fun hf=>⟨(hI 18 rfl hf).1,fun hm=>(hI 18 rfl hf).2 hm rfl⟩) marks_off (n:=0+dp+1) (by rw [List.length_append,hdm]; show dp+1=_; omega) hc14 (by omega),?_⟩
        refine strs_frz (l:=((dataJ f).ns++[moreB]).map U8) (F:=fun j=>memB j [6,8,15,18]) (fun j hj=>?_) (fun hf=>(hI 15 rfl hf).1) (n:=0+dp+1) (by rw [List.length_map,List.length_append,hdp]; show dp+1=_; omega) he7 (by omega)
        rw [nmJ_map,nmL_app] at hj ⊢
        exact appJ_cs (cs:=nmJ (dataJ f).ns) (new:=nmJ [moreB]) (n:=0+dp) (m:=1) (sz:=0) (by omega) (appJ_cs (cs:=[]) (new:=nmJ (dataJ f).ns) (n:=0) (m:=dp) (sz:=0) rfl (fun _ h=>absurd h (Nat.not_lt_zero _)) hdnl hf5) rfl (fun _ _=>rfl) j hj
       have hrow9:RowJ W9 ms9 1 (flat (jvS (tNum f.t) ua)++(flat (jvS (tText (evNm f.k)) ub)++flat (jvS (JT.mk 6#8 0#64 [] ((dataJ f).l++[(JT.mk 3#8 0#64 [] [] [])]) ((dataJ f).ns++[moreB])) ⟨some ((α 18).add (0+0)),0+dp+1,c14,some ((α 15).add (0+0)),0+dp+1,e7⟩))) [tNum f.t,tText (evNm f.k),(JT.mk 6#8 0#64 [] ((dataJ f).l++[(JT.mk 3#8 0#64 [] [] [])]) ((dataJ f).ns++[moreB]))]:=((RowJ.nil.snoc (wa.later hL9)).snoc (wb.later hL9)).snoc hD
       exact ⟨hrow9.frz2 (F:=fun j=>memB j [6,8,15,18]) (fun j hj=>(by have hj:j<15:=hj; rcases (show j=0∨j=1∨j=2∨j=3∨j=4∨j=5∨j=6∨j=7∨j=8∨j=9∨j=10∨j=11∨j=12∨j=13∨j=14 by omega) with rfl|rfl|rfl|rfl|rfl|rfl|rfl|rfl|rfl|rfl|rfl|rfl|rfl|rfl|rfl <;> rfl)) (fun hf=>⟨(hI 8 rfl hf).1,fun hm=>(hI 8 rfl hf).2 hm rfl⟩) marks_off (n:=3) rfl hc7n (by decide),strs_frz (l:=[timeB,nameB,dataB].map U8) (F:=fun j=>memB j [6,8,15,18]) (fun j hj=>(by have hj:j<3:=hj; rcases (show j=0∨j=1∨j=2 by omega) with rfl|rfl|rfl <;> rfl)) (fun hf=>(hI 6 rfl hf).1) (n:=3) rfl hc6n (by decide)⟩
      ·rw [hev9] at hr
       obtain ⟨_,W',ms',_,rfl,rfl⟩:=hr
       exact ⟨rfl,rfl⟩
      rintro y hs ⟨rfl,hdrop⟩
      rw [hdrop]
      (repeat show _∧_;first|refine yr ?_|refine yt ?_|refine yf ?_|refine yo ?_)
      refine call_past (fn_qevent (d:=0) (v:=.mk 5#8 0#64 [] (evJ f).l (evJ f).ns) (x:=⟨some A,3,xmc,some B,3,xpc⟩) (show TAt W5 ms5 2 (.mk 5#8 0#64 [] (evJ f).l (evJ f).ns) _ from hv5) ⟨Nat.zero_le _,(shrt_ev hck).2⟩) 0 [] rfl rfl (by (repeat first|exact trivial|refine ent1 ?_)) (by (repeat first|exact trivial|refine ent1 ?_)) (fun _ _=>trivial) (fun x hs hr=>?_) ?_
      ·rw [hevl] at hr
       obtain ⟨_,W',ms',h1,_,rfl⟩:=hr
       exact ⟨W',ms',rfl,h1⟩
      rintro y hs hr
      rw [hevl] at hr
      obtain ⟨_,W6,ms6,_,rfl,rfl⟩:=hr
      (repeat show _∧_;first|refine yr ?_|refine yt ?_|refine yf ?_|refine yo ?_)
      exact ⟨.a (.c (.bool true)),[[.past W6 ms6]],⟨[0],⟨rfl,rfl,rfl⟩,by (repeat first|exact trivial|refine ent1 ?_)⟩,rfl⟩
    ·(repeat show _∧_;first|refine yr ?_|refine yt ?_|refine yf ?_|refine yo ?_)
     refine ⟨nthC (nmJ (dataJ f).ns),?_,?_⟩
     ·rcases Nat.eq_zero_or_pos dp with h0|h0
      ·exact .inl h0
      ·exact .inr (by rw [← hdnl,range_nthC]; exact RawAt.past (i:=0) rfl (hdn.im db rfl (by have:=hdn.le; omega)))
     have hf5:∀ j,j<(nmJ (dataJ f).ns).length→nthC (nmJ (dataJ f).ns) j=nthC (nmJ (dataJ f).ns) j:=fun _ _=>rfl
     refine ⟨⟨Nat.le_refl _,(show 0+scale 0 (0+1)≤0 by decide),(show (0+dp)*16≤140737488355328 by omega)⟩,fun e5 he5=>?_⟩
     (repeat show _∧_;first|refine yr ?_|refine yt ?_|refine yf ?_|refine yo ?_)
     refine And.intro ⟨he5,Nat.le_of_eq (Nat.zero_add _),(show (0+dp+1)*16≤140737488355328 by omega)⟩ ?_
     intro e7 he7
     (repeat show _∧_;first|refine yr ?_|refine yt ?_|refine yf ?_|refine yo ?_)
     refine ⟨nthC dcs,?_,?_⟩
     ·exact (hdi da rfl).imp id (fun h=>by rw [← hdcl,range_nthC]; exact RawAt.past (i:=0) rfl h)
     have hf11:∀ j,j<dcs.length→nthC dcs j=nthC dcs j:=fun _ _=>rfl
     refine ⟨⟨Nat.le_refl _,(show 0+scale 0 (4+1)≤0 by decide),(show (0+dp)*80≤140737488355328 by omega)⟩,fun c11 hc11=>?_⟩
     (repeat show _∧_;first|refine yr ?_|refine yt ?_|refine yf ?_|refine yo ?_)
     refine And.intro ⟨hc11,Nat.le_of_eq (Nat.zero_add _),(show (0+dp+1)*80≤140737488355328 by omega)⟩ ?_
     intro c14 hc14
     (repeat show _∧_;first|refine yr ?_|refine yt ?_|refine yf ?_|refine yo ?_)
     refine And.intro (show (0:Int)≤2∧(2:Int)<((0+3:Nat):Int) by decide) ?_
     (repeat show _∧_;first|refine yr ?_|refine yt ?_|refine yf ?_|refine yo ?_)
     refine And.intro (show 2*5+5≤scale c7 (4+1) by rw [sc5]; omega) ?_
     (repeat show _∧_;first|refine yr ?_|refine yt ?_|refine yf ?_|refine yo ?_)
     refine call_lendU [6,8,15,18] 0 [] rfl rfl (by (repeat first|exact trivial|refine ent1 ?_)) NoP.nil (fun _ _=>trivial) (fun W9 ms9 α hL9 hI=>⟨[.agg (jvS (JT.mk 6#8 0#64 [] [tNum f.t,tText (evNm f.k),(JT.mk 6#8 0#64 [] ((dataJ f).l++[(JT.mk 3#8 0#64 [] [] [])]) ((dataJ f).ns++[moreB]))] [timeB,nameB,dataB]) ⟨some ((α 8).add (0+0)),3,c7,some ((α 6).add (0+0)),3,c6⟩)],?_,(fn_qevent (d:=0) (v:=(JT.mk 6#8 0#64 [] [tNum f.t,tText (evNm f.k),(JT.mk 6#8 0#64 [] ((dataJ f).l++[(JT.mk 3#8 0#64 [] [] [])]) ((dataJ f).ns++[moreB]))] [timeB,nameB,dataB])) (x:=⟨some ((α 8).add (0+0)),3,c7,some ((α 6).add (0+0)),3,c6⟩) ?_ hsh9).mono (Res':=fun y hs=>y=.tup [.agg (evS ev0 ec0),.c (.int .i64 4)]∧hs.drop 1=[]) (fun x hs hr=>?_)⟩) (fun x hs hr=>by rw [hr.2]; exact NoP.nil) ?_
     ·(repeat first|exact trivial|refine ent1 ?_)
     ·have hD:TAt W9 ms9 1 (JT.mk 6#8 0#64 [] ((dataJ f).l++[(JT.mk 3#8 0#64 [] [] [])]) ((dataJ f).ns++[moreB])) ⟨some ((α 18).add (0+0)),0+dp+1,c14,some ((α 15).add (0+0)),0+dp+1,e7⟩:=by
       refine ⟨(hdr9.later hL9).frz2 (F:=fun j=>memB j [6,8,15,18]) (fun j hj=>by exact (congrArg (fun y=>(SC.rz (fun j=>memB j [6,8,15,18]) α y).raw) (appJ_cs (cs:=dcs) (new:=flat (jvS (JT.mk 3#8 0#64 [] [] []) jc0)) (n:=0+dp) (m:=1) (sz:=4) (by omega) (appJ_cs (cs:=[]) (new:=dcs) (n:=0) (m:=dp) (sz:=4) rfl (fun _ h=>absurd h (Nat.not_lt_zero _)) hdcl hf11) rfl (fun j hj=>updJ_new hj) j hj)).trans (rzJ_raw (hdr9.raw _ (nthJ_mem hj)))) (fun hf=>⟨(hI 18 rfl hf).1,fun hm=>(hI 18 rfl hf).2 hm rfl⟩) marks_off (n:=0+dp+1) (by rw [List.length_append,hdm]; show dp+1=_; omega) hc14 (by omega),?_⟩
       refine strs_frz (l:=((dataJ f).ns++[moreB]).map U8) (F:=fun j=>memB j [6,8,15,18]) (fun j hj=>?_) (fun hf=>(hI 15 rfl hf).1) (n:=0+dp+1) (by rw [List.length_map,List.length_append,hdp]; show dp+1=_; omega) he7 (by omega)
       rw [nmJ_map,nmL_app] at hj ⊢
       exact appJ_cs (cs:=nmJ (dataJ f).ns) (new:=nmJ [moreB]) (n:=0+dp) (m:=1) (sz:=0) (by omega) (appJ_cs (cs:=[]) (new:=nmJ (dataJ f).ns) (n:=0) (m:=dp) (sz:=0) rfl (fun _ h=>absurd h (Nat.not_lt_zero _)) hdnl hf5) rfl (fun _ _=>rfl) j hj
      have hrow9:RowJ W9 ms9 1 (flat (jvS (tNum f.t) ua)++(flat (jvS (tText (evNm f.k)) ub)++flat (jvS (JT.mk 6#8 0#64 [] ((dataJ f).l++[(JT.mk 3#8 0#64 [] [] [])]) ((dataJ f).ns++[moreB])) ⟨some ((α 18).add (0+0)),0+dp+1,c14,some ((α 15).add (0+0)),0+dp+1,e7⟩))) [tNum f.t,tText (evNm f.k),(JT.mk 6#8 0#64 [] ((dataJ f).l++[(JT.mk 3#8 0#64 [] [] [])]) ((dataJ f).ns++[moreB]))]:=((RowJ.nil.snoc (wa.later hL9)).snoc (wb.later hL9)).snoc hD
      exact ⟨hrow9.frz2 (F:=fun j=>memB j [6,8,15,18]) (fun j hj=>(by have hj:j<15:=hj; rcases (show j=0∨j=1∨j=2∨j=3∨j=4∨j=5∨j=6∨j=7∨j=8∨j=9∨j=10∨j=11∨j=12∨j=13∨j=14 by omega) with rfl|rfl|rfl|rfl|rfl|rfl|rfl|rfl|rfl|rfl|rfl|rfl|rfl|rfl|rfl <;> rfl)) (fun hf=>⟨(hI 8 rfl hf).1,fun hm=>(hI 8 rfl hf).2 hm rfl⟩) marks_off (n:=3) rfl hc7n (by decide),strs_frz (l:=[timeB,nameB,dataB].map U8) (F:=fun j=>memB j [6,8,15,18]) (fun j hj=>(by have hj:j<3:=hj; rcases (show j=0∨j=1∨j=2 by omega) with rfl|rfl|rfl <;> rfl)) (fun hf=>(hI 6 rfl hf).1) (n:=3) rfl hc6n (by decide)⟩
     ·rw [hev9] at hr
      obtain ⟨_,W',ms',_,rfl,rfl⟩:=hr
      exact ⟨rfl,rfl⟩
     rintro y hs ⟨rfl,hdrop⟩
     rw [hdrop]
     (repeat show _∧_;first|refine yr ?_|refine yt ?_|refine yf ?_|refine yo ?_)
     refine call_past (fn_qevent (d:=0) (v:=.mk 5#8 0#64 [] (evJ f).l (evJ f).ns) (x:=⟨some A,3,xmc,some B,3,xpc⟩) (show TAt W5 ms5 2 (.mk 5#8 0#64 [] (evJ f).l (evJ f).ns) _ from hv5) ⟨Nat.zero_le _,(shrt_ev hck).2⟩) 0 [] rfl rfl (by (repeat first|exact trivial|refine ent1 ?_)) (by (repeat first|exact trivial|refine ent1 ?_)) (fun _ _=>trivial) (fun x hs hr=>?_) ?_
     ·rw [hevl] at hr
      obtain ⟨_,W',ms',h1,_,rfl⟩:=hr
      exact ⟨W',ms',rfl,h1⟩
     rintro y hs hr
     rw [hevl] at hr
     obtain ⟨_,W6,ms6,_,rfl,rfl⟩:=hr
     (repeat show _∧_;first|refine yr ?_|refine yt ?_|refine yf ?_|refine yo ?_)
     exact ⟨.a (.c (.bool true)),[[.past W6 ms6]],⟨[0],⟨rfl,rfl,rfl⟩,by (repeat first|exact trivial|refine ent1 ?_)⟩,rfl⟩
   ·(repeat show _∧_;first|refine yr ?_|refine yt ?_|refine yf ?_|refine yo ?_)
    refine ⟨nthC (nmJ (dataJ f).ns),?_,?_⟩
    ·rcases Nat.eq_zero_or_pos dp with h0|h0
     ·exact .inl h0
     ·exact .inr (by rw [← hdnl,range_nthC]; exact RawAt.past (i:=0) rfl (hdn.im db rfl (by have:=hdn.le; omega)))
    have hf5:∀ j,j<(nmJ (dataJ f).ns).length→nthC (nmJ (dataJ f).ns) j=nthC (nmJ (dataJ f).ns) j:=fun _ _=>rfl
    refine ⟨⟨Nat.le_refl _,(show 0+scale 0 (0+1)≤0 by decide),(show (0+dp)*16≤140737488355328 by omega)⟩,fun e5 he5=>?_⟩
    (repeat show _∧_;first|refine yr ?_|refine yt ?_|refine yf ?_|refine yo ?_)
    refine And.intro ⟨he5,Nat.le_of_eq (Nat.zero_add _),(show (0+dp+1)*16≤140737488355328 by omega)⟩ ?_
    intro e7 he7
    (repeat show _∧_;first|refine yr ?_|refine yt ?_|refine yf ?_|refine yo ?_)
    refine ⟨nthC dcs,?_,?_⟩
    ·exact (hdi da rfl).imp id (fun h=>by rw [← hdcl,range_nthC]; exact RawAt.past (i:=0) rfl h)
    have hf11:∀ j,j<dcs.length→nthC dcs j=nthC dcs j:=fun _ _=>rfl
    refine ⟨⟨Nat.le_refl _,(show 0+scale 0 (4+1)≤0 by decide),(show (0+dp)*80≤140737488355328 by omega)⟩,fun c11 hc11=>?_⟩
    (repeat show _∧_;first|refine yr ?_|refine yt ?_|refine yf ?_|refine yo ?_)
    refine And.intro ⟨hc11,Nat.le_of_eq (Nat.zero_add _),(show (0+dp+1)*80≤140737488355328 by omega)⟩ ?_
    intro c14 hc14
    (repeat show _∧_;first|refine yr ?_|refine yt ?_|refine yf ?_|refine yo ?_)
    refine And.intro (show (0:Int)≤2∧(2:Int)<((0+3:Nat):Int) by decide) ?_
    (repeat show _∧_;first|refine yr ?_|refine yt ?_|refine yf ?_|refine yo ?_)
    refine And.intro (show 2*5+5≤scale c7 (4+1) by rw [sc5]; omega) ?_
    (repeat show _∧_;first|refine yr ?_|refine yt ?_|refine yf ?_|refine yo ?_)
    refine call_lendU [6,8,15,18] 0 [] rfl rfl (by (repeat first|exact trivial|refine ent1 ?_)) NoP.nil (fun _ _=>trivial) (fun W9 ms9 α hL9 hI=>⟨[.agg (jvS (JT.mk 6#8 0#64 [] [tNum f.t,tText (evNm f.k),(JT.mk 6#8 0#64 [] ((dataJ f).l++[(JT.mk 3#8 0#64 [] [] [])]) ((dataJ f).ns++[moreB]))] [timeB,nameB,dataB]) ⟨some ((α 8).add (0+0)),3,c7,some ((α 6).add (0+0)),3,c6⟩)],?_,(fn_qevent (d:=0) (v:=(JT.mk 6#8 0#64 [] [tNum f.t,tText (evNm f.k),(JT.mk 6#8 0#64 [] ((dataJ f).l++[(JT.mk 3#8 0#64 [] [] [])]) ((dataJ f).ns++[moreB]))] [timeB,nameB,dataB])) (x:=⟨some ((α 8).add (0+0)),3,c7,some ((α 6).add (0+0)),3,c6⟩) ?_ hsh9).mono (Res':=fun y hs=>y=.tup [.agg (evS ev0 ec0),.c (.int .i64 4)]∧hs.drop 1=[]) (fun x hs hr=>?_)⟩) (fun x hs hr=>by rw [hr.2]; exact NoP.nil) ?_
    ·(repeat first|exact trivial|refine ent1 ?_)
    ·have hD:TAt W9 ms9 1 (JT.mk 6#8 0#64 [] ((dataJ f).l++[(JT.mk 3#8 0#64 [] [] [])]) ((dataJ f).ns++[moreB])) ⟨some ((α 18).add (0+0)),0+dp+1,c14,some ((α 15).add (0+0)),0+dp+1,e7⟩:=by
      refine ⟨(hdr9.later hL9).frz2 (F:=fun j=>memB j [6,8,15,18]) (fun j hj=>by exact (congrArg (fun y=>(SC.rz (fun j=>memB j [6,8,15,18]) α y).raw) (appJ_cs (cs:=dcs) (new:=flat (jvS (JT.mk 3#8 0#64 [] [] []) jc0)) (n:=0+dp) (m:=1) (sz:=4) (by omega) (appJ_cs (cs:=[]) (new:=dcs) (n:=0) (m:=dp) (sz:=4) rfl (fun _ h=>absurd h (Nat.not_lt_zero _)) hdcl hf11) rfl (fun j hj=>updJ_new hj) j hj)).trans (rzJ_raw (hdr9.raw _ (nthJ_mem hj)))) (fun hf=>⟨(hI 18 rfl hf).1,fun hm=>(hI 18 rfl hf).2 hm rfl⟩) marks_off (n:=0+dp+1) (by rw [List.length_append,hdm]; show dp+1=_; omega) hc14 (by omega),?_⟩
      refine strs_frz (l:=((dataJ f).ns++[moreB]).map U8) (F:=fun j=>memB j [6,8,15,18]) (fun j hj=>?_) (fun hf=>(hI 15 rfl hf).1) (n:=0+dp+1) (by rw [List.length_map,List.length_append,hdp]; show dp+1=_; omega) he7 (by omega)
      rw [nmJ_map,nmL_app] at hj ⊢
      exact appJ_cs (cs:=nmJ (dataJ f).ns) (new:=nmJ [moreB]) (n:=0+dp) (m:=1) (sz:=0) (by omega) (appJ_cs (cs:=[]) (new:=nmJ (dataJ f).ns) (n:=0) (m:=dp) (sz:=0) rfl (fun _ h=>absurd h (Nat.not_lt_zero _)) hdnl hf5) rfl (fun _ _=>rfl) j hj
     have hrow9:RowJ W9 ms9 1 (flat (jvS (tNum f.t) ua)++(flat (jvS (tText (evNm f.k)) ub)++flat (jvS (JT.mk 6#8 0#64 [] ((dataJ f).l++[(JT.mk 3#8 0#64 [] [] [])]) ((dataJ f).ns++[moreB])) ⟨some ((α 18).add (0+0)),0+dp+1,c14,some ((α 15).add (0+0)),0+dp+1,e7⟩))) [tNum f.t,tText (evNm f.k),(JT.mk 6#8 0#64 [] ((dataJ f).l++[(JT.mk 3#8 0#64 [] [] [])]) ((dataJ f).ns++[moreB]))]:=((RowJ.nil.snoc (wa.later hL9)).snoc (wb.later hL9)).snoc hD
     exact ⟨hrow9.frz2 (F:=fun j=>memB j [6,8,15,18]) (fun j hj=>(by have hj:j<15:=hj; rcases (show j=0∨j=1∨j=2∨j=3∨j=4∨j=5∨j=6∨j=7∨j=8∨j=9∨j=10∨j=11∨j=12∨j=13∨j=14 by omega) with rfl|rfl|rfl|rfl|rfl|rfl|rfl|rfl|rfl|rfl|rfl|rfl|rfl|rfl|rfl <;> rfl)) (fun hf=>⟨(hI 8 rfl hf).1,fun hm=>(hI 8 rfl hf).2 hm rfl⟩) marks_off (n:=3) rfl hc7n (by decide),strs_frz (l:=[timeB,nameB,dataB].map U8) (F:=fun j=>memB j [6,8,15,18]) (fun j hj=>(by have hj:j<3:=hj; rcases (show j=0∨j=1∨j=2 by omega) with rfl|rfl|rfl <;> rfl)) (fun hf=>(hI 6 rfl hf).1) (n:=3) rfl hc6n (by decide)⟩
    ·rw [hev9] at hr
     obtain ⟨_,W',ms',_,rfl,rfl⟩:=hr
     exact ⟨rfl,rfl⟩
    rintro y hs ⟨rfl,hdrop⟩
    rw [hdrop]
    (repeat show _∧_;first|refine yr ?_|refine yt ?_|refine yf ?_|refine yo ?_)
    refine call_past (fn_qevent (d:=0) (v:=.mk 5#8 0#64 [] (evJ f).l (evJ f).ns) (x:=⟨some A,3,xmc,some B,3,xpc⟩) (show TAt W5 ms5 2 (.mk 5#8 0#64 [] (evJ f).l (evJ f).ns) _ from hv5) ⟨Nat.zero_le _,(shrt_ev hck).2⟩) 0 [] rfl rfl (by (repeat first|exact trivial|refine ent1 ?_)) (by (repeat first|exact trivial|refine ent1 ?_)) (fun _ _=>trivial) (fun x hs hr=>?_) ?_
    ·rw [hevl] at hr
     obtain ⟨_,W',ms',h1,_,rfl⟩:=hr
     exact ⟨W',ms',rfl,h1⟩
    rintro y hs hr
    rw [hevl] at hr
    obtain ⟨_,W6,ms6,_,rfl,rfl⟩:=hr
    (repeat show _∧_;first|refine yr ?_|refine yt ?_|refine yf ?_|refine yo ?_)
    exact ⟨.a (.c (.bool true)),[[.past W6 ms6]],⟨[0],⟨rfl,rfl,rfl⟩,by (repeat first|exact trivial|refine ent1 ?_)⟩,rfl⟩
end Sx
end
end Go.Proofs.YtnehmcpkeamghaaDoor
