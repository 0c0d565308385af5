/-
  Texts of this claim, part 6: JsP, JsQ, JsR, QjA, QjL, QjM, QjN, QjQ, QjR, QjS, JsT, JsA, JsE, Shf, JsX, Shg, JsN, JsV, JsB, JsC, JsD. No condition of its own.
-/
import Derived.Lib.ItoaNum
import Derived.Lib.Bytealg
import Derived.Shelf.Small.Strs
import Derived.Shelf.Strconv.Itoa1
import Derived.Shelf.Unicode.DecodeAny
import Derived.Shelf.Unicode.ValidAny
import Derived.Test.YtnehmcpkeamghaaDoorRows
import Derived.Shelf.Strconv.Itoa2
import Derived.Test.YtnehmcpkeamghaaDoorG5
namespace Go.Proofs.YtnehmcpkeamghaaDoor
set_option linter.unusedVariables false
section
namespace Js
open Sha

theorem blanks_len:∀ l:Bs,(blanks l).length≤l.length
 | []=>Nat.le_refl _
 | c::r=>by
  unfold blanks
  split
  ·have:=blanks_len r; simp only [List.length_cons]; omega
  ·exact Nat.le_refl _
theorem blanks_of {c:BitVec 8} {r:Bs} (h:blank c=false):blanks (c::r)=c::r:=by
 unfold blanks; rw [if_neg (by rw [h]; exact Bool.false_ne_true)]
theorem hexv_lt {c:BitVec 8} {n:Nat} (h:hexv c=some n):n<16:=by
 unfold hexv at h
 repeat' split at h
 all_goals first|(injection h with h; omega)|cases h
theorem unit_ok {l r:Bs} {n:Nat} (h:unit l=some (n,r)):n<65536∧r.length+6=l.length:=by
 unfold unit at h
 split at h
 ·split at h
  ·split at h
   ·rename_i h1 h2 h3 h4
    have:=hexv_lt h1; have:=hexv_lt h2; have:=hexv_lt h3; have:=hexv_lt h4
    injection h with h
    injection h with h5 h6
    subst h6
    exact ⟨by omega,by simp⟩
   ·cases h
  ·cases h
 ·cases h
theorem coded_ok {l r:Bs} {v:Nat} (h:coded l=.ok v r):scal v∧r.length+6≤l.length:=by
 unfold coded at h
 split at h
 ·cases h
 ·rename_i x t hu
  obtain ⟨h1,h2⟩:=unit_ok hu
  split at h
  ·injection h with h3 h4
   subst h3; subst h4
   exact ⟨by unfold scal; omega,by omega⟩
  ·split at h
   ·cases h
   ·split at h
    ·cases h
    ·rename_i low u hu2
     obtain ⟨h5,h6⟩:=unit_ok hu2
     split at h
     ·cases h
     ·injection h with h3 h4
      subst h3; subst h4
      exact ⟨by unfold scal; omega,by omega⟩
theorem esc1_ok {c:BitVec 8} {v:Nat} (h:esc1 c=some v):v<128:=by
 unfold esc1 at h
 repeat' split at h
 all_goals first
  | (rename_i h1; injection h with h; subst h; rcases h1 with rfl|rfl|rfl <;> decide)
  | (injection h with h; omega)
  | cases h
theorem esc_ok {l r:Bs} {v:Nat} (h:esc l=.ok v r):scal v∧r.length+2≤l.length:=by
 unfold esc at h
 split at h
 ·split at h
  ·rename_i h1
   injection h with h2 h3
   subst h2; subst h3
   exact ⟨.inl (by have:=esc1_ok h1; omega),by simp⟩
  ·split at h
   ·obtain ⟨h1,h2⟩:=coded_ok h
    exact ⟨h1,by omega⟩
   ·cases h
 ·cases h
theorem qr_len (r:Nat):(qr r).length≤6:=by
 unfold qr enc
 repeat' split
 all_goals simp
theorem ptext_ok:∀ (f:Nat) (l acc s r:Bs),ptext f l acc=.ok s r→r.length<l.length∧∃ rs:List Nat,(∀ x∈rs,scal x)∧s=acc++rs.flatMap enc∧(rs.flatMap qr).length≤3*(l.length-r.length-1)
 | 0,_,_,_,_,h=>by cases h
 | f+1,[],_,_,_,h=>by cases h
 | f+1,c::l,acc,s,r,h=>by
  unfold ptext at h
  split at h
  ·injection h with h1 h2
   subst h1; subst h2
   exact ⟨by simp,[],by simp,by simp,by simp⟩
  split at h
  ·cases h
  split at h
  ·split at h
   ·cases h
   ·rename_i v t he
    obtain ⟨h1,h2⟩:=esc_ok he
    obtain ⟨h3,rs,h4,h5,h6⟩:=ptext_ok f t _ s r h
    refine ⟨by omega,v::rs,?_,by rw [h5]; simp,?_⟩
    ·intro x hx
     rcases List.mem_cons.1 hx with rfl|hx
     ·exact h1
     ·exact h4 x hx
    ·have:=qr_len v
     rw [List.flatMap_cons,List.length_append]
     omega
  ·rename_i g1 g2 g3
   split at h
   ·cases h
   ·rename_i hb
    obtain ⟨h1,h2,h3,h4⟩:=dec_ok (l:=c::l) (by simp) hb
    have hp:=(dec_bad1 (c::l)).2
    obtain ⟨h5,rs,h6,h7,h8⟩:=ptext_ok f _ _ s r h
    rw [List.length_drop] at h5 h8
    refine ⟨by omega,(dec (c::l)).1::rs,?_,by rw [h7,h3]; simp,?_⟩
    ·intro x hx
     rcases List.mem_cons.1 hx with rfl|hx
     ·exact h1
     ·exact h6 x hx
    ·have hq:(qr (dec (c::l)).1).length≤3*(dec (c::l)).2:=by
      by_cases ha:c.toNat<128
      ·rw [dec_ascii ha]
       have e1:¬ (c.toNat=34∨c.toNat=92):=by
        rintro (e|e)
        ·exact g1 (BitVec.eq_of_toNat_eq e)
        ·exact g3 (BitVec.eq_of_toNat_eq e)
       unfold qr
       rw [if_neg e1,if_neg (by omega),if_neg (by omega),if_neg (by omega),if_neg g2]
       unfold enc
       rw [if_pos ha]
       simp
      ·have hn:2≤(dec (c::l)).2:=by
        rcases Nat.lt_or_ge (dec (c::l)).2 2 with hlt|hge
        ·exfalso
         have e1:(dec (c::l)).2=1:=by omega
         rw [e1] at h2 h3
         have:[c]=enc (dec (c::l)).1:=by rw [← h3]; rfl
         unfold enc at this
         split at this
         ·rename_i hlt
          injection this with this _
          rw [this,b8_nat (by omega)] at ha
          exact ha hlt
         ·split at this
          ·simp at this
          ·split at this <;> simp at this
        ·exact hge
       have:=qr_len (dec (c::l)).1
       omega
     rw [List.flatMap_cons,List.length_append]
     omega
theorem text_ok {l s r:Bs} (h:text l=.ok s r):r.length<l.length∧∃ rs:List Nat,(∀ x∈rs,scal x)∧s=rs.flatMap enc∧(rs.flatMap qr).length≤3*(l.length-r.length-1):=by
 obtain ⟨h1,rs,h2,h3,h4⟩:=ptext_ok _ _ _ _ _ h
 exact ⟨h1,rs,h2,by simpa using h3,h4⟩
theorem quoteF_of:∀ (rs:List Nat) (n:Nat),(∀ r∈rs,scal r)→rs.length≤n→quoteF n (rs.flatMap enc)=rs.flatMap qr
 | [],0,_,_=>rfl
 | [],n+1,_,_=>rfl
 | r::rs,0,_,h=>by simp at h
 | r::rs,n+1,h,hn=>by
  have hr:=h r (List.mem_cons_self ..)
  rw [List.flatMap_cons,List.flatMap_cons]
  unfold quoteF
  rw [if_neg (by simp [enc_ne r]),dec_enc hr,List.drop_left]
  rw [quoteF_of rs n (fun r hr=>h r (List.mem_cons_of_mem _ hr)) (by simpa using hn)]
theorem len_rs:∀ rs:List Nat,rs.length≤(rs.flatMap enc).length
 | []=>Nat.le_refl _
 | r::rs=>by
  have:=len_rs rs
  have:=enc_pos r
  rw [List.flatMap_cons,List.length_append,List.length_cons]
  omega
theorem quote_of {rs:List Nat} (h:∀ r∈rs,scal r):quote (rs.flatMap enc)=34#8::(rs.flatMap qr++[34#8]):=by
 unfold quote
 rw [quoteF_of rs _ h (len_rs rs)]
theorem hexd_v:∀ n:Fin 16,hexv (hexd n.val)=some n.val:=by decide +kernel
theorem esc_hex (r:Nat) (h:r<32) (t:Bs):esc (92#8::117#8::48#8::48#8::hexd (r / 16)::hexd (r % 16)::t)=.ok r t:=by
 have h1:=hexd_v ⟨r / 16,by omega⟩
 have h2:=hexd_v ⟨r % 16,by omega⟩
 have h0:hexv 48#8=some 0:=by decide +kernel
 dsimp only at h1 h2
 unfold esc
 have e:esc1 117#8=none:=by decide +kernel
 simp only [e,if_pos]
 unfold coded unit
 simp only [h0,h1,h2,and_self,if_true]
 rw [if_pos (by omega)]
 congr 1
 omega
theorem esc_sign (c:BitVec 8) (v:Nat) (h:esc1 c=some v) (t:Bs):esc (92#8::c::t)=.ok v t:=by
 unfold esc
 simp only [h]
theorem ptext_esc {f:Nat} {l t acc:Bs} {v:Nat} (h:esc (92#8::l)=.ok v t):ptext (f+1) (92#8::l) acc=ptext f t (acc++enc v):=by
 conv=>lhs; unfold ptext
 rw [if_neg (by decide),if_neg (by decide),if_pos rfl,h]
theorem ptext_one {f r:Nat} (hr:scal r) (t acc:Bs):ptext (f+1) (qr r++t) acc=ptext f t (acc++enc r):=by
 unfold qr
 split
 ·rename_i h
  refine ptext_esc (esc_sign _ _ ?_ _)
  unfold esc1
  rcases h with rfl|rfl <;> decide +kernel
 split
 ·subst_vars; exact ptext_esc (esc_sign _ _ (by decide +kernel) _)
 split
 ·subst_vars; exact ptext_esc (esc_sign _ _ (by decide +kernel) _)
 split
 ·subst_vars; exact ptext_esc (esc_sign _ _ (by decide +kernel) _)
 split
 ·rename_i h; exact ptext_esc (esc_hex r h t)
 rename_i h1 h2 h3 h4 h5
 have hd:=dec_enc hr t
 obtain ⟨c,u,hu⟩:∃ c u,enc r=c::u:=by
  cases e:enc r with
  | nil=>exact absurd e (enc_ne r)
  | cons c u=>exact ⟨c,u,rfl⟩
 have hc:c.toNat=r∨128≤c.toNat:=by
  unfold enc at hu
  split at hu
  ·injection hu with e1 e2; subst e1; exact .inl (b8_nat (by omega))
  ·split at hu
   ·injection hu with e1 e2; subst e1; rw [b8_nat (by omega)]; omega
   ·split at hu
    ·injection hu with e1 e2; subst e1; rw [b8_nat (by omega)]; omega
    ·injection hu with e1 e2; subst e1
     unfold scal at hr
     rw [b8_nat (by omega)]; omega
 rw [hu] at hd ⊢
 rw [List.cons_append] at hd ⊢
 conv=>lhs; unfold ptext
 rw [if_neg (fun e=>by rw [e] at hc; revert hc; show ¬ (34=r∨128≤34); omega),if_neg (by omega),if_neg (fun e=>by rw [e] at hc; revert hc; show ¬ (92=r∨128≤92); omega),hd]
 have hg:=enc_good hr
 rw [hu] at hg
 rw [if_neg hg]
 congr 1
 ·rw [← List.cons_append,List.drop_left]
 ·rw [← List.cons_append,List.take_left]
theorem ptext_all:∀ (rs:List Nat) (f:Nat) (acc t:Bs),(∀ r∈rs,scal r)→rs.length<f→ptext f (rs.flatMap qr++34#8::t) acc=.ok (acc++rs.flatMap enc) t
 | [],0,_,_,_,h=>by simp at h
 | [],f+1,acc,t,_,_=>by
  show ptext (f+1) (34#8::t) acc=_
  unfold ptext
  rw [if_pos rfl]; simp
 | r::rs,0,_,_,_,h=>by simp at h
 | r::rs,f+1,acc,t,h,hf=>by
  rw [List.flatMap_cons,List.append_assoc,ptext_one (h r (List.mem_cons_self ..)),ptext_all rs f _ t (fun x hx=>h x (List.mem_cons_of_mem _ hx)) (by simpa using hf)]
  simp
theorem qr_pos (r:Nat):0<(qr r).length:=by
 unfold qr
 repeat' split
 all_goals first|exact enc_pos r|simp
theorem len_qr:∀ rs:List Nat,rs.length≤(rs.flatMap qr).length
 | []=>Nat.le_refl _
 | r::rs=>by
  have:=len_qr rs
  have:=qr_pos r
  rw [List.flatMap_cons,List.length_append,List.length_cons]
  omega
theorem text_quote {s:Bs} (h:Utf s) (t:Bs):∃ q,quote s=34#8::q∧text (q++t)=.ok s t:=by
 obtain ⟨rs,hr,rfl⟩:=h
 refine ⟨_,quote_of hr,?_⟩
 unfold text
 have:=len_qr rs
 rw [List.append_assoc,List.cons_append,List.nil_append,ptext_all rs _ [] t hr (by rw [List.length_append,List.length_cons]; omega)]
 rfl
/-! Numbers. -/
theorem isDig_b8 {n:Nat} (h:n<10):isDig (b8 (48+n))=true∧(b8 (48+n)).toNat-48=n:=by
 unfold isDig
 rw [b8_nat (by omega)]
 exact ⟨decide_eq_true (by omega),by omega⟩
theorem pnum_digs:∀ (f n:Nat) (t:Bs),n<10 ^ f→n<18446744073709551616→pnum 0 (digs f n++t)=(if f=0 then pnum 0 t else pnum n t)
 | 0,n,t,h,_=>by rfl
 | f+1,n,t,h,h2=>by
  rw [if_neg (by omega)]
  unfold digs
  split
  ·rename_i hn
   obtain ⟨h3,h4⟩:=isDig_b8 hn
   rw [List.cons_append,List.nil_append]
   conv=>lhs; unfold pnum
   rw [if_pos h3,h4,if_neg (by omega),Nat.zero_mul,Nat.zero_add]
  ·rename_i hn
   have hf:f≠0:=by rintro rfl; simp at h; omega
   rw [List.append_assoc,pnum_digs f (n / 10) _ (by rw [Nat.pow_succ] at h; omega) (by omega),if_neg hf]
   obtain ⟨h3,h4⟩:=isDig_b8 (show n % 10<10 by omega)
   rw [List.cons_append,List.nil_append]
   conv=>lhs; unfold pnum
   rw [if_pos h3,h4,if_neg (by omega),show n / 10*10+n % 10=n by omega]
theorem digs_ne:∀ (f n:Nat),0<f→digs f n≠[]
 | 0,_,h=>absurd h (by omega)
 | f+1,n,_=>by
  unfold digs
  split <;> simp
theorem head_app {l m:Bs} (h:l≠[]):(l++m).head?=l.head?:=by
 cases l with
 | nil=>exact absurd rfl h
 | cons c l=>rfl
theorem digs_head:∀ (f n:Nat),n<10 ^ f→(digs f n).head?=some 48#8→n=0
 | 0,n,h,h2=>by simp [digs] at h2
 | f+1,n,h,h2=>by
  unfold digs at h2
  split at h2
  ·rename_i hn
   have:=congrArg (Option.map BitVec.toNat) h2
   simp only [List.head?_cons,Option.map_some,b8_nat (show 48+n<256 by omega)] at this
   injection this with this
   have e:(48#8).toNat=48:=rfl
   omega
  ·rename_i hn
   have hf:0<f:=by rcases f with _|f; simp at h; omega; omega
   have hne:=digs_ne f (n / 10) hf
   rw [head_app hne] at h2
   have:=digs_head f (n / 10) (by rw [Nat.pow_succ] at h; omega) h2
   omega
theorem digs_dig:∀ (f n:Nat),∀ c∈digs f n,isDig c=true
 | 0,_,c,h=>by simp [digs] at h
 | f+1,n,c,h=>by
  unfold digs at h
  split at h
  ·rename_i hn
   rw [List.mem_singleton] at h
   rw [h]; exact (isDig_b8 hn).1
  ·rcases List.mem_append.1 h with h|h
   ·exact digs_dig f _ c h
   ·rw [List.mem_singleton] at h
    rw [h]; exact (isDig_b8 (by omega)).1
theorem digs_len:∀ (f n k:Nat),n<10 ^ k→0<k→(digs f n).length≤k
 | 0,_,_,_,_=>by simp [digs]
 | f+1,n,k,h,hk=>by
  unfold digs
  split
  ·rw [List.length_singleton]; omega
  ·rename_i hn
   have h1:1<k:=by rcases k with _|_|k; omega; simp at h; omega; omega
   obtain ⟨j,rfl⟩:∃ j,k=j+1:=⟨k-1,by omega⟩
   have:=digs_len f (n / 10) j (by rw [Nat.pow_succ] at h; omega) (by omega)
   rw [List.length_append,List.length_singleton]
   omega
def nd (t:Bs):Prop:=∀ c r,t=c::r→isDig c=false
theorem pnum_nd {n:Nat} {t:Bs} (h:nd t):pnum n t=some (n,t):=by
 cases t with
 | nil=>rfl
 | cons c r=>unfold pnum; rw [if_neg (by rw [h c r rfl]; decide)]
theorem number_dig {n : Nat} (hn : n < 18446744073709551616) {t : Bs} (h : nd t) : number (dig n ++ t) = .ok n t := by
  unfold number dig
  rw [pnum_digs 20 n t (by have : (10 : Nat) ^ 20 = 100000000000000000000 := by decide
                           omega) hn, if_neg (by decide), pnum_nd h]
  have : ¬ (1 < (digs 20 n ++ t).length - t.length ∧ (digs 20 n ++ t).head? = some 48#8) := by
    rintro ⟨h1, h2⟩
    rw [head_app (digs_ne 20 n (by decide))] at h2
    have e := digs_head 20 n (by have : (10 : Nat) ^ 20 = 100000000000000000000 := by decide
                                 omega) h2
    subst e
    have : (digs 20 0).length = 1 := by decide +kernel
    rw [List.length_append] at h1
    omega
  simp only [if_neg this]
theorem pnum_ok:∀ (l:Bs) (m n:Nat) (r:Bs),m<18446744073709551616→pnum m l=some (n,r)→n<18446744073709551616∧r.length≤l.length∧n<(m+1)*10 ^ (l.length-r.length)
 | [],m,n,r,hm,h=>by
  unfold pnum at h
  injection h with h
  injection h with h1 h2
  subst h1; subst h2
  exact ⟨hm,Nat.le_refl _,by simp⟩
 | c::l,m,n,r,hm,h=>by
  unfold pnum at h
  split at h
  ·rename_i hd
   split at h
   ·cases h
   ·rename_i hlt
    obtain ⟨h1,h2,h3⟩:=pnum_ok l _ n r (by omega) h
    refine ⟨h1,by simp; omega,?_⟩
    rw [List.length_cons,show l.length+1-r.length=(l.length-r.length)+1 by omega,Nat.pow_succ]
    have hc:c.toNat-48<10:=by
     unfold isDig at hd
     have:=of_decide_eq_true hd
     omega
    have:(m*10+(c.toNat-48)+1)*10 ^ (l.length-r.length)≤(m+1)*10*10 ^ (l.length-r.length):=Nat.mul_le_mul_right _ (by omega)
    calc n<_:=h3
     _≤_:=this
     _=_:=by rw [Nat.mul_assoc,Nat.mul_comm 10]
  ·injection h with h
   injection h with h1 h2
   subst h1; subst h2
   exact ⟨hm,Nat.le_refl _,by simp⟩
theorem number_ok {c:BitVec 8} {l r:Bs} {n:Nat} (hc:isDig c=true) (h:number (c::l)=.ok n r):n<18446744073709551616∧r.length≤l.length∧(dig n).length≤l.length+1-r.length:=by
 unfold number at h
 split at h
 ·cases h
 ·rename_i m t hp
  split at h
  ·cases h
  ·injection h with h1 h2
   subst h1; subst h2
   obtain ⟨h3,h4,h5⟩:=pnum_ok _ _ _ _ (by decide) hp
   have hlt:t.length≤l.length:=by
    unfold pnum at hp
    rw [if_pos hc] at hp
    split at hp
    ·cases hp
    ·rename_i hlt
     exact (pnum_ok l _ _ _ (by omega) hp).2.1
   refine ⟨h3,hlt,digs_len _ _ _ ?_ (by omega)⟩
   simpa using h5
end Js
end
section
namespace Js
open Sha

def Good (d:Nat) (pv:Bs→R JT):Prop:=∀ l v r,pv l=.ok v r→norm d v∧r.length<l.length∧(put d v).length≤3*(l.length-r.length)
theorem putL_cons (pv:JT→Bs) (x:JT) (l:List JT) (h:l≠[]):putL pv (x::l)=pv x++44#8::putL pv l:=by
 cases l with
 | nil=>exact absurd rfl h
 | cons y l=>rfl
theorem putO_cons (pv:JT→Bs) (s:Bs) (ns:List Bs) (x:JT) (l:List JT) (h:l≠[]):putO pv (s::ns) (x::l)=quote s++58#8::(pv x++44#8::putO pv ns l):=by
 cases l with
 | nil=>exact absurd rfl h
 | cons y l=>rfl
theorem plist_ok {d:Nat} {pv:Bs→R JT} (hg:Good d pv):∀ (f:Nat) (l:Bs) (acc:List JT) (v:JT) (r:Bs),plist pv f l acc=.ok v r→∃ xs,v=.mk 5#8 0#64 [] (acc++xs) []∧xs≠[]∧(∀ x∈xs,norm d x)∧r.length<l.length∧(putL (put d) xs).length+1≤3*(l.length-r.length)
 | 0,_,_,_,_,h=>by cases h
 | f+1,l,acc,v,r,h=>by
  unfold plist at h
  split at h
  ·cases h
  ·rename_i x t hp
   obtain ⟨h1,h2,h3⟩:=hg _ _ _ hp
   have hb:=blanks_len t
   split at h
   ·cases h
   ·rename_i c u he
    rw [he,List.length_cons] at hb
    split at h
    ·obtain ⟨xs,h4,h5,h6,h7,h8⟩:=plist_ok hg f u _ v r h
     refine ⟨x::xs,by rw [h4]; simp,by simp,?_,by omega,?_⟩
     ·intro y hy
      rcases List.mem_cons.1 hy with rfl|hy
      ·exact h1
      ·exact h6 y hy
     ·rw [putL_cons _ _ _ h5,List.length_append,List.length_cons]
      omega
    ·split at h
     ·injection h with h4 h5
      subst h4; subst h5
      refine ⟨[x],rfl,by simp,by simpa using h1,by omega,?_⟩
      show (put d x).length+1≤_
      omega
     ·cases h
theorem pname_ok {l s r:Bs} {ns:List Bs} (h:pname l ns=.ok s r):Utf s∧s ∉ ns∧(quote s).length≤3*(l.length-r.length)-3∧r.length+3≤l.length:=by
 unfold pname at h
 have hb:=blanks_len l
 split at h
 ·cases h
 ·rename_i c u he
  rw [he,List.length_cons] at hb
  split at h
  ·split at h
   ·cases h
   ·rename_i s' t ht
    obtain ⟨h1,rs,h2,h3,h4⟩:=text_ok ht
    split at h
    ·cases h
    ·rename_i hn
     have hb2:=blanks_len t
     split at h
     ·cases h
     ·rename_i c2 u2 he2
      rw [he2,List.length_cons] at hb2
      split at h
      ·injection h with h5 h6
       subst h5; subst h6
       refine ⟨⟨rs,h2,h3⟩,hn,?_,by omega⟩
       rw [h3,quote_of h2,List.length_cons,List.length_append,List.length_singleton]
       omega
      ·cases h
  ·cases h
theorem pobj_ok {d:Nat} {pv:Bs→R JT} (hg:Good d pv):∀ (f:Nat) (l:Bs) (acc:List JT) (ns:List Bs) (v:JT) (r:Bs),pobj pv f l acc ns=.ok v r→∃ xs nx,v=.mk 6#8 0#64 [] (acc++xs) (ns++nx)∧xs≠[]∧nx.length=xs.length∧(∀ x∈xs,norm d x)∧(∀ s∈nx,Utf s)∧nx.Nodup∧(∀ s∈nx,s ∉ ns)∧r.length<l.length∧(putO (put d) nx xs).length+1≤3*(l.length-r.length)
 | 0,_,_,_,_,_,h=>by cases h
 | f+1,l,acc,ns,v,r,h=>by
  unfold pobj at h
  split at h
  ·cases h
  ·rename_i s t hn
   obtain ⟨n1,n2,n3,n4⟩:=pname_ok hn
   split at h
   ·cases h
   ·rename_i x t2 hp
    obtain ⟨h1,h2,h3⟩:=hg _ _ _ hp
    have hb:=blanks_len t2
    split at h
    ·cases h
    ·rename_i c u he
     rw [he,List.length_cons] at hb
     split at h
     ·obtain ⟨xs,nx,h4,h5,h6,h7,h8,h9,h10,h11,h12⟩:=pobj_ok hg f u _ _ v r h
      refine ⟨x::xs,s::nx,by rw [h4]; simp,by simp,by simp [h6],?_,?_,?_,?_,by omega,?_⟩
      ·intro y hy
       rcases List.mem_cons.1 hy with rfl|hy
       ·exact h1
       ·exact h7 y hy
      ·intro y hy
       rcases List.mem_cons.1 hy with rfl|hy
       ·exact n1
       ·exact h8 y hy
      ·refine List.nodup_cons.2 ⟨fun hc=>?_,h9⟩
       have:=h10 s hc
       simp at this
      ·intro y hy
       rcases List.mem_cons.1 hy with rfl|hy
       ·exact n2
       ·have:=h10 y hy
        simp at this
        exact this.1
      ·rw [putO_cons _ _ _ _ _ h5,List.length_append,List.length_cons,List.length_append,List.length_cons]
       omega
     ·split at h
      ·injection h with h4 h5
       subst h4; subst h5
       refine ⟨[x],[s],rfl,by simp,rfl,by simpa using h1,by simpa using n1,by simp,by simpa using n2,by omega,?_⟩
       show (quote s++58#8::put d x).length+1≤_
       rw [List.length_append,List.length_cons]
       omega
      ·cases h
theorem leaf_norm {d:Nat} {v:JT} (h:leaf v):norm d v:=by
 cases d with
 | zero=>exact h
 | succ d=>exact .inl h
theorem put_leaf {d:Nat} {v:JT} (h:leaf v):put d v=put1 (fun _=>[]) (fun _ _=>[]) v:=by
 obtain ⟨_,_,_,_,h5,_⟩:=h
 have:v.k=0#8∨v.k=1#8∨v.k=2#8∨v.k=3#8∨v.k=4#8:=by
  have h2:v.k.toNat=0∨v.k.toNat=1∨v.k.toNat=2∨v.k.toNat=3∨v.k.toNat=4:=by omega
  rcases h2 with h|h|h|h|h
  ·exact .inl (BitVec.eq_of_toNat_eq h)
  ·exact .inr (.inl (BitVec.eq_of_toNat_eq h))
  ·exact .inr (.inr (.inl (BitVec.eq_of_toNat_eq h)))
  ·exact .inr (.inr (.inr (.inl (BitVec.eq_of_toNat_eq h))))
  ·exact .inr (.inr (.inr (.inr (BitVec.eq_of_toNat_eq h))))
 cases d with
 | zero=>rfl
 | succ d =>
  show put1 _ _ v=_
  unfold put1
  rcases this with h|h|h|h|h <;> (simp only [h]; rfl)
theorem word_ok {l r:Bs} {v:JT} (h:word l=.ok v r):leaf v∧r.length<l.length∧(put1 (fun _=>[]) (fun _ _=>[]) v).length≤3*(l.length-r.length):=by
 unfold word at h
 have key:∀ (n:Nat) (w:Bs),w.length=n→0<n→l.take n=w→n≤l.length:=by
  intro n w h1 h2 h3
  have:=congrArg List.length h3
  rw [List.length_take] at this
  omega
 split at h
 ·rename_i h1
  have:=key 4 _ rfl (by decide) h1
  injection h with h2 h3
  subst h2; subst h3
  exact ⟨⟨rfl,rfl,.inr rfl,.inr rfl,by decide,Utf.nil⟩,by rw [List.length_drop]; omega,by rw [List.length_drop]; show 4≤_; omega⟩
 split at h
 ·rename_i h1
  have:=key 5 _ rfl (by decide) h1
  injection h with h2 h3
  subst h2; subst h3
  exact ⟨⟨rfl,rfl,.inr rfl,.inr rfl,by decide,Utf.nil⟩,by rw [List.length_drop]; omega,by rw [List.length_drop]; show 5≤_; omega⟩
 split at h
 ·rename_i h1
  have:=key 4 _ rfl (by decide) h1
  injection h with h2 h3
  subst h2; subst h3
  exact ⟨⟨rfl,rfl,.inr rfl,.inr rfl,by decide,Utf.nil⟩,by rw [List.length_drop]; omega,by rw [List.length_drop]; show 4≤_; omega⟩
 ·cases h
theorem pone_ok {d:Nat} {kl ko:Bs→R JT} (hl:∀ l v r,kl l=.ok v r→norm d v∧r.length<l.length+1∧(put d v).length≤3*(l.length+1-r.length)) (ho:∀ l v r,ko l=.ok v r→norm d v∧r.length<l.length+1∧(put d v).length≤3*(l.length+1-r.length)):Good d (pone kl ko):=by
 intro l v r h
 unfold pone at h
 have hb:=blanks_len l
 split at h
 ·cases h
 ·rename_i c u he
  rw [he,List.length_cons] at hb
  split at h
  ·split at h
   ·cases h
   ·rename_i s t ht
    obtain ⟨h1,rs,h2,h3,h4⟩:=text_ok ht
    injection h with h5 h6
    subst h5; subst h6
    have hv:leaf (.mk 4#8 0#64 s [] []):=⟨rfl,rfl,.inr rfl,.inl rfl,(by decide:(4:Nat)≤4),⟨rs,h2,h3⟩⟩
    refine ⟨leaf_norm hv,by omega,?_⟩
    rw [put_leaf hv]
    show (quote s).length≤_
    rw [h3,quote_of h2,List.length_cons,List.length_append,List.length_singleton]
    omega
  split at h
  ·rename_i hd
   split at h
   ·cases h
   ·rename_i n t hn
    obtain ⟨h1,h2,h3⟩:=number_ok hd hn
    injection h with h5 h6
    subst h5; subst h6
    have hv:leaf (.mk 3#8 (BitVec.ofNat 64 n) [] [] []):=⟨rfl,rfl,.inl rfl,.inr rfl,(by decide:(3:Nat)≤4),Utf.nil⟩
    refine ⟨leaf_norm hv,by omega,?_⟩
    rw [put_leaf hv]
    show (dig (BitVec.ofNat 64 n).toNat).length≤_
    rw [BitVec.toNat_ofNat,Nat.mod_eq_of_lt (by simpa using h1)]
    omega
  split at h
  ·obtain ⟨h1,h2,h3⟩:=hl _ _ _ h
   exact ⟨h1,by omega,by omega⟩
  split at h
  ·obtain ⟨h1,h2,h3⟩:=ho _ _ _ h
   exact ⟨h1,by omega,by omega⟩
  ·obtain ⟨h1,h2,h3⟩:=word_ok h
   rw [List.length_cons] at h2 h3
   refine ⟨leaf_norm h1,by omega,?_⟩
   rw [put_leaf h1]
   omega
theorem lists_ok {d:Nat} {pv:Bs→R JT} (hg:Good d pv) (l:Bs) (v:JT) (r:Bs) (h:lists pv l=.ok v r):norm (d+1) v∧r.length<l.length+1∧(put (d+1) v).length≤3*(l.length+1-r.length):=by
 unfold lists at h
 have hb:=blanks_len l
 have fin:∀ (f:Nat) (m:Bs),m.length≤l.length→plist pv f m []=.ok v r→norm (d+1) v∧r.length<l.length+1∧(put (d+1) v).length≤3*(l.length+1-r.length):=by
  intro f m hm h
  obtain ⟨xs,rfl,h1,h2,h3,h4⟩:=plist_ok hg _ _ _ _ _ h
  refine ⟨.inr ⟨rfl,rfl,h2,.inl ⟨rfl,rfl⟩⟩,by omega,?_⟩
  show (91#8::(putL (put d) xs++[93#8])).length≤_
  rw [List.length_cons,List.length_append,List.length_singleton]
  omega
 split at h
 ·exact fin _ _ (by simp) h
 ·rename_i c u he
  rw [he,List.length_cons] at hb
  split at h
  ·injection h with h1 h2
   subst h1; subst h2
   refine ⟨.inr ⟨rfl,rfl,(fun x hx=>nomatch hx),.inl ⟨rfl,rfl⟩⟩,by omega,?_⟩
   show 2≤_
   omega
  ·exact fin _ (c::u) (by rw [List.length_cons]; exact hb) h
theorem objs_ok {d:Nat} {pv:Bs→R JT} (hg:Good d pv) (l:Bs) (v:JT) (r:Bs) (h:objs pv l=.ok v r):norm (d+1) v∧r.length<l.length+1∧(put (d+1) v).length≤3*(l.length+1-r.length):=by
 unfold objs at h
 have hb:=blanks_len l
 have fin:∀ (f:Nat) (m:Bs),m.length≤l.length→pobj pv f m [] []=.ok v r→norm (d+1) v∧r.length<l.length+1∧(put (d+1) v).length≤3*(l.length+1-r.length):=by
  intro f m hm h
  obtain ⟨xs,nx,rfl,h1,h2,h3,h4,h5,h6,h7,h8⟩:=pobj_ok hg _ _ _ _ _ _ h
  refine ⟨.inr ⟨rfl,rfl,h3,.inr ⟨rfl,h2,h5,h4⟩⟩,by omega,?_⟩
  show (123#8::(putO (put d) nx xs++[125#8])).length≤_
  rw [List.length_cons,List.length_append,List.length_singleton]
  omega
 split at h
 ·exact fin _ _ (by simp) h
 ·rename_i c u he
  rw [he,List.length_cons] at hb
  split at h
  ·injection h with h1 h2
   subst h1; subst h2
   refine ⟨.inr ⟨rfl,rfl,(fun x hx=>nomatch hx),.inr ⟨rfl,rfl,List.nodup_nil,(fun x hx=>nomatch hx)⟩⟩,by omega,?_⟩
   show 2≤_
   omega
  ·exact fin _ (c::u) (by rw [List.length_cons]; exact hb) h
theorem pval_ok:∀ d,Good d (pval d)
 | 0=>pone_ok (fun _ _ _ h=>by cases h) (fun _ _ _ h=>by cases h)
 | d+1=>pone_ok (lists_ok (pval_ok d)) (objs_ok (pval_ok d))
/-! What was printed. -/
theorem dig_cons (n:Nat):∃ c u,dig n=c::u∧isDig c=true:=by
 have h:=digs_ne 20 n (by decide)
 have h2:=digs_dig 20 n
 unfold dig
 cases e:digs 20 n with
 | nil=>exact absurd e h
 | cons c u=>exact ⟨c,u,rfl,h2 c (by rw [e]; exact List.mem_cons_self ..)⟩
theorem dig_sign {c:BitVec 8} (h:isDig c=true):blank c=false∧c≠34#8∧c≠93#8∧c≠125#8:=by
 revert c; decide +kernel
theorem head_put:∀ (d:Nat) (v:JT),norm d v→∃ c u,put d v=c::u∧blank c=false∧c≠93#8∧c≠125#8:=by
 have key:∀ (pl:List JT→Bs) (po:List Bs→List JT→Bs) (v:JT),∃ c u,put1 pl po v=c::u∧blank c=false∧c≠93#8∧c≠125#8:=by
  intro pl po v
  unfold put1
  split
  ·exact ⟨_,_,rfl,by decide,by decide,by decide⟩
  split
  ·exact ⟨_,_,rfl,by decide,by decide,by decide⟩
  split
  ·exact ⟨_,_,rfl,by decide,by decide,by decide⟩
  split
  ·obtain ⟨c,u,h1,h2⟩:=dig_cons v.n.toNat
   obtain ⟨h3,_,h4,h5⟩:=dig_sign h2
   exact ⟨c,u,h1,h3,h4,h5⟩
  split
  ·exact ⟨_,_,rfl,by decide,by decide,by decide⟩
  split
  ·exact ⟨_,_,rfl,by decide,by decide,by decide⟩
  ·exact ⟨_,_,rfl,by decide,by decide,by decide⟩
 intro d v _
 cases d with
 | zero=>exact key _ _ v
 | succ d=>exact key _ _ v
def Back (d:Nat) (pv:Bs→R JT):Prop:=∀ v t,norm d v→nd t→pv (put d v++t)=.ok v t
theorem nd_of {c:BitVec 8} {t:Bs} (h:isDig c=false):nd (c::t):=by
 intro a b e
 injection e with e1 _
 rw [← e1]; exact h
theorem putL_len {d:Nat}:∀ xs:List JT,(∀ x∈xs,norm d x)→xs.length≤(putL (put d) xs).length
 | [],_=>Nat.le_refl _
 | [x],h=>by
  obtain ⟨c,u,e,_⟩:=head_put d x (h x (List.mem_cons_self ..))
  show 1≤(put d x).length
  rw [e]; simp
 | x::y::l,h=>by
  have ih:=putL_len (y::l) fun z hz=>h z (List.mem_cons_of_mem _ hz)
  rw [putL_cons _ _ _ (by simp),List.length_append,List.length_cons]
  simp only [List.length_cons] at ih ⊢
  omega
theorem plist_back {d:Nat} {pv:Bs→R JT} (hb:Back d pv):∀ (xs:List JT) (f:Nat) (acc:List JT) (t:Bs),xs≠[]→(∀ x∈xs,norm d x)→xs.length≤f→plist pv f (putL (put d) xs++93#8::t) acc=.ok (.mk 5#8 0#64 [] (acc++xs) []) t
 | [],_,_,_,h,_,_=>absurd rfl h
 | x::xs,0,_,_,_,_,h=>by simp at h
 | [x],f+1,acc,t,_,h,_=>by
  have hx:=h x (List.mem_cons_self ..)
  show plist pv (f+1) (put d x++93#8::t) acc=_
  unfold plist
  rw [hb x _ hx (nd_of (by decide))]
  simp only [blanks_of (show blank 93#8=false by decide)]
  rfl
 | x::y::l,f+1,acc,t,_,h,hf=>by
  have hx:=h x (List.mem_cons_self ..)
  rw [putL_cons _ _ _ (by simp),List.append_assoc,List.cons_append]
  unfold plist
  rw [hb x _ hx (nd_of (by decide))]
  simp only [blanks_of (show blank 44#8=false by decide)]
  rw [if_pos trivial,plist_back hb (y::l) f _ t (by simp) (fun z hz=>h z (List.mem_cons_of_mem _ hz)) (by simpa using hf)]
  simp
theorem pname_back {s:Bs} {ns:List Bs} (h:Utf s) (hn:s ∉ ns) (t:Bs):pname (quote s++58#8::t) ns=.ok s t:=by
 obtain ⟨q,e,h1⟩:=text_quote h (58#8::t)
 rw [e,List.cons_append]
 unfold pname
 rw [blanks_of (by decide)]
 simp only [h1,if_neg hn]
 rw [if_pos trivial,blanks_of (by decide)]
 simp
theorem putO_len {d:Nat}:∀ (ns:List Bs) (xs:List JT),ns.length=xs.length→xs.length≤(putO (put d) ns xs).length
 | [],[],_=>Nat.le_refl _
 | [],_::_,h=>by simp at h
 | _::_,[],h=>by simp at h
 | s::ns,[x],h=>by
  show 1≤(quote s++58#8::put d x).length
  rw [List.length_append,List.length_cons]; omega
 | s::ns,x::y::l,h=>by
  have ih:=putO_len (d:=d) ns (y::l) (by simpa using h)
  rw [putO_cons _ _ _ _ _ (by simp)]
  simp only [List.length_append,List.length_cons] at ih ⊢
  omega
theorem pobj_back {d:Nat} {pv:Bs→R JT} (hb:Back d pv):∀ (xs:List JT) (nx:List Bs) (f:Nat) (acc:List JT) (ns:List Bs) (t:Bs),xs≠[]→nx.length=xs.length→(∀ x∈xs,norm d x)→(∀ s∈nx,Utf s)→(∀ s∈nx,s ∉ ns)→nx.Nodup→xs.length≤f →
  pobj pv f (putO (put d) nx xs++125#8::t) acc ns=.ok (.mk 6#8 0#64 [] (acc++xs) (ns++nx)) t
 | [],_,_,_,_,_,h,_,_,_,_,_,_=>absurd rfl h
 | x::xs,[],_,_,_,_,_,h,_,_,_,_,_=>by simp at h
 | x::xs,_::_,0,_,_,_,_,_,_,_,_,_,h=>by simp at h
 | [x],s::nx,f+1,acc,ns,t,_,hl,h,hu,hn,_,_=>by
  obtain rfl:nx=[]:=List.eq_nil_of_length_eq_zero (by simpa using hl)
  have hx:=h x (List.mem_cons_self ..)
  show pobj pv (f+1) ((quote s++58#8::put d x)++125#8::t) acc ns=_
  rw [List.append_assoc,List.cons_append]
  unfold pobj
  rw [pname_back (hu s (List.mem_cons_self ..)) (hn s (List.mem_cons_self ..))]
  simp only [hb x _ hx (nd_of (show isDig 125#8=false by decide)),blanks_of (show blank 125#8=false by decide)]
  rfl
 | x::y::l,s::nx,f+1,acc,ns,t,_,hl,h,hu,hn,hnd,hf=>by
  have hx:=h x (List.mem_cons_self ..)
  obtain ⟨hd1,hd2⟩:=List.nodup_cons.1 hnd
  rw [putO_cons _ _ _ _ _ (by simp),List.append_assoc,List.cons_append,List.append_assoc,List.cons_append]
  unfold pobj
  rw [pname_back (hu s (List.mem_cons_self ..)) (hn s (List.mem_cons_self ..))]
  simp only [hb x _ hx (nd_of (show isDig 44#8=false by decide)),blanks_of (show blank 44#8=false by decide)]
  rw [if_pos trivial,pobj_back hb (y::l) nx f _ _ t (by simp) (by simpa using hl) (fun z hz=>h z (List.mem_cons_of_mem _ hz)) (fun z hz=>hu z (List.mem_cons_of_mem _ hz)) (fun z hz hc=>?_) hd2 (by simpa using hf)]
  ·simp
  ·rcases List.mem_append.1 hc with hc|hc
   ·exact hn z (List.mem_cons_of_mem _ hz) hc
   ·rw [List.mem_singleton] at hc
    subst hc
    exact hd1 hz
theorem pone_leaf {kl ko:Bs→R JT} {v:JT} (h:leaf v) {t:Bs} (ht:nd t):pone kl ko (put1 (fun _=>[]) (fun _ _=>[]) v++t)=.ok v t:=by
 obtain ⟨k,n,s,l,ns⟩:=v
 obtain ⟨h1,h2,h3,h4,h5,h6⟩:=h
 simp only [JT.l,JT.ns,JT.k,JT.n,JT.s] at h1 h2 h3 h4 h5 h6
 subst h1; subst h2
 have hk:k.toNat=0∨k.toNat=1∨k.toNat=2∨k.toNat=3∨k.toNat=4:=by omega
 rcases hk with hk|hk|hk|hk|hk
 ·obtain rfl:k=0#8:=BitVec.eq_of_toNat_eq hk
  obtain rfl:=h3.resolve_left (by decide)
  obtain rfl:=h4.resolve_left (by decide)
  rfl
 ·obtain rfl:k=1#8:=BitVec.eq_of_toNat_eq hk
  obtain rfl:=h3.resolve_left (by decide)
  obtain rfl:=h4.resolve_left (by decide)
  rfl
 ·obtain rfl:k=2#8:=BitVec.eq_of_toNat_eq hk
  obtain rfl:=h3.resolve_left (by decide)
  obtain rfl:=h4.resolve_left (by decide)
  rfl
 ·obtain rfl:k=3#8:=BitVec.eq_of_toNat_eq hk
  obtain rfl:=h4.resolve_left (by decide)
  show pone kl ko (dig n.toNat++t)=_
  obtain ⟨c,u,e,hd⟩:=dig_cons n.toNat
  have hn:=number_dig (n:=n.toNat) n.isLt ht
  rw [e,List.cons_append] at hn ⊢
  obtain ⟨g1,g2,_,_⟩:=dig_sign hd
  unfold pone
  rw [blanks_of g1]
  simp only [if_neg g2,if_pos hd,hn]
  simp
 ·obtain rfl:k=4#8:=BitVec.eq_of_toNat_eq hk
  obtain rfl:=h3.resolve_left (by decide)
  show pone kl ko (quote s++t)=_
  obtain ⟨q,e,h1⟩:=text_quote h6 t
  rw [e,List.cons_append]
  unfold pone
  rw [blanks_of (by decide)]
  simp only [h1]
  rfl
theorem pval_back:∀ d,Back d (pval d)
 | 0,v,t,h,ht=>pone_leaf h ht
 | d+1,v,t,h,ht=>by
  rcases h with h|⟨h1,h2,h3,h4⟩
  ·rw [put_leaf h]
   exact pone_leaf h ht
  ·obtain ⟨k,n,s,l,ns⟩:=v
   simp only [JT.l,JT.ns,JT.k,JT.n,JT.s] at h1 h2 h3 h4
   subst h1; subst h2
   rcases h4 with ⟨rfl,rfl⟩|⟨rfl,h5,h6,h7⟩
   ·show pone _ _ ((91#8::(putL (put d) l++[93#8]))++t)=_
    rw [List.cons_append,List.append_assoc,List.cons_append,List.nil_append]
    unfold pone
    rw [blanks_of (by decide)]
    show lists (pval d) _=_
    unfold lists
    by_cases hl:l=[]
    ·subst hl
     rw [show putL (put d) []++93#8::t=93#8::t from rfl,blanks_of (by decide)]
     rfl
    ·obtain ⟨c,u,e,g1,g2,g3⟩:∃ c u,putL (put d) l++93#8::t=c::u∧blank c=false∧c≠93#8∧c≠125#8:=by
      cases l with
      | nil=>exact absurd rfl hl
      | cons x l =>
       obtain ⟨c,u,e,g⟩:=head_put d x (h3 x (List.mem_cons_self ..))
       cases l with
       | nil=>exact ⟨c,_,by show put d x++_=_; rw [e]; rfl,g⟩
       | cons y l=>exact ⟨c,_,by rw [putL_cons _ _ _ (by simp),e]; rfl,g⟩
     have:=plist_back (pval_back d) l ((c::u).length+1) [] t hl h3 (by
      have:=putL_len l h3
      rw [← e,List.length_append,List.length_cons]; omega)
     rw [e] at this ⊢
     rw [blanks_of g1]
     simp only [if_neg g2]
     exact this
   ·show pone _ _ ((123#8::(putO (put d) ns l++[125#8]))++t)=_
    rw [List.cons_append,List.append_assoc,List.cons_append,List.nil_append]
    unfold pone
    rw [blanks_of (by decide)]
    show objs (pval d) _=_
    unfold objs
    by_cases hl:l=[]
    ·subst hl
     obtain rfl:ns=[]:=List.eq_nil_of_length_eq_zero h5
     rw [show putO (put d) [] []++125#8::t=125#8::t from rfl,blanks_of (by decide)]
     rfl
    ·obtain ⟨u,e⟩:∃ u,putO (put d) ns l++125#8::t=34#8::u:=by
      cases l with
      | nil=>exact absurd rfl hl
      | cons x l =>
       cases ns with
       | nil=>simp at h5
       | cons s ns =>
        cases l with
        | nil=>exact ⟨_,rfl⟩
        | cons y l=>exact ⟨_,by rw [putO_cons _ _ _ _ _ (by simp)]; rfl⟩
     have:=pobj_back (pval_back d) l ns ((34#8::u).length+1) [] [] t hl h5 h3 h7 (by simp) h6 (by
      have:=putO_len (d:=d) ns l h5
      rw [← e,List.length_append,List.length_cons]; omega)
     rw [e] at this ⊢
     rw [blanks_of (by decide)]
     simp only [if_neg (show ¬ (34#8:BitVec 8)=125#8 by decide)]
     exact this
theorem parse_ok {s:Bs} {v:JT} {r:Bs} (h:parse s=.ok v r):norm 8 v∧(put 8 v).length≤3*s.length:=by
 unfold parse at h
 split at h
 ·cases h
 split at h
 ·cases h
 ·rename_i w t hp
  split at h
  ·injection h with h1 _
   subst h1
   obtain ⟨h1,h2,h3⟩:=pval_ok 8 _ _ _ hp
   exact ⟨h1,by omega⟩
  ·cases h
theorem parse_put {v:JT} (h:norm 8 v) (hl:(put 8 v).length≤1048576):parse (put 8 v)=.ok v []:=by
 have:=pval_back 8 v [] h (by intro c r e; cases e)
 rw [List.append_nil] at this
 unfold parse
 rw [if_neg (by omega),this]
 rfl
end Js
end
section
namespace Js
open Sha

theorem size_U8 (s:Bs):(⟨(U8 s).toArray⟩:ByteArray).size=s.length:=by simp [ByteArray.size]
theorem get_U8 (s:Bs) (i:Nat):((⟨(U8 s).toArray⟩:ByteArray).get! i).toNat=(L s i).toNat:=by
 show (((U8 s).toArray)[i]!).toNat=_
 by_cases h:i<s.length
 ·rw [getElem!_pos _ _ (by simpa using h),L_lt h]
  simp [U8]
 ·rw [getElem!_neg _ _ (by simpa using h),L_ge (by omega)]
  rfl
theorem decode_U8 (s:Bs) (i:Nat):Utf8.decode ⟨(U8 s).toArray⟩ i=dec (s.drop i):=by
 rw [Lib.decode_at,size_U8,get_U8,get_U8,get_U8,get_U8]
 unfold dec
 rw [List.length_drop,L_drop,L_drop,L_drop,L_drop]
 rfl
theorem U8_drop (s:Bs) (k:Nat):(U8 s).drop k=U8 (s.drop k):=by simp [U8,List.map_drop]
theorem U8_take (s:Bs) (k:Nat):(U8 s).take k=U8 (s.take k):=by simp [U8,List.map_take]
theorem U8_app (s t:Bs):U8 (s++t)=U8 s++U8 t:=by simp [U8]
theorem U8_eqnil {s:Bs}:U8 s=[] ↔ s=[]:=by simp [U8]
theorem valid_go:∀ (rs:List Nat) (n:Nat),(∀ r∈rs,scal r)→Lib.validGoD n (U8 (rs.flatMap enc))=true
 | _,0,_=>rfl
 | [],n+1,_=>rfl
 | r::rs,n+1,h=>by
  have hr:=h r (List.mem_cons_self ..)
  have hne:U8 ((r::rs).flatMap enc)≠[]:=by
   intro e
   rw [U8_eqnil,List.flatMap_cons] at e
   exact enc_ne r (List.append_eq_nil_iff.1 e).1
  have hd:Lib.decodeL (U8 ((r::rs).flatMap enc))=(r,(enc r).length):=by
   unfold Lib.decodeL
   rw [decode_U8,List.drop_zero,List.flatMap_cons]
   exact dec_enc hr _
  unfold Lib.validGoD
  rw [if_neg hne,hd,if_neg]
  ·rw [U8_drop,List.flatMap_cons,List.drop_left]
   exact valid_go rs n (fun x hx=>h x (List.mem_cons_of_mem _ hx))
  ·rintro ⟨h1,h2⟩
   dsimp only at h1 h2
   subst h1
   exact absurd h2 (by decide)
theorem valid_U8 {s:Bs} (h:Utf s):Lib.validD (U8 s)=true:=by
 obtain ⟨rs,h1,rfl⟩:=h
 exact valid_go rs _ h1
theorem digs_dec:∀ (f u:Nat),u<10 ^ (f+1)→Lib.decDigits u=U8 (digs (f+1) u)
 | 0,u,h=>by
  rw [Lib.decDigits,dif_pos (by omega)]
  show _=U8 (if u<10 then [b8 (48+u)] else _)
  rw [if_pos (by omega)]; rfl
 | f+1,u,h=>by
  rw [Lib.decDigits]
  show _=U8 (if u<10 then [b8 (48+u)] else digs (f+1) (u / 10)++[b8 (48+u % 10)])
  by_cases hu:u<10
  ·rw [dif_pos hu,if_pos hu]; rfl
  ·rw [dif_neg hu,if_neg hu,digs_dec f (u / 10) (by rw [Nat.pow_succ] at h; omega),U8_app]; rfl
theorem dig_dec {u:Nat} (h:u<18446744073709551616):Lib.decDigits u=U8 (dig u) :=
 digs_dec 19 u (Nat.lt_of_lt_of_le h (by decide))
theorem blank_idx:∀ c:BitVec 8,decide (0≤Lib.indexByte [32,9,13,10] (UInt8.ofBitVec c))=blank c:=by decide +kernel
end Js
end
section
namespace Qj
open Sha Js Ev

def nsB (l:List UInt8):Bs:=l.map UInt8.toBitVec
theorem U8_nsB (l:List UInt8):U8 (nsB l)=l:=by
 unfold U8 nsB
 rw [List.map_map]
 exact List.map_id l
def tNum (n:BitVec 64):JT:=.mk 3#8 n [] [] []
def tText (s:Bs):JT:=.mk 4#8 0#64 s [] []
def hexB (D:Bs):Bs:=D.flatMap fun c=>[hexd (c.toNat / 16),hexd (c.toNat % 16)]
def idB:Bs:=[105#8,100#8]
def timeB:Bs:=[116#8,105#8,109#8,101#8]
def nameB:Bs:=[110#8,97#8,109#8,101#8]
def dataB:Bs:=[100#8,97#8,116#8,97#8]
def verB:Bs:=[113#8,108#8,111#8,103#8,95#8,118#8,101#8,114#8,115#8,105#8,111#8,110#8]
def evsB:Bs:=[101#8,118#8,101#8,110#8,116#8,115#8]
def v03B:Bs:=[48#8,46#8,51#8]
def evNs (k:BitVec 8):List Bs:=(evNames k).map nsB
def evNm (k:BitVec 8):Bs:=nsB (evName k)
def dataNs (k:BitVec 8):List Bs:=evNs k++if evData k=true then [idB] else []
def dataL (e:Ev):List JT:=e.N.map tNum++if evData e.k=true then [tText (hexB e.D)] else []
def dataJ (e:Ev):JT:=.mk 6#8 0#64 [] (dataL e) (dataNs e.k)
def evJ (e:Ev):JT:=.mk 6#8 0#64 [] [tNum e.t,tText (evNm e.k),dataJ e] [timeB,nameB,dataB]
def rootJ (es:List Ev):JT:=.mk 6#8 0#64 [] [tText v03B,.mk 5#8 0#64 [] (es.map evJ) []] [verB,evsB]
def idxN (s:Bs):List Bs→Option Nat
 | []=>none
 | x::l=>if s=x then some 0 else (idxN s l).map (·+1)
def memJ (v:JT) (s:Bs) (k:BitVec 8):Option JT:=match idxN s v.ns with
 | none=>none
 | some i=>match v.l[i]? with
  | none=>none
  | some x=>if x.k=k then some x else none
def hasJ (v:JT) (m:Nat):Bool:=decide (v.k=6#8) && (decide (v.ns.length=m) && decide (v.l.length=m))
def dig1 (c:BitVec 8):Option (BitVec 8):=if 48≤c.toNat∧c.toNat≤57 then some (c-48#8) else if 97≤c.toNat∧c.toNat≤102 then some (c-97#8+10#8) else none
def unhex:Bs→Option Bs
 | []=>some []
 | [_]=>none
 | a::b::l=>match dig1 a,dig1 b with
  | some x,some y=>(unhex l).map ((x <<< 4 ||| y)::·)
  | _,_=>none
def namedF (s:Bs):Nat→Nat→Option (BitVec 8)
 | 0,_=>none
 | f+1,k=>if evNm (BitVec.ofNat 8 k)=s then some (BitVec.ofNat 8 k) else namedF s f (k+1)
def namedM (s:Bs):Option (BitVec 8):=namedF s 19 1
def nums (v:JT):List Bs→Option (List (BitVec 64))
 | []=>some []
 | s::l=>match memJ v s 3#8 with
  | none=>none
  | some x=>(nums v l).map (x.n::·)
def fillM (k:BitVec 8) (v:JT):Option (List (BitVec 64) × Bs) :=
 if hasJ v (dataNs k).length=false then none else match nums v (evNs k) with
  | none=>none
  | some N=>if evData k=true then match memJ v idB 4#8 with
    | none=>none
    | some x=>(unhex x.s).map fun D=>(N,D)
   else some (N,[])
def evOf (v:JT):Ev ⊕ Int:=match memJ v timeB 3#8,memJ v nameB 4#8,memJ v dataB 6#8 with
 | some a,some b,some d=>if hasJ v 3=false then .inr 4 else match namedM b.s with
  | none=>.inr 5
  | some k=>match fillM k d with
   | none=>.inr 4
   | some (N,D)=>if checkM ⟨k,a.n,N,D⟩=0 then .inl ⟨k,a.n,N,D⟩ else .inr (checkM ⟨k,a.n,N,D⟩)
 | _,_,_=>.inr 4
def follM (e:Ev) (t:BitVec 64) (last:Bool):Int:=if e.t<t then 21 else if e.k=19#8∧last=false then 10 else 0
def evsF:List JT→BitVec 64→List Ev ⊕ Int
 | [],_=>.inl []
 | x::l,t=>match evOf x with
  | .inr e=>.inr e
  | .inl e=>if follM e t l.isEmpty=0 then match evsF l e.t with
    | .inr e=>.inr e
    | .inl es=>.inl (e::es)
   else .inr (follM e t l.isEmpty)
def parseM (s:Bs):List Ev ⊕ Int:=match parse s with
 | .bad e=>.inr e
 | .ok v _=>match idxN verB v.ns,memJ v evsB 5#8 with
  | some i,some y=>if hasJ v 2=false then .inr 4 else match v.l[i]? with
   | none=>.inr 4
   | some x=>if x.k=4#8∧x.s=v03B then if 2048<y.l.length then .inr 7 else evsF y.l 0#64 else .inr 12
  | _,_=>.inr 4
def prtF:List Ev→BitVec 64→Int
 | [],_=>0
 | e::l,t=>if checkM e≠0 then checkM e else if follM e t l.isEmpty≠0 then follM e t l.isEmpty else prtF l e.t
def prtM (es:List Ev):Int:=if 2048<es.length then 7 else prtF es 0#64
end Qj
end
section
namespace Qj
open Sha Js Ev
theorem idxN_at {s:Bs}:∀ {p r:List Bs},s ∉ p→idxN s (p++s::r)=some p.length
 | [],r,_=>by show idxN s (s::r)=_; rw [idxN,if_pos rfl]; rfl
 | a::p,r,h=>by
  rw [List.mem_cons,not_or] at h
  show idxN s (a::(p++s::r))=_
  rw [idxN,if_neg h.1,idxN_at h.2]
  rfl
theorem memJ_at {v x:JT} {s:Bs} {k:BitVec 8} {p r:List Bs} {pl rl:List JT} (hn:v.ns=p++s::r) (hl:v.l=pl++x::rl) (h:p.length=pl.length) (hs:s ∉ p) (hk:x.k=k):memJ v s k=some x:=by
 unfold memJ
 rw [hn,idxN_at hs,hl,h]
 dsimp only
 rw [List.getElem?_append_right (Nat.le_refl _),Nat.sub_self,List.getElem?_cons_zero]
 dsimp only
 rw [if_pos hk]
theorem nums_at {v:JT}:∀ (l:List Bs) (N:List (BitVec 64)) {p r:List Bs} {pl rl:List JT},v.ns=p++(l++r)→v.l=pl++(N.map tNum++rl)→p.length=pl.length→N.length=l.length→(p++l).Nodup→nums v l=some N
 | [],[],_,_,_,_,_,_,_,_,_=>rfl
 | [],_::_,_,_,_,_,_,_,_,h,_=>by simp at h
 | _::_,[],_,_,_,_,_,_,_,h,_=>by simp at h
 | s::l,n::N,p,r,pl,rl,hn,hl,h,hN,hd=>by
  have hs:s ∉ p:=fun hs=>(List.nodup_append.1 hd).2.2 s hs s (List.mem_cons_self ..) rfl
  rw [nums,memJ_at (x:=tNum n) (k:=3#8) hn hl h hs rfl]
  dsimp only
  rw [nums_at l N (p:=p++[s]) (r:=r) (pl:=pl++[tNum n]) (rl:=rl) (by rw [hn]; simp) (by rw [hl]; simp) (by simp [h]) (by simpa using hN) (by rw [List.append_assoc]; exact hd)]
  rfl
theorem hex_fin:∀ c:Fin 256,dig1 (hexd (c.val / 16))=some (BitVec.ofNat 8 (c.val / 16))∧dig1 (hexd (c.val % 16))=some (BitVec.ofNat 8 (c.val % 16))∧(BitVec.ofNat 8 (c.val / 16) <<< 4 ||| BitVec.ofNat 8 (c.val % 16))=BitVec.ofNat 8 c.val:=by decide +kernel
theorem unhex_hex:∀ D:Bs,unhex (hexB D)=some D
 | []=>rfl
 | c::D=>by
  obtain ⟨h1,h2,h3⟩:=hex_fin ⟨c.toNat,c.isLt⟩
  dsimp only at h1 h2 h3
  have e:hexB (c::D)=hexd (c.toNat / 16)::hexd (c.toNat % 16)::hexB D:=rfl
  rw [e,unhex,h1,h2]
  dsimp only
  rw [unhex_hex D,h3,BitVec.ofNat_toNat,BitVec.setWidth_eq]
  rfl
theorem nm_fin:∀ k:Fin 20,1≤k.val→namedM (evNm (BitVec.ofNat 8 k.val))=some (BitVec.ofNat 8 k.val)∧(dataNs (BitVec.ofNat 8 k.val)).Nodup∧((dataNs (BitVec.ofNat 8 k.val)).all fun s=>s.all fun c=>decide (c.toNat<128))=true∧((evNm (BitVec.ofNat 8 k.val)).all fun c=>decide (c.toNat<128))=true:=by decide +kernel
theorem nm_ok {k:BitVec 8} (h:evOk k=true):namedM (evNm k)=some k∧(dataNs k).Nodup∧(∀ s∈dataNs k,∀ c∈s,c.toNat<128)∧(∀ c∈evNm k,c.toNat<128):=by
 have h1:=of_decide_eq_true h
 obtain ⟨g1,g2,g3,g4⟩:=nm_fin ⟨k.toNat,by omega⟩ h1.1
 dsimp only at g1 g2 g3 g4
 rw [BitVec.ofNat_toNat,BitVec.setWidth_eq] at g1 g2 g3 g4
 simp only [List.all_eq_true,decide_eq_true_eq] at g3 g4
 exact ⟨g1,g2,g3,g4⟩
theorem check_ok {e:Ev} (h:checkM e=0):evOk e.k=true∧e.N.length=(evNames e.k).length∧e.D.length≤20∧(evData e.k=false→e.D=[]):=by
 unfold checkM at h
 split at h
 ·cases h
 rename_i h1
 split at h
 ·cases h
 split at h
 ·cases h
 rename_i h3
 split at h
 ·cases h
 rename_i h4
 split at h
 ·cases h
 rename_i h5
 refine ⟨by simpa using h1,Decidable.not_not.1 h3,by omega,fun hd=>?_⟩
 have:¬ 0<e.D.length:=fun hp=>h5 ⟨hp,hd⟩
 exact List.eq_nil_of_length_eq_zero (by omega)
theorem fill_back {e:Ev} (h:checkM e=0):fillM e.k (dataJ e)=some (e.N,e.D):=by
 obtain ⟨h1,h2,h3,h4⟩:=check_ok h
 obtain ⟨g1,g2,g3,g4⟩:=nm_ok h1
 have hN:e.N.length=(evNs e.k).length:=by rw [h2,evNs,List.length_map]
 have hnd:(evNs e.k).Nodup:=(List.nodup_append.1 g2).1
 have hdl:(dataL e).length=(dataNs e.k).length:=by
  unfold dataL dataNs
  rw [List.length_append,List.length_append,List.length_map,hN]
  by_cases hd:evData e.k=true
  ·rw [if_pos hd,if_pos hd]; rfl
  ·rw [if_neg hd,if_neg hd]; rfl
 have hhas:hasJ (dataJ e) (dataNs e.k).length=true:=by
  unfold hasJ
  rw [show (dataJ e).k=6#8 from rfl,show (dataJ e).ns=dataNs e.k from rfl,show (dataJ e).l=dataL e from rfl,hdl]
  simp
 have hnums:nums (dataJ e) (evNs e.k)=some e.N :=
  nums_at (v:=dataJ e) (evNs e.k) e.N (p:=[]) (pl:=[]) (r:=if evData e.k=true then [idB] else []) (rl:=if evData e.k=true then [tText (hexB e.D)] else []) rfl rfl rfl hN hnd
 unfold fillM
 rw [hhas,if_neg (by decide),hnums]
 dsimp only
 by_cases hd:evData e.k=true
 ·rw [if_pos hd]
  have hm:memJ (dataJ e) idB 4#8=some (tText (hexB e.D)):=by
   refine memJ_at (p:=evNs e.k) (r:=[]) (pl:=e.N.map tNum) (rl:=[]) ?_ ?_ (by rw [List.length_map,hN]) ?_ rfl
   ·show dataNs e.k=_
    unfold dataNs; rw [if_pos hd]
   ·show dataL e=_
    unfold dataL; rw [if_pos hd]
   ·intro hs
    have g:=g2
    unfold dataNs at g
    rw [if_pos hd] at g
    exact (List.nodup_append.1 g).2.2 idB hs idB (List.mem_singleton.2 rfl) rfl
  rw [hm]
  dsimp only
  rw [show (tText (hexB e.D)).s=hexB e.D from rfl,unhex_hex]
  rfl
 ·rw [if_neg hd,h4 (by simpa using hd)]
theorem ev_back {e:Ev} (h:checkM e=0):evOf (evJ e)=.inl e:=by
 obtain ⟨h1,_⟩:=check_ok h
 obtain ⟨g1,_⟩:=nm_ok h1
 have m1:memJ (evJ e) timeB 3#8=some (tNum e.t):=rfl
 have m2:memJ (evJ e) nameB 4#8=some (tText (evNm e.k)):=rfl
 have m3:memJ (evJ e) dataB 6#8=some (dataJ e):=rfl
 unfold evOf
 rw [m1,m2,m3]
 dsimp only
 rw [show hasJ (evJ e) 3=true from rfl,if_neg (by decide),show (tText (evNm e.k)).s=evNm e.k from rfl,g1]
 dsimp only
 rw [fill_back h]
 dsimp only
 rw [show (⟨e.k,(tNum e.t).n,e.N,e.D⟩:Ev)=e from rfl,if_pos h]
theorem prtM_ok {es:List Ev} (h:prtM es=0):es.length≤2048∧prtF es 0#64=0:=by
 unfold prtM at h
 split at h
 ·cases h
 ·exact ⟨by omega,h⟩
theorem leaf_num (n:BitVec 64):leaf (tNum n):=⟨rfl,rfl,.inl rfl,.inr rfl,by show 3≤4; decide,Utf.nil⟩
theorem leaf_text {s:Bs} (h:Utf s):leaf (tText s):=⟨rfl,rfl,.inr rfl,.inl rfl,by show 4≤4; decide,h⟩
theorem hexd_fin:∀ c:Fin 16,(hexd c.val).toNat<128:=by decide +kernel
theorem hexB_ascii (D:Bs):∀ c∈hexB D,c.toNat<128:=by
 intro c hc
 unfold hexB at hc
 rw [List.mem_flatMap] at hc
 obtain ⟨d,_,hd⟩:=hc
 have:=d.isLt
 simp only [List.mem_cons,List.not_mem_nil,or_false] at hd
 rcases hd with rfl|rfl
 ·exact hexd_fin ⟨d.toNat / 16,by omega⟩
 ·exact hexd_fin ⟨d.toNat % 16,by omega⟩
theorem nd3:[timeB,nameB,dataB].Nodup:=by decide
theorem nd2:[verB,evsB].Nodup:=by decide
theorem norm_ev {e:Ev} (h:checkM e=0):norm 2 (evJ e):=by
 obtain ⟨h1,h2,h3,h4⟩:=check_ok h
 obtain ⟨g1,g2,g3,g4⟩:=nm_ok h1
 refine .inr ⟨rfl,rfl,fun x hx=>?_,.inr ⟨rfl,rfl,nd3,fun s hs=>?_⟩⟩
 ·simp only [evJ,JT.l,List.mem_cons,List.not_mem_nil,or_false] at hx
  rcases hx with rfl|rfl|rfl
  ·exact .inl (leaf_num _)
  ·exact .inl (leaf_text (Utf.ascii g4))
  ·refine .inr ⟨rfl,rfl,fun x hx=>?_,.inr ⟨rfl,?_,g2,fun s hs=>Utf.ascii (g3 s hs)⟩⟩
   ·have hx:x∈dataL e:=hx
    unfold dataL at hx
    rcases List.mem_append.1 hx with hx|hx
    ·obtain ⟨n,_,rfl⟩:=List.mem_map.1 hx
     exact leaf_num n
    ·split at hx
     ·rw [List.mem_singleton] at hx
      subst hx
      exact leaf_text (Utf.ascii (hexB_ascii _))
     ·cases hx
   ·show (dataNs e.k).length=(dataL e).length
    unfold dataL dataNs evNs
    rw [List.length_append,List.length_append,List.length_map,List.length_map,h2]
    by_cases hd:evData e.k=true
    ·rw [if_pos hd,if_pos hd]; rfl
    ·rw [if_neg hd,if_neg hd]; rfl
 ·have:∀ s∈[timeB,nameB,dataB],∀ c∈s,c.toNat<128:=by decide
  exact Utf.ascii (this s hs)
theorem prtF_all:∀ (es:List Ev) (t:BitVec 64),prtF es t=0→∀ e∈es,checkM e=0
 | [],_,_,_,he=>by cases he
 | x::es,t,h,e,he=>by
  rw [prtF] at h
  by_cases hc:checkM x=0
  ·rw [if_neg (not_not_intro hc)] at h
   by_cases hf:follM x t es.isEmpty=0
   ·rw [if_neg (not_not_intro hf)] at h
    rcases List.mem_cons.1 he with rfl|he
    ·exact hc
    ·exact prtF_all es x.t h e he
   ·rw [if_pos hf] at h
    exact absurd h hf
  ·rw [if_pos hc] at h
   exact absurd h hc
theorem norm_root {es:List Ev} (h:prtM es=0):norm 4 (rootJ es):=by
 obtain ⟨h1,h2⟩:=prtM_ok h
 refine .inr ⟨rfl,rfl,fun x hx=>?_,.inr ⟨rfl,rfl,nd2,fun s hs=>?_⟩⟩
 ·simp only [rootJ,JT.l,List.mem_cons,List.not_mem_nil,or_false] at hx
  rcases hx with rfl|rfl
  ·exact .inl (leaf_text (Utf.ascii (by decide)))
  ·refine .inr ⟨rfl,rfl,fun y hy=>?_,.inl ⟨rfl,rfl⟩⟩
   obtain ⟨e,he,rfl⟩:=List.mem_map.1 hy
   exact norm_ev (prtF_all es _ h2 e he)
 ·have:∀ s∈[verB,evsB],∀ c∈s,c.toNat<128:=by decide
  exact Utf.ascii (this s hs)
end Qj
end
section
namespace Qj
open Sha Js Ev
theorem putL_congr {f g:JT→Bs}:∀ {l:List JT},(∀ x∈l,f x=g x)→putL f l=putL g l
 | [],_=>rfl
 | [x],h=>h x (List.mem_cons_self ..)
 | x::y::l,h=>by
  rw [putL_cons f x (y::l) (by simp),putL_cons g x (y::l) (by simp),h x (List.mem_cons_self ..),putL_congr fun z hz=>h z (List.mem_cons_of_mem _ hz)]
theorem putO_congr {f g:JT→Bs}:∀ {ns:List Bs} {l:List JT},(∀ x∈l,f x=g x)→putO f ns l=putO g ns l
 | [],[],_=>rfl
 | _::_,[],_=>rfl
 | [],_::_,_=>rfl
 | s::ns,[x],h=>by
  show quote s++58#8::f x=quote s++58#8::g x
  rw [h x (List.mem_cons_self ..)]
 | s::ns,x::y::l,h=>by
  rw [putO_cons f s ns x (y::l) (by simp),putO_cons g s ns x (y::l) (by simp),h x (List.mem_cons_self ..),putO_congr fun z hz=>h z (List.mem_cons_of_mem _ hz)]
theorem norm_up:∀ {d:Nat} {v:JT},norm d v→norm (d+1) v
 | 0,_,h=>.inl h
 | d+1,v,h=>by
  rcases h with h|⟨h1,h2,h3,h4⟩
  ·exact .inl h
  ·exact .inr ⟨h1,h2,fun x hx=>norm_up (h3 x hx),h4⟩
theorem put_up:∀ {d:Nat} {v:JT},norm d v→put (d+1) v=put d v
 | 0,v,h=>by rw [put_leaf (d:=1) h,put_leaf (d:=0) h]
 | d+1,v,h=>by
  rcases h with h|⟨h1,h2,h3,h4⟩
  ·rw [put_leaf (d:=d+2) h,put_leaf (d:=d+1) h]
  ·have e1:putL (put (d+1)) v.l=putL (put d) v.l:=putL_congr fun x hx=>put_up (h3 x hx)
   have e2:putO (put (d+1)) v.ns v.l=putO (put d) v.ns v.l:=putO_congr fun x hx=>put_up (h3 x hx)
   show put1 (putL (put (d+1))) (putO (put (d+1))) v=put1 (putL (put d)) (putO (put d)) v
   unfold put1
   rw [e1,e2]
theorem putL_le {pv:JT→Bs} {B:Nat}:∀ {l:List JT},(∀ x∈l,(pv x).length≤B)→(putL pv l).length≤l.length*(B+1)
 | [],_=>Nat.zero_le _
 | [x],h=>by
  have:=h x (List.mem_cons_self ..)
  show (pv x).length≤1*(B+1)
  omega
 | x::y::l,h=>by
  have h1:=h x (List.mem_cons_self ..)
  have h2:=putL_le fun z hz=>h z (List.mem_cons_of_mem _ hz)
  rw [putL_cons _ _ _ (by simp),List.length_append,List.length_cons,List.length_cons (a:=x),Nat.add_mul]
  omega
theorem putO_le {pv:JT→Bs} {B Q:Nat}:∀ {ns:List Bs} {l:List JT},(∀ x∈l,(pv x).length≤B)→(∀ s∈ns,(quote s).length≤Q)→(putO pv ns l).length≤l.length*(B+Q+2)
 | [],[],_,_=>Nat.zero_le _
 | _::_,[],_,_=>Nat.zero_le _
 | [],_::_,_,_=>Nat.zero_le _
 | s::ns,[x],h,hq=>by
  have h1:=h x (List.mem_cons_self ..)
  have h2:=hq s (List.mem_cons_self ..)
  show (quote s++58#8::pv x).length≤1*(B+Q+2)
  rw [List.length_append,List.length_cons]
  omega
 | s::ns,x::y::l,h,hq=>by
  have h1:=h x (List.mem_cons_self ..)
  have h2:=hq s (List.mem_cons_self ..)
  have h3:=putO_le (fun z hz=>h z (List.mem_cons_of_mem _ hz)) (fun z hz=>hq z (List.mem_cons_of_mem _ hz))
  rw [putO_cons _ _ _ _ _ (by simp),List.length_append,List.length_cons,List.length_append,List.length_cons,List.length_cons (a:=x),Nat.add_mul]
  omega
end Qj
end
section
namespace Qj
open Sha Js Ev
def plc (c:BitVec 8):Bool:=decide (32≤c.toNat∧c.toNat<128∧c.toNat≠34∧c.toNat≠92)
theorem plain_flat:∀ s:Bs,s.all plc=true→(s.map BitVec.toNat).flatMap enc=s∧(s.map BitVec.toNat).flatMap qr=s∧∀ r∈s.map BitVec.toNat,scal r
 | [],_=>⟨rfl,rfl,by simp⟩
 | c::s,h=>by
  rw [List.all_cons,Bool.and_eq_true] at h
  obtain ⟨g1,g2,g3⟩:=plain_flat s h.2
  have hc:=of_decide_eq_true h.1
  have e1:enc c.toNat=[c]:=by unfold enc; rw [if_pos hc.2.1,b8_self]
  have e2:qr c.toNat=[c]:=by
   unfold qr
   rw [if_neg (by omega),if_neg (by omega),if_neg (by omega),if_neg (by omega),if_neg (by omega),e1]
  refine ⟨by rw [List.map_cons,List.flatMap_cons,g1,e1]; rfl,by rw [List.map_cons,List.flatMap_cons,g2,e2]; rfl,fun r hr=>?_⟩
  rw [List.map_cons,List.mem_cons] at hr
  rcases hr with rfl|hr
  ·exact .inl (by omega)
  ·exact g3 r hr
theorem quote_plain {s:Bs} (h:s.all plc=true):(quote s).length=s.length+2:=by
 obtain ⟨g1,g2,g3⟩:=plain_flat s h
 have:=quote_of g3
 rw [g1,g2] at this
 rw [this]
 simp
theorem sz_fin:∀ k:Fin 20,1≤k.val→((dataNs (BitVec.ofNat 8 k.val)).all fun s=>s.all plc && decide (s.length≤24))=true∧(dataNs (BitVec.ofNat 8 k.val)).length≤10∧(evNm (BitVec.ofNat 8 k.val)).all plc=true∧(evNm (BitVec.ofNat 8 k.val)).length≤32:=by decide +kernel
theorem hexd_pl:∀ c:Fin 16,plc (hexd c.val)=true:=by decide +kernel
theorem hexB_pl (D:Bs):(hexB D).all plc=true:=by
 rw [List.all_eq_true]
 intro c hc
 unfold hexB at hc
 rw [List.mem_flatMap] at hc
 obtain ⟨d,_,hd⟩:=hc
 have:=d.isLt
 simp only [List.mem_cons,List.not_mem_nil,or_false] at hd
 rcases hd with rfl|rfl
 ·exact hexd_pl ⟨d.toNat / 16,by omega⟩
 ·exact hexd_pl ⟨d.toNat % 16,by omega⟩
theorem hexB_n2:∀ D:Bs,(hexB D).length=2*D.length
 | []=>rfl
 | c::D=>by
  have:=hexB_n2 D
  have e:hexB (c::D)=hexd (c.toNat / 16)::hexd (c.toNat % 16)::hexB D:=rfl
  rw [e,List.length_cons,List.length_cons,List.length_cons,this]
  omega
theorem num_len (d:Nat) (n:BitVec 64):(put d (tNum n)).length≤20:=by
 rw [put_leaf (leaf_num n)]
 show (dig n.toNat).length≤20
 have:=n.isLt
 exact digs_len 20 n.toNat 20 (by omega) (by decide)
theorem text_len (d:Nat) {s:Bs} (h:s.all plc=true) (hu:Utf s):(put d (tText s)).length=s.length+2:=by
 rw [put_leaf (leaf_text hu)]
 show (quote s).length=_
 exact quote_plain h
theorem obj_len {d:Nat} {s:Bs} {n:BitVec 64} {l:List JT} {ns:List Bs} {B Q:Nat} (h:∀ x∈l,(put d x).length≤B) (hq:∀ s∈ns,(quote s).length≤Q):(put (d+1) (.mk 6#8 n s l ns)).length≤l.length*(B+Q+2)+2:=by
 show (123#8::(putO (put d) ns l++[125#8])).length≤_
 have:=putO_le (ns:=ns) h hq
 rw [List.length_cons,List.length_append]
 show _+1+1≤_
 omega
theorem lst_len {d:Nat} {s:Bs} {n:BitVec 64} {l:List JT} {ns:List Bs} {B:Nat} (h:∀ x∈l,(put d x).length≤B):(put (d+1) (.mk 5#8 n s l ns)).length≤l.length*(B+1)+2:=by
 show (91#8::(putL (put d) l++[93#8])).length≤_
 have:=putL_le h
 rw [List.length_cons,List.length_append]
 show _+1+1≤_
 omega
theorem ev_len {e:Ev} (h:checkM e=0):(put 2 (evJ e)).length≤2132:=by
 obtain ⟨h1,h2,h3,h4⟩:=check_ok h
 have hk:=of_decide_eq_true h1
 obtain ⟨g1,g2,g3,g4⟩:=sz_fin ⟨e.k.toNat,by omega⟩ hk.1
 dsimp only at g1 g2 g3 g4
 rw [BitVec.ofNat_toNat,BitVec.setWidth_eq] at g1 g2 g3 g4
 obtain ⟨_,_,_,u4⟩:=nm_ok h1
 have hdl:(dataL e).length=(dataNs e.k).length:=by
  unfold dataL dataNs evNs
  rw [List.length_append,List.length_append,List.length_map,List.length_map,h2]
  by_cases hd:evData e.k=true
  ·rw [if_pos hd,if_pos hd]; rfl
  ·rw [if_neg hd,if_neg hd]; rfl
 have hdat:(put 1 (dataJ e)).length≤702:=by
  have:=obj_len (d:=0) (s:=[]) (n:=0#64) (l:=dataL e) (ns:=dataNs e.k) (B:=42) (Q:=26) (fun x hx=>by
   unfold dataL at hx
   rcases List.mem_append.1 hx with hx|hx
   ·obtain ⟨n,_,rfl⟩:=List.mem_map.1 hx
    exact Nat.le_trans (num_len 0 n) (by decide)
   ·split at hx
    ·rw [List.mem_singleton] at hx
     subst hx
     rw [text_len 0 (hexB_pl _) (Utf.ascii (hexB_ascii _)),hexB_n2]
     omega
    ·cases hx) (fun s hs=>by
   rw [List.all_eq_true] at g1
   have g:=g1 s hs
   rw [Bool.and_eq_true] at g
   rw [quote_plain g.1]
   have:=of_decide_eq_true g.2
   omega)
  refine Nat.le_trans this ?_
  have:(dataL e).length*(42+26+2)≤10*70:=Nat.mul_le_mul (by omega) (by decide)
  omega
 refine Nat.le_trans (obj_len (d:=1) (s:=[]) (n:=0#64) (ns:=[timeB,nameB,dataB]) (B:=702) (Q:=6) (l:=[tNum e.t,tText (evNm e.k),dataJ e]) (fun x hx=>?_) (fun s hs=>?_)) (show 3*(702+6+2)+2≤2132 by omega)
 ·simp only [List.mem_cons,List.not_mem_nil,or_false] at hx
  rcases hx with rfl|rfl|rfl
  ·exact Nat.le_trans (num_len 1 _) (by decide)
  ·rw [text_len 1 g3 (Utf.ascii u4)]; omega
  ·exact hdat
 ·have:∀ s∈[timeB,nameB,dataB],(quote s).length≤6:=by decide
  exact this s hs
theorem q2:∀ s∈[verB,evsB],(quote s).length≤14:=by
 intro s hs
 simp only [List.mem_cons,List.not_mem_nil,or_false] at hs
 rcases hs with rfl|rfl
 ·rw [quote_plain (by decide)]; decide
 ·rw [quote_plain (by decide)]; decide
theorem root_len {es:List Ev} (h:prtM es=0):(put 4 (rootJ es)).length≤es.length*4266+1000:=by
 obtain ⟨h1,h2⟩:=prtM_ok h
 have hl:(put 3 (.mk 5#8 0#64 [] (es.map evJ) [])).length≤(es.map evJ).length*(2132+1)+2:=lst_len (d:=2) fun x hx=>by
  obtain ⟨e,he,rfl⟩:=List.mem_map.1 hx
  exact ev_len (prtF_all es _ h2 e he)
 rw [List.length_map] at hl
 have:=obj_len (d:=3) (s:=[]) (n:=0#64) (l:=[tText v03B,.mk 5#8 0#64 [] (es.map evJ) []]) (ns:=[verB,evsB]) (B:=es.length*2133+7) (Q:=14) (fun x hx=>by
  simp only [List.mem_cons,List.not_mem_nil,or_false] at hx
  rcases hx with rfl|rfl
  ·rw [text_len 3 (by decide) (Utf.ascii (by decide))]
   show 3+2≤_
   omega
  ·exact Nat.le_trans hl (by omega)) (fun s hs=>q2 s hs)
 refine Nat.le_trans this ?_
 show 2*(es.length*2133+7+14+2)+2≤_
 omega
end Qj
end
section
namespace Sx
open Go.RowKit Sha Vi Js Ev Qj
set_option maxRecDepth 20000 in
set_option maxHeartbeats 8000000 in
theorem fn_dprinted (n:BitVec 64):Fn Tryd.prog tds 49 [] [.c (.w64 n)] (fun _=>True) (fun y hs=>y=.a (.c (.str (U8 (dig n.toNat))))∧hs=[]):=by
 refine fn_of_body tds_ok follows_ Tryd.func49 rfl (t:=.a (.c (.w64 n))::anys (Tryd.f49.ntmps-1)) rfl (fun w r0 hr0 _=>?_)
 obtain rfl:r0=[]:=List.eq_nil_of_length_eq_zero hr0
 (repeat show _∧_;first|refine yr ?_|refine yt ?_|refine yf ?_|refine yo ?_)
 have hn:=n.isLt
 refine .inl ⟨BitVec 64 × Bs × Nat,fun x=>match x with
  | (m,acc,f)=>⟨[.a (.c (.w64 (m))),.any,.any,.a (.c (.str ((U8 acc)))),.any,.any,.any,.any,.any,.any,.any,.any,.any,.any,.any,.any,.any],[]⟩,
  fun x=>match x with
  | (m,acc,f)=>0<f∧acc.length+f=20∧m.toNat<10 ^ f∧dig n.toNat=digs f m.toNat++acc,fun x=>x.1.toNat,⟨(n,[],20),[],⟨⟨rfl,rfl,rfl⟩,by (repeat first|exact trivial|refine ent1 ?_)⟩,by decide,rfl,by show n.toNat<10 ^ 20; omega,by simp [dig]⟩,fun x hx=>?_⟩
 obtain ⟨m,acc,f⟩:=x
 obtain ⟨hf,hal,hm,hd⟩:=hx
 dsimp only
 (repeat show _∧_;first|refine yr ?_|refine yt ?_|refine yf ?_|refine yo ?_)
 have hb:BitVec.setWidth 8 (48#64+m % 10#64)=b8 (48+m.toNat % 10):=by
  apply BitVec.eq_of_toNat_eq
  rw [BitVec.toNat_setWidth,BitVec.toNat_add,BitVec.toNat_umod,b8_nat (by omega)]
  show (48+m.toNat % 10) % 2 ^ 64 % 2 ^ 8=_
  omega
 refine ⟨U8 [b8 (48+m.toNat % 10)],⟨rfl,fun q hq=>?_⟩,?_⟩
 ·obtain rfl:q=0:=by omega
  exact congrArg SC.w8 hb
 have hdv:(m / 10#64).toNat=m.toNat / 10:=BitVec.toNat_udiv ..
 obtain ⟨g,rfl⟩:∃ g,f=g+1:=⟨f-1,by omega⟩
 by_cases hz:m / 10#64=0#64
 ·have e1:decide (m / 10#64=0#64)=true:=decide_eq_true hz
  have h10:m.toNat<10:=by rw [hz] at hdv; have:(0#64).toNat=0:=rfl; omega
  have hR:dig n.toNat=b8 (48+m.toNat % 10)::acc:=by
   rw [hd,digs,if_pos h10,Nat.mod_eq_of_lt h10]; rfl
  rw [hR]
  (repeat show _∧_;first|refine yr ?_|refine yt ?_|refine yf ?_|refine yo ?_)
  refine And.intro (by rw [U8_len,U8_len]; show 1+acc.length≤_; omega) ?_
  (repeat show _∧_;first|refine yr ?_|refine yt ?_|refine yf ?_|refine ya e1 ?_|refine yb e1 ?_|refine yo ?_)
  exact ⟨.a (.c (.str (U8 (b8 (48+m.toNat % 10)::acc)))),_,⟨[],⟨rfl,rfl,rfl⟩,by (repeat first|exact trivial|refine ent1 ?_)⟩,rfl,rfl⟩
 ·have e1:decide (m / 10#64=0#64)=false:=decide_eq_false hz
  have h10:¬ m.toNat<10:=fun h=>hz (by apply BitVec.eq_of_toNat_eq; rw [hdv]; show _=0; omega)
  have hR:dig n.toNat=digs g (m / 10#64).toNat++(b8 (48+m.toNat % 10)::acc):=by
   rw [hd,digs,if_neg h10,hdv,List.append_assoc]; rfl
  have hg:0<g:=by
   rcases Nat.eq_zero_or_pos g with rfl|h
   ·exact absurd hm (by omega)
   ·exact h
  (repeat show _∧_;first|refine yr ?_|refine yt ?_|refine yf ?_|refine yo ?_)
  refine And.intro (by rw [U8_len,U8_len]; show 1+acc.length≤_; omega) ?_
  (repeat show _∧_;first|refine yr ?_|refine yt ?_|refine yf ?_|refine ya e1 ?_|refine yb e1 ?_|refine yo ?_)
  refine ⟨(m / 10#64,b8 (48+m.toNat % 10)::acc,g),[],⟨⟨rfl,rfl,rfl⟩,by (repeat first|exact trivial|refine ent1 ?_)⟩,⟨hg,by show acc.length+1+g=20; omega,by show (m / 10#64).toNat<10 ^ g; rw [hdv]; rw [Nat.pow_succ] at hm; omega,hR⟩,by show (m / 10#64).toNat<m.toNat; omega⟩
end Sx
end
section
namespace Qj
open Sha Js Ev
theorem quote_pl {s:Bs} (h:s.all plc=true):quote s=34#8::(s++[34#8]):=by
 obtain ⟨g1,g2,g3⟩:=plain_flat s h
 have:=quote_of g3
 rw [g1,g2] at this
 exact this
theorem putL_snoc {pv:JT→Bs} (x:JT):∀ l:List JT,putL pv (l++[x])=putL pv l++((if l=[] then [] else [44#8])++pv x)
 | []=>rfl
 | [y]=>by
  show pv y++44#8::pv x=pv y++((if [y]=[] then [] else [44#8])++pv x)
  rw [if_neg (by simp)]; rfl
 | y::z::l=>by
  have ih:=putL_snoc (pv:=pv) x (z::l)
  rw [if_neg (by simp)] at ih ⊢
  have e:y::z::l++[x]=y::(z::l++[x]):=rfl
  rw [e,putL_cons pv y (z::l++[x]) (by simp),ih,putL_cons pv y (z::l) (by simp)]
  simp
theorem putO_snoc {pv:JT→Bs} (x:JT) (t:Bs):∀ (ns:List Bs) (l:List JT),ns.length=l.length→putO pv (ns++[t]) (l++[x])=putO pv ns l++((if l=[] then [] else [44#8])++(quote t++58#8::pv x))
 | [],[],_=>rfl
 | [],_::_,h=>by simp at h
 | _::_,[],h=>by simp at h
 | s::ns,[y],h=>by
  obtain rfl:ns=[]:=List.eq_nil_of_length_eq_zero (by simpa using h)
  show quote s++58#8::(pv y++44#8::(quote t++58#8::pv x))=quote s++58#8::pv y++((if [y]=[] then [] else [44#8])++(quote t++58#8::pv x))
  rw [if_neg (by simp)]; simp
 | s::ns,y::z::l,h=>by
  have ih:=putO_snoc (pv:=pv) x t ns (z::l) (by simpa using h)
  rw [if_neg (by simp)] at ih ⊢
  have e:y::z::l++[x]=y::(z::l++[x]):=rfl
  have e2:s::ns++[t]=s::(ns++[t]):=rfl
  rw [e,e2,putO_cons pv s (ns++[t]) y (z::l++[x]) (by simp),ih,putO_cons pv s ns y (z::l) (by simp)]
  simp
def hdrB:Bs:=123#8::(quote verB++58#8::(quote v03B++44#8::(quote evsB++[58#8,91#8])))
theorem root_txt (es:List Ev):put 4 (rootJ es)=hdrB++(putL (put 2) (es.map evJ)++[93#8,125#8]):=by
 have e:put 4 (rootJ es)=123#8::((quote verB++58#8::(quote v03B++44#8::(quote evsB++58#8::(91#8::(putL (put 2) (es.map evJ)++[93#8])))))++[125#8]):=rfl
 rw [e]
 unfold hdrB
 simp
def ev1:Bs:=123#8::(quote timeB++[58#8])
def ev2:Bs:=44#8::(quote nameB++[58#8,34#8])
def ev3:Bs:=34#8::44#8::(quote dataB++[58#8,123#8])
def datT (e:Ev):Bs:=putO (put 0) (dataNs e.k) (dataL e)
theorem ev_txt {e:Ev} (h:(evNm e.k).all plc=true):put 2 (evJ e)=ev1++(dig e.t.toNat++(ev2++(evNm e.k++(ev3++(datT e++[125#8,125#8]))))):=by
 have e1:put 2 (evJ e)=123#8::((quote timeB++58#8::(dig e.t.toNat++44#8::(quote nameB++58#8::(quote (evNm e.k)++44#8::(quote dataB++58#8::(123#8::(datT e++[125#8])))))))++[125#8]):=rfl
 rw [e1,quote_pl h]
 unfold ev1 ev2 ev3
 simp
theorem dat_txt {e:Ev} (h:checkM e=0):datT e=putO (put 0) (evNs e.k) (e.N.map tNum)++if evData e.k=true then (if e.N=[] then [] else [44#8])++(quote idB++58#8::34#8::(hexB e.D++[34#8])) else []:=by
 obtain ⟨h1,h2,h3,h4⟩:=check_ok h
 have hN:(evNs e.k).length=(e.N.map tNum).length:=by rw [evNs,List.length_map,List.length_map,h2]
 unfold datT dataNs dataL
 by_cases hd:evData e.k=true
 ·rw [if_pos hd,if_pos hd,if_pos hd,putO_snoc _ _ _ _ hN]
  have e1:put 0 (tText (hexB e.D))=quote (hexB e.D):=rfl
  rw [e1,quote_pl (hexB_pl e.D)]
  have e2:(if e.N.map tNum=[] then ([]:Bs) else [44#8])=if e.N=[] then [] else [44#8]:=by cases e.N <;> rfl
  rw [e2]
 ·rw [if_neg hd,if_neg hd,if_neg hd,List.append_nil,List.append_nil,List.append_nil]
theorem nm_plF:∀ k:BitVec 8,evOk k=true→(evNm k).all plc=true∧(evNm k).length≤32∧((evNs k).all fun s=>s.all plc && decide (s.length≤24))=true:=by decide +kernel
theorem nm_pl {k:BitVec 8} (h:evOk k=true):(evNm k).all plc=true:=(nm_plF k h).1
theorem names_dt:∀ k:BitVec 8,evOk k=true→evNames k=[]→evData k=false:=by decide +kernel
theorem names_n9:∀ k:BitVec 8,(evNames k).length≤9:=by decide +kernel
end Qj
end
section
namespace Sx
open Go.RowKit Sha Vi Js Ev Qj
theorem hdr_u8:U8 hdrB=[123,34,113,108,111,103,95,118,101,114,115,105,111,110,34,58,34,48,46,51,34,44,34,101,118,101,110,116,115,34,58,91]:=by decide +kernel
theorem ev1_u8:U8 ev1=[123,34,116,105,109,101,34,58]:=by decide +kernel
theorem ev2_u8:U8 ev2=[44,34,110,97,109,101,34,58,34]:=by decide +kernel
theorem ev3_u8:U8 ev3=[34,44,34,100,97,116,97,34,58,123]:=by decide +kernel
def evH (e:Ev):Bs:=ev1++(dig e.t.toNat++(ev2++(evNm e.k++ev3)))
theorem evH_u8 (acc:Bs) (e:Ev):U8 acc++([123,34,116,105,109,101,34,58]++U8 (dig e.t.toNat)++[44,34,110,97,109,101,34,58,34]++U8 (evNm e.k)++[34,44,34,100,97,116,97,34,58,123])=U8 (acc++evH e):=by
 rw [← ev1_u8,← ev2_u8,← ev3_u8]
 unfold evH U8
 simp only [List.map_append,List.append_assoc]
theorem dig20 (n:BitVec 64):(dig n.toNat).length≤20:=digs_len 20 n.toNat 20 (by have:=n.isLt; omega) (by decide)
theorem frc_atQ {x y:SC} {k:SC→Prop} (h:x=y) (hk:k y):frcSC x k:=by rw [h,frcSC_eq]; exact hk
theorem mid_u8 (acc nm:Bs) (n:Nat):U8 acc++([34]++U8 nm++[34,58]++U8 (dig n))=U8 (acc++(34#8::(nm++34#8::58#8::dig n))):=by
 rw [show ([34]:List UInt8)=U8 [34#8] from rfl,show ([34,58]:List UInt8)=U8 [34#8,58#8] from rfl]
 unfold U8
 simp only [← List.map_append]
 simp
def hexQ:List UInt8:=[48,49,50,51,52,53,54,55,56,57,97,98,99,100,101,102]
theorem hx_hi:∀ c:BitVec 8,(hexQ.getD (c / 16#8).toNat 0).toBitVec=hexd (c.toNat / 16):=by decide +kernel
theorem hx_lo:∀ c:BitVec 8,(hexQ.getD (c % 16#8).toNat 0).toBitVec=hexd (c.toNat % 16):=by decide +kernel
theorem hx_hl:∀ ch:BitVec 8,(0:Int)≤((ch / 16#8).toNat:Int)∧((ch / 16#8).toNat:Int)<((16:Nat):Int):=by decide +kernel
theorem hx_ll:∀ ch:BitVec 8,(0:Int)≤((ch % 16#8).toNat:Int)∧((ch % 16#8).toNat:Int)<((16:Nat):Int):=by decide +kernel
theorem strF_at {l:List (List UInt8)} {j:Nat} (hj:j<l.length):strsF l j=.str (U8 (nsB (l[j]'hj))):=by
 rw [U8_nsB]; obtain ⟨s,h1,h2⟩:=nthC_str l j hj; rw [List.getElem?_eq_getElem hj] at h2; injection h2 with h2; rw [h2]; exact h1
theorem app_u8 (a b:Bs):U8 a++U8 b=U8 (a++b):=List.map_append.symm
set_option maxRecDepth 20000 in
set_option maxHeartbeats 32000000 in
theorem fn_printed {W:World} {ms:List Nat} {a:Option Addr} {n c:Nat} {es:List Ev} (h:EvsAt W ms a n c es) (hall:∀ e∈es,checkM e=0) (hn:n≤1000):FnR Tryd.prog tds 26 1 [[.past W ms]] [.c (.slc a n c)] (fun _=>True) (fun y hs=>y=.a (.c (.str (U8 (put 4 (rootJ es)))))∧hs=[[.past W ms]]):=by
 refine fn_of_body tds_ok follows_ Tryd.func26 rfl (t:=.a (.c (.slc a n c))::anys (Tryd.f26.ntmps-1)) rfl (fun w r0 hr0 _=>?_)
 obtain ⟨x0,rfl⟩:=List.length_eq_one_iff.1 hr0
 have hl:=h.len
 have hle:=h.le
 (repeat show _∧_;first|refine yr ?_|refine yt ?_|refine yf ?_|refine yo ?_)
 rw [← hdr_u8]
 refine .inl ⟨Nat × Bs,fun y=>match y with
  | (j,acc)=>⟨[.a (.c (.slc a n c)),.any,.any,.a (.c (.str ((U8 acc)))),.any,.any,.any,.any,.any,.any,.any,.any,.a (.c (.slc a n c)),.a (.c (.int .i64 (n))),.a (.c (.int .i64 (((j:Nat):Int)))),.any,.any,.any,.any,.any,.any,.any,.any,.any,.any,.any,.any,.any,.any,.any,.any,.any,.any,.any,.any,.any,.any,.any,.any,.any,.any,.any,.any,.any,.any,.any,.any,.any,.any,.any,.any,.any,.any,.any,.any,.any,.any,.any,.any,.any,.any,.any,.any,.any,.any,.any,.any,.any,.any,.any,.any,.any,.any,.any,.any,.any,.any,.any,.any,.any,.any,.any,.any,.any,.any,.any,.any,.any,.any,.any,.any,.any,.any,.any],[[.past W ms]]⟩,
  fun y=>match y with
  | (j,acc)=>j≤n∧acc=hdrB++Js.putL (put 2) ((es.take j).map evJ),fun y=>n-y.1,⟨(0,hdrB),[0],⟨⟨rfl,rfl,rfl⟩,by (repeat first|exact trivial|refine ent1 ?_)⟩,Nat.zero_le _,by simp [Js.putL]⟩,fun y hy=>?_⟩
 obtain ⟨j,acc⟩:=y
 obtain ⟨hjn,hacc⟩:=hy
 dsimp only
 have hal:acc.length≤32+1000*2133:=by
  have h1:=putL_le (pv:=put 2) (B:=2132) (l:=(es.take j).map evJ) (fun x hx=>by
   obtain ⟨e,he,rfl⟩:=List.mem_map.1 hx
   exact ev_len (hall e (List.mem_of_mem_take he)))
  rw [List.length_map,List.length_take] at h1
  have h2:min j es.length*(2132+1)≤1000*2133:=Nat.mul_le_mul (by omega) (by decide)
  rw [hacc,List.length_append,show hdrB.length=32 from by decide +kernel]
  omega
 by_cases hj:j<n
 rotate_left
 ·have e1:decide (((j:Nat):Int)<(n:Int))=false:=decide_eq_false (by omega)
  have hR:put 4 (rootJ es)=acc++[93#8,125#8]:=by
   rw [root_txt,hacc,List.take_of_length_le (by omega),List.append_assoc]
  rw [hR]
  (repeat show _∧_;first|refine yr ?_|refine yt ?_|refine yf ?_|refine ya e1 ?_|refine yb e1 ?_|refine yo ?_)
  refine And.intro (by rw [U8_len]; show acc.length+2≤_; omega) ?_
  (repeat show _∧_;first|refine yr ?_|refine yt ?_|refine yf ?_|refine ya e1 ?_|refine yb e1 ?_|refine yo ?_)
  refine ⟨.a (.c (.str (U8 (acc++[93#8,125#8])))),_,⟨[0],⟨rfl,rfl,rfl⟩,?_⟩,rfl,rfl⟩
  (repeat first|exact trivial|refine ent1 ?_)
  exact ⟨app_u8 acc [93#8,125#8],by (repeat first|exact trivial|refine ent1 ?_)⟩
 have e1:decide (((j:Nat):Int)<(n:Int))=true:=decide_eq_true (by omega)
 obtain ⟨A,rfl⟩:∃ A,a=some A:=by
  cases a with
  | none=>exact absurd (h.nil rfl) (by omega)
  | some A=>exact ⟨A,rfl⟩
 have hjl:j<es.length:=by omega
 obtain ⟨x,him,hxe⟩:=h.elt A rfl j (es[j]'hjl) (List.getElem?_eq_getElem hjl)
 have hck:=hall _ (List.getElem_mem hjl)
 have htk:(es.take (j+1)).map evJ=(es.take j).map evJ++[evJ (es[j]'hjl)]:=by rw [List.take_add_one,List.getElem?_eq_getElem hjl,Option.toList_some,List.map_append]; rfl
 generalize (es[j]'hjl)=e at him hxe hck htk
 obtain ⟨k1,k2,k3,k4⟩:=Qj.check_ok hck
 have k5:=names_dt e.k k1
 have k6:=names_n9 e.k
 have hN:=hxe.N
 have hD:=hxe.D
 have hn1:=hxe.nN
 have hn2:=hxe.nD
 have hNc:=hN.le
 have hDc:=hD.le
 obtain ⟨aN,nN,cN,aD,nD,cD⟩:=x
 dsimp only at hN hD hn1 hn2 hNc hDc
 subst hn1; subst hn2
 (repeat show _∧_;first|refine yr ?_|refine yt ?_|refine yf ?_|refine ya e1 ?_|refine yb e1 ?_|refine yo ?_)
 refine ⟨evS e ⟨aN,e.N.length,cN,aD,e.D.length,cD⟩,⟨.past (i:=0) rfl (by exact him),rfl⟩,?_⟩
 (repeat show _∧_;first|refine yr ?_|refine yt ?_|refine yf ?_|refine yo ?_)
 by_cases hj0:0<j
 case' pos =>
  have f0:decide ((0:Int)<((j:Nat):Int))=true:=decide_eq_true (by omega)
  (repeat show _∧_;first|refine yr ?_|refine yt ?_|refine yf ?_|refine ya f0 ?_|refine yb f0 ?_|refine yo ?_)
  refine And.intro (by rw [U8_len]; show acc.length+1≤_; omega) ?_
  (repeat show _∧_;first|refine yr ?_|refine yt ?_|refine yf ?_|refine yo ?_)
  rw [show U8 acc++({ data:=#[44] }:ByteArray).data.toList=U8 (acc++[44#8]) from app_u8 acc [44#8]]
  have hnew:hdrB++Js.putL (put 2) ((es.take (j+1)).map evJ)=(acc++[44#8])++put 2 (evJ e):=by
   rw [htk,Qj.putL_snoc,if_neg,hacc]
   ·simp
   ·intro e0
    have:=congrArg List.length e0
    rw [List.length_map,List.length_take,List.length_nil] at this
    omega
  have hal1:(acc++[44#8]).length≤3000000:=by rw [List.length_append]; show _+1≤_; omega
  clear f0 hacc hal hj0
  generalize acc++[44#8]=acc1 at hnew hal1 ⊢
 case' neg =>
  have f0:decide ((0:Int)<((j:Nat):Int))=false:=decide_eq_false (by omega)
  (repeat show _∧_;first|refine yr ?_|refine yt ?_|refine yf ?_|refine ya f0 ?_|refine yb f0 ?_|refine yo ?_)
  have hnew:hdrB++Js.putL (put 2) ((es.take (j+1)).map evJ)=acc++put 2 (evJ e):=by
   have h0:j=0:=by omega
   rw [htk,hacc,h0]; simp [Js.putL]
  have hal1:acc.length≤3000000:=by omega
  clear hacc hal hj0 f0
  generalize acc=acc1 at hnew hal1 ⊢
 all_goals
  rw [ev_txt (nm_pl k1)] at hnew
  refine call_same (fn_eof e.k) [] rfl (by (repeat first|exact trivial|refine ent1 ?_)) trivial (fun _ _=>trivial) ?_
  rintro y hs ⟨rfl,rfl⟩
  rw [show evName e.k=U8 (evNm e.k) from (U8_nsB _).symm]
  obtain ⟨l,hl⟩:∃ l,evNames e.k=l:=⟨_,rfl⟩
  rw [hl] at k2 k5 k6 ⊢
  (repeat show _∧_;first|refine yr ?_|refine yt ?_|refine yf ?_|refine yo ?_)
  have d20:=dig20 e.t
  have m32:=(nm_plF e.k k1).2.1
  have hal2:(acc1++evH e).length≤3000100:=by
   unfold evH
   simp only [List.length_append]
   rw [show ev1.length=8 from by decide +kernel,show ev2.length=9 from by decide +kernel,show ev3.length=10 from by decide +kernel]
   omega
  have hnew:hdrB++Js.putL (put 2) ((es.take (j+1)).map evJ)=(acc1++evH e)++(datT e++[125#8,125#8]):=by
   rw [hnew]; unfold evH; simp
  cases l with
  | nil =>
   have hd:=k5 rfl
   (repeat show _∧_;first|refine yr ?_|refine yt ?_|refine yf ?_|refine yo ?_)
   refine ⟨none,[],[(0,true),(1,true),(2,true),(6,true),(7,true),(3,false),(4,true),(5,true),(8,true),(9,true),(10,true),(11,true)],[],by kernel_rfl,?_⟩
   (repeat show _∧_;first|refine yr ?_|refine yt ?_|refine yf ?_|refine yo ?_)
   refine call_same (fn_dprinted e.t) [] rfl (by (repeat first|exact trivial|refine ent1 ?_)) trivial (fun _ _=>trivial) ?_
   rintro y hs ⟨rfl,rfl⟩
   refine And.intro (by rw [U8_len]; show 8+(dig e.t.toNat).length≤_; omega) ?_
   refine And.intro (by rw [List.length_append,U8_len]; show 8+(dig e.t.toNat).length+9≤_; omega) ?_
   refine And.intro (by rw [List.length_append,List.length_append,U8_len,U8_len]; show 8+(dig e.t.toNat).length+9+(evNm e.k).length≤_; omega) ?_
   refine And.intro (by rw [List.length_append,List.length_append,List.length_append,U8_len,U8_len]; show 8+(dig e.t.toNat).length+9+(evNm e.k).length+10≤_; omega) ?_
   refine And.intro (by rw [List.length_append,List.length_append,List.length_append,List.length_append,U8_len,U8_len,U8_len]; show acc1.length+(8+(dig e.t.toNat).length+9+(evNm e.k).length+10)≤_; omega) ?_
   (repeat show _∧_;first|refine yr ?_|refine yt ?_|refine yf ?_|refine yo ?_)
   rw [evH_u8]
   generalize acc1++evH e=acc2 at hnew hal2 ⊢
   have hN0:e.N.length=0:=k2
   have g1:decide ((0:Int)<((e.N.length:Nat):Int))=false:=decide_eq_false (by omega)
   (repeat show _∧_;first|refine yr ?_|refine yt ?_|refine yf ?_|refine yo ?_)
   refine .inr ⟨1,?_⟩
   (repeat show _∧_;first|refine yr ?_|refine yt ?_|refine yf ?_|refine ya g1 ?_|refine yb g1 ?_|refine ya hd ?_|refine yb hd ?_|refine yo ?_)
   (repeat show _∧_;first|refine yr ?_|refine yt ?_|refine yf ?_|refine ya g1 ?_|refine yb g1 ?_|refine ya hd ?_|refine yb hd ?_|refine yo ?_)
   have hdt:datT e=[]:=by
    rw [dat_txt hck,hd]
    have h0:e.N=[]:=List.eq_nil_of_length_eq_zero hN0
    have h1:evNs e.k=[]:=by unfold evNs; rw [hl]; rfl
    rw [h0,h1]; rfl
   refine And.intro (by rw [U8_len]; show acc2.length+2≤_; omega) ?_
   (repeat show _∧_;first|refine yr ?_|refine yt ?_|refine yf ?_|refine yo ?_)
   rw [show U8 acc2++({ data:=#[125,125] }:ByteArray).data.toList=U8 (acc2++[125#8,125#8]) from app_u8 acc2 [125#8,125#8]]
   refine ⟨(j+1,acc2++[125#8,125#8]),[0],⟨⟨rfl,rfl,rfl⟩,by (repeat first|exact trivial|refine ent1 ?_)⟩,⟨hj,by rw [hnew,hdt]; simp⟩,by dsimp only; omega⟩
  | cons nm0 l0 =>
  obtain ⟨l,hl2⟩:∃ l,nm0::l0=l:=⟨_,rfl⟩
  have hl0:0<l.length:=by rw [← hl2]; simp
  have hstB:stB (nm0::l0)=[.row l.length (strsF l)]:=by rw [← hl2]; rfl
  have hstC:∀ i,stC i (nm0::l0)=.sn false i 0 0 l.length l.length:=by intro i; rw [← hl2]; rfl
  rw [hl2] at k2 k6 hl
  clear k5
  rw [hstB,hstC]
  clear hstB hstC hl2
  (repeat show _∧_;first|refine yr ?_|refine yt ?_|refine yf ?_|refine yo ?_)
  refine ⟨none,[],[(0,true),(1,true),(2,true),(6,true),(7,true),(3,false),(4,true),(5,true),(8,true),(9,true),(10,true),(11,true)],[],by kernel_rfl,?_⟩
  (repeat show _∧_;first|refine yr ?_|refine yt ?_|refine yf ?_|refine yo ?_)
  refine call_same (fn_dprinted e.t) [] rfl (by (repeat first|exact trivial|refine ent1 ?_)) trivial (fun _ _=>trivial) ?_
  rintro y hs ⟨rfl,rfl⟩
  refine And.intro (by rw [U8_len]; show 8+(dig e.t.toNat).length≤_; omega) ?_
  refine And.intro (by rw [List.length_append,U8_len]; show 8+(dig e.t.toNat).length+9≤_; omega) ?_
  refine And.intro (by rw [List.length_append,List.length_append,U8_len,U8_len]; show 8+(dig e.t.toNat).length+9+(evNm e.k).length≤_; omega) ?_
  refine And.intro (by rw [List.length_append,List.length_append,List.length_append,U8_len,U8_len]; show 8+(dig e.t.toNat).length+9+(evNm e.k).length+10≤_; omega) ?_
  refine And.intro (by rw [List.length_append,List.length_append,List.length_append,List.length_append,U8_len,U8_len,U8_len]; show acc1.length+(8+(dig e.t.toNat).length+9+(evNm e.k).length+10)≤_; omega) ?_
  (repeat show _∧_;first|refine yr ?_|refine yt ?_|refine yf ?_|refine yo ?_)
  rw [evH_u8]
  generalize acc1++evH e=acc2 at hnew hal2 ⊢
  (repeat show _∧_;first|refine yr ?_|refine yt ?_|refine yf ?_|refine yo ?_)
  have hns:evNs e.k=l.map nsB:=by unfold evNs; rw [hl]
  have hdt:=dat_txt hck
  rw [hns] at hdt
  have hpl:∀ s∈l.map nsB,s.all plc=true∧s.length≤24:=fun s hs=>by
   have h1:=(nm_plF e.k k1).2.2
   rw [hns,List.all_eq_true] at h1
   have h2:=h1 s hs
   rw [Bool.and_eq_true] at h2
   exact ⟨h2.1,of_decide_eq_true h2.2⟩
  refine .inl ⟨Nat × Bs,fun y=>match y with
   | (q,acc)=>⟨[.a (.c (.slc (some A) n c)),.any,.any,.a (.c (.str ((U8 acc)))),.any,.a (.c (.p 1 0 0)),.a (.c (.p 3 0 0)),.any,.any,.any,.any,.any,.a (.c (.slc (some A) n c)),.a (.c (.int .i64 (n))),.a (.c (.int .i64 (((j:Nat):Int)))),.any,.any,.any,.any,.any,.any,.any,.any,.any,.any,.any,.any,.any,.any,.any,.any,.any,.any,.any,.any,.any,.any,.any,.any,.any,.any,.a (.c (.slc aN e.N.length cN)),.a (.c (.int .i64 (e.N.length))),.a (.c (.int .i64 (((q:Nat):Int)))),.any,.any,.any,.any,.any,.any,.any,.any,.any,.any,.any,.any,.any,.any,.any,.any,.any,.any,.any,.any,.any,.any,.any,.any,.any,.any,.any,.any,.any,.any,.any,.any,.any,.any,.any,.any,.any,.any,.any,.any,.any,.any,.any,.any,.any,.any,.any,.any,.any,.any],[[.past W ms],evS e ⟨aN,e.N.length,cN,aD,e.D.length,cD⟩,[.row l.length (strsF l)],[.one (.str (U8 (evNm e.k))),.one (.sn false 2 0 0 l.length l.length),.one (.bool (evData e.k))]]⟩,
   fun y=>match y with
   | (q,acc)=>q≤e.N.length∧acc.length≤3000100+q*100∧acc=acc2++Js.putO (put 0) ((l.map nsB).take q) ((e.N.map tNum).take q),fun y=>e.N.length-y.1,⟨(0,acc2),[0,1,2,3],⟨⟨rfl,rfl,rfl⟩,?_⟩,Nat.zero_le _,hal2,by simp [Js.putO]⟩,fun y hy=>?_⟩
  ·(repeat first|exact trivial|refine ent1 ?_)
   exact ⟨fun i hi=>eqC_strsM l hi,by (repeat first|exact trivial|refine ent1 ?_)⟩
  obtain ⟨q,acc⟩:=y
  obtain ⟨hq,hal3,hacc⟩:=hy
  dsimp only
  by_cases hqn:q<e.N.length
  ·have g1:decide (((q:Nat):Int)<((e.N.length:Nat):Int))=true:=decide_eq_true (by omega)
   have hql:q<l.length:=by omega
   obtain ⟨B,rfl⟩:∃ B,aN=some B:=by
    cases aN with
    | none=>have:=hN.nil_.1; omega
    | some B=>exact ⟨B,rfl⟩
   obtain ⟨m,hm⟩:∃ m,e.N[q]?=some m:=⟨_,List.getElem?_eq_getElem hqn⟩
   (repeat show _∧_;first|refine yr ?_|refine yt ?_|refine yf ?_|refine ya g1 ?_|refine yb g1 ?_|refine yo ?_)
   refine loadR (i:=0) rfl (hN.im B rfl (by omega)) (j:=q*1) (map_get? (by rw [Nat.mul_one]; exact hm)) ?_
   (repeat show _∧_;first|refine yr ?_|refine yt ?_|refine yf ?_|refine yo ?_)
   have hsp:(e.N.map tNum)[q]?=some (tNum m):=by rw [List.getElem?_map,hm]; rfl
   have hnl:((l.map nsB).take q).length=((e.N.map tNum).take q).length:=by simp only [List.length_take,List.length_map]; omega
   obtain ⟨s1,s2⟩:=hpl (nsB (l[q]'hql)) (List.mem_map_of_mem (List.getElem_mem hql))
   have hst:acc2++Js.putO (put 0) ((l.map nsB).take (q+1)) ((e.N.map tNum).take (q+1))=(acc++if q=0 then [] else [44#8])++(34#8::(nsB (l[q]'hql)++34#8::58#8::dig m.toNat)):=by
    rw [List.take_add_one,List.take_add_one,hsp,List.getElem?_map,List.getElem?_eq_getElem hql]
    simp only [Option.map_some,Option.toList_some]
    rw [Qj.putO_snoc _ _ _ _ hnl,hacc,quote_pl s1]
    have e3:put 0 (tNum m)=dig m.toNat:=rfl
    have e4:(if (e.N.map tNum).take q=[] then ([]:Bs) else [44#8])=if q=0 then [] else [44#8]:=by
     by_cases h0:q=0
     ·rw [if_pos h0,if_pos (by rw [h0]; rfl)]
     ·rw [if_neg h0,if_neg]
      intro h1
      have:=congrArg List.length h1
      rw [List.length_take,List.length_map,List.length_nil] at this
      omega
    rw [e3,e4]
    simp
   have hsj:=strF_at hql
   generalize nsB (l[q]'hql)=nm at hst hsj s2
   have d20:=dig20 m
   have hax:(acc++if q=0 then [] else [44#8]).length≤3000101+q*100:=by
    rw [List.length_append]
    split
    ·show _+0≤_; omega
    ·show _+1≤_; omega
   by_cases hq0:0<q
   case' pos =>
    have f0:decide ((0:Int)<((q:Nat):Int))=true:=decide_eq_true (by omega)
    rw [if_neg (show ¬ q=0 by omega)] at hst hax
    (repeat show _∧_;first|refine yr ?_|refine yt ?_|refine yf ?_|refine ya f0 ?_|refine yb f0 ?_|refine yo ?_)
    refine And.intro (by rw [U8_len]; show acc.length+1≤_; omega) ?_
    (repeat show _∧_;first|refine yr ?_|refine yt ?_|refine yf ?_|refine yo ?_)
    rw [show U8 acc++({ data:=#[44] }:ByteArray).data.toList=U8 (acc++[44#8]) from app_u8 acc [44#8]]
    generalize acc++[44#8]=accX at hst hax ⊢
    clear f0 hacc hal3
   case' neg =>
    have f0:decide ((0:Int)<((q:Nat):Int))=false:=decide_eq_false (by omega)
    rw [if_pos (show q=0 by omega),List.append_nil] at hst hax
    (repeat show _∧_;first|refine yr ?_|refine yt ?_|refine yf ?_|refine ya f0 ?_|refine yb f0 ?_|refine yo ?_)
    clear f0 hacc hal3
    generalize acc=accX at hst hax ⊢
   all_goals
    refine ⟨none,[],[(0,true),(1,true),(2,true),(3,true),(4,true),(5,true),(6,true),(7,true),(8,true),(9,false),(10,true),(11,true),(12,true)],[],by kernel_rfl,?_⟩
    (repeat show _∧_;first|refine yr ?_|refine yt ?_|refine yf ?_|refine yo ?_)
    refine frc_atQ hsj ?_
    refine And.intro (by rw [U8_len]; show 1+nm.length≤_; omega) ?_
    refine And.intro (by rw [List.length_append,U8_len]; show 1+nm.length+2≤_; omega) ?_
    (repeat show _∧_;first|refine yr ?_|refine yt ?_|refine yf ?_|refine yo ?_)
    refine call_same (fn_dprinted m) [] rfl (by (repeat first|exact trivial|refine ent1 ?_)) trivial (fun _ _=>trivial) ?_
    rintro y hs ⟨rfl,rfl⟩
    refine And.intro (by rw [List.length_append,List.length_append,U8_len,U8_len]; show 1+nm.length+2+(dig m.toNat).length≤_; omega) ?_
    refine And.intro (by rw [List.length_append,List.length_append,List.length_append,U8_len,U8_len,U8_len]; show accX.length+(1+nm.length+2+(dig m.toNat).length)≤_; omega) ?_
    (repeat show _∧_;first|refine yr ?_|refine yt ?_|refine yf ?_|refine yo ?_)
    rw [mid_u8]
    refine ⟨(q+1,accX++(34#8::(nm++34#8::58#8::dig m.toNat))),[0,1,2,3],⟨⟨rfl,rfl,rfl⟩,?_⟩,⟨hqn,?_,hst.symm⟩,by dsimp only; omega⟩
    ·(repeat first|exact trivial|refine ent1 ?_)
     exact ⟨fun i hi=>eqC_strs l hi,by (repeat first|exact trivial|refine ent1 ?_)⟩
    ·show (accX++(34#8::(nm++34#8::58#8::dig m.toNat))).length≤3000100+(q+1)*100
     simp only [List.length_append,List.length_cons]
     omega
  ·have g1:decide (((q:Nat):Int)<((e.N.length:Nat):Int))=false:=decide_eq_false (by omega)
   have hacc3:acc=acc2++Js.putO (put 0) (l.map nsB) (e.N.map tNum):=by
    rw [hacc,List.take_of_length_le (by rw [List.length_map]; omega),List.take_of_length_le (by rw [List.length_map]; omega)]
   have hal4:acc.length≤3001000:=by omega
   clear hacc hal3
   cases hd:evData e.k
   ·rw [hd,if_neg (by decide),List.append_nil] at hdt
    (repeat show _∧_;first|refine yr ?_|refine yt ?_|refine yf ?_|refine ya g1 ?_|refine yb g1 ?_|refine ya hd ?_|refine yb hd ?_|refine yo ?_)
    (repeat show _∧_;first|refine yr ?_|refine yt ?_|refine yf ?_|refine ya g1 ?_|refine yb g1 ?_|refine ya hd ?_|refine yb hd ?_|refine yo ?_)
    refine And.intro (by rw [U8_len]; show acc.length+2≤_; omega) ?_
    (repeat show _∧_;first|refine yr ?_|refine yt ?_|refine yf ?_|refine yo ?_)
    rw [show U8 acc++({ data:=#[125,125] }:ByteArray).data.toList=U8 (acc++[125#8,125#8]) from app_u8 acc [125#8,125#8]]
    refine ⟨(j+1,acc++[125#8,125#8]),[0],⟨⟨rfl,rfl,rfl⟩,by (repeat first|exact trivial|refine ent1 ?_)⟩,⟨hj,by rw [hnew,hdt,hacc3]; simp⟩,by dsimp only; omega⟩
   ·rw [hd,if_pos rfl,if_neg (by intro h0; rw [h0] at k2; exact absurd k2 (by show ¬ 0=_; omega))] at hdt
    (repeat show _∧_;first|refine yr ?_|refine yt ?_|refine yf ?_|refine ya g1 ?_|refine yb g1 ?_|refine ya hd ?_|refine yb hd ?_|refine yo ?_)
    refine And.intro (by rw [U8_len]; show acc.length+7≤_; omega) ?_
    (repeat show _∧_;first|refine yr ?_|refine yt ?_|refine yf ?_|refine yo ?_)
    have hiu:U8 acc++[44,34,105,100,34,58,34]=U8 (acc++(44#8::(quote idB++[58#8,34#8]))):=by
     rw [show ([44,34,105,100,34,58,34]:List UInt8)=U8 (44#8::(quote idB++[58#8,34#8])) from by decide +kernel]
     exact app_u8 _ _
    have hnew3:hdrB++Js.putL (put 2) ((es.take (j+1)).map evJ)=(acc++(44#8::(quote idB++[58#8,34#8])))++(hexB e.D++[34#8,125#8,125#8]):=by
     rw [hnew,hdt,hacc3]; simp
    have hal5:(acc++(44#8::(quote idB++[58#8,34#8]))).length≤3001010:=by
     rw [List.length_append,show (44#8::(quote idB++[58#8,34#8])).length=7 from by decide +kernel]
     omega
    rw [show U8 acc++({ data:=#[44,34,105,100,34,58,34] }:ByteArray).data.toList=U8 (acc++(44#8::(quote idB++[58#8,34#8]))) from hiu]
    generalize acc++(44#8::(quote idB++[58#8,34#8]))=acc4 at hnew3 hal5 ⊢
    (repeat show _∧_;first|refine yr ?_|refine yt ?_|refine yf ?_|refine yo ?_)
    refine .inl ⟨Nat × Bs,fun y=>match y with
     | (q,acc)=>⟨[.a (.c (.slc (some A) n c)),.any,.any,.a (.c (.str ((U8 acc)))),.any,.any,.any,.any,.any,.any,.any,.any,.a (.c (.slc (some A) n c)),.a (.c (.int .i64 (n))),.a (.c (.int .i64 (((j:Nat):Int)))),.any,.any,.any,.any,.any,.any,.any,.any,.any,.any,.any,.any,.any,.any,.any,.any,.any,.any,.any,.any,.any,.any,.any,.any,.any,.any,.any,.any,.any,.any,.any,.any,.any,.any,.any,.any,.any,.any,.any,.any,.any,.any,.any,.any,.any,.any,.any,.any,.any,.any,.any,.any,.any,.any,.any,.a (.c (.slc aD e.D.length cD)),.a (.c (.int .i64 (e.D.length))),.a (.c (.int .i64 (((q:Nat):Int)))),.any,.any,.any,.any,.any,.any,.any,.any,.any,.any,.any,.any,.any,.any,.any,.any,.any,.any,.any,.any,.any],[[.past W ms]]⟩,
     fun y=>match y with
     | (q,acc)=>q≤e.D.length∧acc.length≤3001010+q*10∧acc=acc4++hexB (e.D.take q),fun y=>e.D.length-y.1,⟨(0,acc4),[0],⟨⟨rfl,rfl,rfl⟩,by (repeat first|exact trivial|refine ent1 ?_)⟩,Nat.zero_le _,hal5,by simp [hexB]⟩,fun y hy=>?_⟩
    obtain ⟨q5,acc5⟩:=y
    obtain ⟨hq5,hal6,hacc5⟩:=hy
    dsimp only
    by_cases hqd:q5<e.D.length
    ·have g5:decide (((q5:Nat):Int)<((e.D.length:Nat):Int))=true:=decide_eq_true (by omega)
     obtain ⟨B,rfl⟩:∃ B,aD=some B:=by
      cases aD with
      | none=>have:=hD.nil_.1; omega
      | some B=>exact ⟨B,rfl⟩
     have hdn:e.D.take (q5+1)=e.D.take q5++[e.D[q5]'hqd]:=by rw [List.take_add_one,List.getElem?_eq_getElem hqd]; rfl
     have hbm:=(hD.im B rfl (by omega)).one (show (e.D.map SC.w8)[q5]?=some (.w8 (e.D[q5]'hqd)) by rw [List.getElem?_map,List.getElem?_eq_getElem hqd]; rfl)
     generalize (e.D[q5]'hqd)=ch at hdn hbm
     have hst:acc4++hexB (e.D.take (q5+1))=acc5++[hexd (ch.toNat / 16),hexd (ch.toNat % 16)]:=by
      rw [hdn,hacc5]; unfold hexB; simp
     (repeat show _∧_;first|refine yr ?_|refine yt ?_|refine yf ?_|refine ya g5 ?_|refine yb g5 ?_|refine yo ?_)
     refine ⟨[.one (.w8 ch)],⟨.past (i:=0) rfl (by show ImAt W ms (B.add (q5*1)) _; rw [Nat.mul_one]; exact hbm),rfl⟩,?_⟩
     (repeat show _∧_;first|refine yr ?_|refine yt ?_|refine yf ?_|refine yo ?_)
     refine ⟨none,[],[(0,true),(1,true),(2,true),(3,true),(4,true),(5,true),(6,true),(7,false),(8,true),(9,true),(10,true)],[],by kernel_rfl,?_⟩
     (repeat show _∧_;first|refine yr ?_|refine yt ?_|refine yf ?_|refine yo ?_)
     refine And.intro (show (0:Int)≤((ch / 16#8).toNat:Int)∧((ch / 16#8).toNat:Int)<((16:Nat):Int) from hx_hl ch) ?_
     (repeat show _∧_;first|refine yr ?_|refine yt ?_|refine yf ?_|refine yo ?_)
     refine And.intro (show (0:Int)≤((ch % 16#8).toNat:Int)∧((ch % 16#8).toNat:Int)<((16:Nat):Int) from hx_ll ch) ?_
     (repeat show _∧_;first|refine yr ?_|refine yt ?_|refine yf ?_|refine yo ?_)
     refine ⟨U8 [hexd (ch.toNat / 16),hexd (ch.toNat % 16)],⟨rfl,fun q hq=>?_⟩,?_⟩
     ·have h2:q=0∨q=1:=by have:q<2:=hq; omega
      rcases h2 with rfl|rfl
      ·exact congrArg SC.w8 (hx_hi ch)
      ·exact congrArg SC.w8 (hx_lo ch)
     refine And.intro (by rw [U8_len,U8_len]; show acc5.length+2≤_; omega) ?_
     (repeat show _∧_;first|refine yr ?_|refine yt ?_|refine yf ?_|refine yo ?_)
     rw [app_u8]
     refine ⟨(q5+1,acc5++[hexd (ch.toNat / 16),hexd (ch.toNat % 16)]),[0],⟨⟨rfl,rfl,rfl⟩,by (repeat first|exact trivial|refine ent1 ?_)⟩,⟨hqd,by show (acc5++[hexd (ch.toNat / 16),hexd (ch.toNat % 16)]).length≤3001010+(q5+1)*10; rw [List.length_append]; show _+2≤_; omega,hst.symm⟩,by dsimp only; omega⟩
    ·have g5:decide (((q5:Nat):Int)<((e.D.length:Nat):Int))=false:=decide_eq_false (by omega)
     rw [List.take_of_length_le (by omega)] at hacc5
     (repeat show _∧_;first|refine yr ?_|refine yt ?_|refine yf ?_|refine ya g5 ?_|refine yb g5 ?_|refine yo ?_)
     refine And.intro (by rw [U8_len]; show acc5.length+1≤_; omega) ?_
     (repeat show _∧_;first|refine yr ?_|refine yt ?_|refine yf ?_|refine yo ?_)
     rw [show U8 acc5++({ data:=#[34] }:ByteArray).data.toList=U8 (acc5++[34#8]) from app_u8 acc5 [34#8]]
     have hal7:(acc5++[34#8]).length≤3002000:=by rw [List.length_append]; show _+1≤_; omega
     refine And.intro (by rw [U8_len]; show (acc5++[34#8]).length+2≤_; omega) ?_
     (repeat show _∧_;first|refine yr ?_|refine yt ?_|refine yf ?_|refine yo ?_)
     rw [show U8 (acc5++[34#8])++({ data:=#[125,125] }:ByteArray).data.toList=U8 ((acc5++[34#8])++[125#8,125#8]) from app_u8 _ [125#8,125#8]]
     refine ⟨(j+1,(acc5++[34#8])++[125#8,125#8]),[0],⟨⟨rfl,rfl,rfl⟩,by (repeat first|exact trivial|refine ent1 ?_)⟩,⟨hj,by rw [hnew3,hacc5]; simp⟩,by dsimp only; omega⟩
end Sx
end
section
namespace Sx
open Go.RowKit Sha Vi Js

structure JC where
 a:Option Addr
 m:Nat
 c:Nat
 b:Option Addr
 p:Nat
 q:Nat
def jvS (v:JT) (x:JC):List Seg:=[.one (.w8 v.k),.one (.w64 v.n),.one (.str (U8 v.s)),.one (.slc x.a x.m x.c),.one (.slc x.b x.p x.q)]
def jc0:JC:=⟨none,0,0,none,0,0⟩
def TAt (W:World) (ms:List Nat):Nat→JT→JC→Prop
 | 0,v,x=>v.l=[]∧x.m=0∧StAt W ms x.b x.p x.q (v.ns.map U8)
 | d+1,v,x=>(v.l.length=x.m∧x.m≤x.c∧x.m≤9223372036854775807∧(x.a=none→x.c=0)∧∀ A,x.a=some A→x.m≠0→Unm W ms A∧∀ j e,v.l[j]?=some e→∃ y,ImAt W ms (A.add (j*5)) (flat (jvS e y))∧TAt W ms d e y)∧StAt W ms x.b x.p x.q (v.ns.map U8)
theorem TAt.later {W W':World} {ms ms':List Nat} (k:Later W ms W' ms'):∀ {d:Nat} {v:JT} {x:JC},TAt W ms d v x→TAt W' ms' d v x
 | 0,v,x,⟨h1,h2,h3⟩=>⟨h1,h2,h3.later k⟩
 | d+1,v,x,⟨⟨h1,h2,h3,h4,h5⟩,h6⟩=>⟨⟨h1,h2,h3,h4,fun A hA hm=>⟨((h5 A hA hm).1).later k,fun j e he=>let ⟨y,y1,y2⟩:=(h5 A hA hm).2 j e he; ⟨y,y1.later k,TAt.later k y2⟩⟩⟩,h6.later k⟩
theorem TAt.ns {W:World} {ms:List Nat}:∀ {d:Nat} {v:JT} {x:JC},TAt W ms d v x→StAt W ms x.b x.p x.q (v.ns.map U8)
 | 0,v,x,h=>h.2.2
 | d+1,v,x,h=>h.2
theorem TAt.len {W:World} {ms:List Nat}:∀ {d:Nat} {v:JT} {x:JC},TAt W ms d v x→v.l.length=x.m
 | 0,v,x,h=>by rw [h.1,h.2.1]; rfl
 | d+1,v,x,h=>h.1.1
theorem TAt.leaf {W:World} {ms:List Nat} {v:JT} (hl:v.l=[]) (hn:v.ns=[]):∀ d,TAt W ms d v jc0
 | 0=>⟨hl,rfl,by rw [hn]; exact SlAt.nul⟩
 | d+1=>⟨⟨by rw [hl]; rfl,Nat.le_refl _,by show 0≤_; omega,fun _=>rfl,fun A hA=>by cases hA⟩,by rw [hn]; exact SlAt.nul⟩
structure RowJ (W:World) (ms:List Nat) (d:Nat) (cs:List SC) (l:List JT):Prop where
 len:cs.length=l.length*5
 raw:∀ x∈cs,x.raw=x
 elt:∀ j e,l[j]?=some e→∃ y,(∀ (i:Nat) (x:SC),(flat (jvS e y))[i]?=some x→cs[j*5+i]?=some x)∧TAt W ms d e y
theorem RowJ.later {W W':World} {ms ms':List Nat} (k:Later W ms W' ms') {d:Nat} {cs:List SC} {l:List JT} (h:RowJ W ms d cs l):RowJ W' ms' d cs l :=
 ⟨h.len,h.raw,fun j e he=>let ⟨y,y1,y2⟩:=h.elt j e he; ⟨y,y1,y2.later k⟩⟩
theorem RowJ.nil {W:World} {ms:List Nat} {d:Nat}:RowJ W ms d [] []:=⟨rfl,by simp,fun j e he=>by simp at he⟩
theorem flat_jvS (v:JT) (x:JC):flat (jvS v x)=[.w8 v.k,.w64 v.n,.str (U8 v.s),.slc x.a x.m x.c,.slc x.b x.p x.q]:=rfl
theorem RowJ.snoc {W:World} {ms:List Nat} {d:Nat} {cs:List SC} {l:List JT} (h:RowJ W ms d cs l) {v:JT} {x:JC} (k:TAt W ms d v x):RowJ W ms d (cs++flat (jvS v x)) (l++[v]):=by
 refine ⟨by rw [List.length_append,List.length_append,h.len]; show l.length*5+5=(l.length+1)*5; omega,fun y hy=>?_,fun j e he=>?_⟩
 ·rcases List.mem_append.1 hy with hy|hy
  ·exact h.raw y hy
  ·rw [flat_jvS] at hy
   simp only [List.mem_cons,List.not_mem_nil,or_false] at hy
   rcases hy with rfl|rfl|rfl|rfl|rfl <;> rfl
 ·rcases Nat.lt_or_ge j l.length with hj|hj
  ·rw [List.getElem?_append_left hj] at he
   obtain ⟨y,y1,y2⟩:=h.elt j e he
   refine ⟨y,fun i z hz=>?_,y2⟩
   have:=y1 i z hz
   rw [List.getElem?_append_left ((List.getElem?_eq_some_iff.1 this).1)]
   exact this
  ·rw [List.getElem?_append_right hj] at he
   obtain ⟨hj0,rfl⟩:j-l.length=0∧v=e:=by
    cases e0:j-l.length with
    | zero=>rw [e0] at he; simp at he; exact ⟨rfl,he⟩
    | succ n=>rw [e0] at he; simp at he
   obtain rfl:j=l.length:=by omega
   refine ⟨x,fun i z hz=>?_,k⟩
   rw [← h.len,List.getElem?_append_right (by omega),Nat.add_sub_cancel_left]
   exact hz
end Sx
end
section
namespace Sx
open Go.RowKit Sha Vi Js

theorem len1' {α:Type}:∀ {l:List α},l.length=1→∃ a,l=[a]
 | [a],_=>⟨a,rfl⟩
def psr (s:Bs) (k:Nat):List Seg:=[.one (.str (U8 s)),.one (.int .i64 (k:Int))]
set_option maxRecDepth 20000 in
theorem fn_peek (s:Bs) (k:Nat):Fn Tryd.prog tds 53 [psr s k] [.c (.p 0 0 0)] (fun _=>True) (fun y hs=>y=.a (.c (.w8 (L s k)))∧hs=[psr s k]):=by
 refine fn_of_body tds_ok follows_ Tryd.func53 rfl (t:=.a (.c (.p 0 0 0))::anys (Tryd.f53.ntmps-1)) rfl (fun w r0 hr0 _=>?_)
 obtain ⟨x0,rfl⟩:=len1' hr0
 by_cases h:k<s.length
 ·have e:decide ((((U8 s).length:Nat):Int)≤(k:Int))=false:=decide_eq_false (by rw [U8_len]; omega)
  refine ⟨none,[],[(0,true),(1,true),(2,true),(3,true),(4,true),(5,true),(6,true),(7,true),(8,true),(9,true)],[],by kernel_rfl,?_⟩
  (repeat show _∧_;first|refine yr ?_|refine yt ?_|refine yf ?_|refine ya e ?_|refine yb e ?_|refine yo ?_)
  refine ⟨none,[],[(0,true),(1,true),(2,true),(3,true),(4,true),(5,true),(6,true),(7,true),(8,true),(9,true)],[],by kernel_rfl,?_⟩
  (repeat show _∧_;first|refine yr ?_|refine yt ?_|refine yf ?_|refine ya e ?_|refine yb e ?_|refine yo ?_)
  refine And.intro ⟨by omega,by rw [U8_len]; omega⟩ ?_
  (repeat show _∧_;first|refine yr ?_|refine yt ?_|refine yf ?_|refine yo ?_)
  refine ⟨.a (.c (.w8 (L s k))),_,⟨[0],⟨rfl,rfl,rfl⟩,?_⟩,rfl,rfl⟩
  refine And.intro (U8_get s k h) ?_
  (repeat first|exact trivial|refine ent1 ?_)
 ·have e:decide ((((U8 s).length:Nat):Int)≤(k:Int))=true:=decide_eq_true (by rw [U8_len]; omega)
  refine ⟨none,[],[(0,true),(1,true),(2,true),(3,true),(4,true),(5,true),(6,true),(7,true),(8,true),(9,true)],[],by kernel_rfl,?_⟩
  (repeat show _∧_;first|refine yr ?_|refine yt ?_|refine yf ?_|refine ya e ?_|refine yb e ?_|refine yo ?_)
  refine ⟨.a (.c (.w8 (L s k))),_,⟨[0],⟨rfl,rfl,rfl⟩,?_⟩,rfl,rfl⟩
  refine And.intro (L_ge (by omega)).symm ?_
  (repeat first|exact trivial|refine ent1 ?_)
end Sx
end
section
namespace Sx
open Go.RowKit Sha Vi Js

theorem rowl {g:Nat→SC} {l:Bs} (i:Nat) (hi:i<l.length) (e:g i=nthC (l.map SC.w8) i):g i=.w8 (L l i):=e.trans (nthC_w8 l i hi)
theorem tail_u8 (m:Nat):128#8 ||| (BitVec.ofNat 8 m &&& 63#8)=b8 (128+m % 64):=by
 have key:∀ n:_root_.Fin 256,128#8 ||| (BitVec.ofNat 8 n.val &&& 63#8)=b8 (128+n.val % 64):=by decide +kernel
 have h:=key ⟨m % 256,by omega⟩
 have e:BitVec.ofNat 8 (m % 256)=BitVec.ofNat 8 m:=by
  apply BitVec.eq_of_toNat_eq
  rw [BitVec.toNat_ofNat,BitVec.toNat_ofNat]; omega
 rw [show (⟨m % 256,by omega⟩:_root_.Fin 256).val=m % 256 from rfl,e] at h
 rw [h,show m % 256 % 64=m % 64 by omega]
theorem div_i (v n:Nat):(v:Int) / 2 ^ n=((v / 2 ^ n:Nat):Int):=by push_cast; rfl
theorem of_i (v:Nat):BitVec.ofInt 8 (v:Int)=BitVec.ofNat 8 v:=BitVec.ofInt_natCast 8 v
theorem enc_two {v:Nat} (h1:128≤v) (h2:v<2048):enc v=[192#8 ||| BitVec.ofInt 8 ((v:Int) / 2 ^ 6),128#8 ||| (BitVec.ofInt 8 (v:Int) &&& 63#8)]:=by
 have k1:∀ n:_root_.Fin 32,192#8 ||| BitVec.ofNat 8 n.val=b8 (192+n.val):=by decide +kernel
 have h3:=k1 ⟨v / 2 ^ 6,by omega⟩
 rw [div_i,of_i,of_i,tail_u8,h3]
 unfold enc
 rw [if_neg (by omega),if_pos h2]
theorem enc_three {v:Nat} (h1:2048≤v) (h2:v<65536):enc v=[224#8 ||| BitVec.ofInt 8 ((v:Int) / 2 ^ 12),128#8 ||| (BitVec.ofInt 8 ((v:Int) / 2 ^ 6) &&& 63#8),128#8 ||| (BitVec.ofInt 8 (v:Int) &&& 63#8)]:=by
 have k1:∀ n:_root_.Fin 16,224#8 ||| BitVec.ofNat 8 n.val=b8 (224+n.val):=by decide +kernel
 have h3:=k1 ⟨v / 2 ^ 12,by omega⟩
 rw [div_i,div_i,of_i,of_i,of_i,tail_u8,tail_u8,h3]
 unfold enc
 rw [if_neg (by omega),if_neg (by omega),if_pos h2]
theorem enc_four {v:Nat} (h1:65536≤v) (h2:v≤1114111):enc v=[240#8 ||| BitVec.ofInt 8 ((v:Int) / 2 ^ 18),128#8 ||| (BitVec.ofInt 8 ((v:Int) / 2 ^ 12) &&& 63#8),128#8 ||| (BitVec.ofInt 8 ((v:Int) / 2 ^ 6) &&& 63#8),128#8 ||| (BitVec.ofInt 8 (v:Int) &&& 63#8)]:=by
 have k1:∀ n:_root_.Fin 8,240#8 ||| BitVec.ofNat 8 n.val=b8 (240+n.val):=by decide +kernel
 have h3:=k1 ⟨v / 2 ^ 18,by omega⟩
 rw [div_i,div_i,div_i,of_i,of_i,of_i,of_i,tail_u8,tail_u8,tail_u8,h3]
 unfold enc
 rw [if_neg (by omega),if_neg (by omega),if_neg (by omega)]
theorem enc_one' {v:Nat} (h1:v<128):enc v=[BitVec.ofInt 8 (v:Int)]:=by
 rw [of_i]; unfold enc; rw [if_pos h1]; rfl
theorem le32 {v c:Nat} (hv:v≤1114111) (hc:c<4294967296):decide (BitVec.ofInt 32 (v:Int)≤BitVec.ofNat 32 c)=decide (v≤c):=by
 refine decide_eq_decide.2 ?_
 rw [BitVec.ofInt_natCast,BitVec.le_def,BitVec.toNat_ofNat,BitVec.toNat_ofNat,Nat.mod_eq_of_lt (by omega),Nat.mod_eq_of_lt (by omega)]
theorem lt32 {v c:Nat} (hv:v≤1114111) (hc:c<4294967296):decide (BitVec.ofInt 32 (v:Int)<BitVec.ofNat 32 c)=decide (v<c):=by
 refine decide_eq_decide.2 ?_
 rw [BitVec.ofInt_natCast,BitVec.lt_def,BitVec.toNat_ofNat,BitVec.toNat_ofNat,Nat.mod_eq_of_lt (by omega),Nat.mod_eq_of_lt (by omega)]
theorem gt32 {v c:Nat} (hv:v≤1114111) (hc:c<4294967296):decide (BitVec.ofNat 32 c<BitVec.ofInt 32 (v:Int))=decide (c<v):=by
 refine decide_eq_decide.2 ?_
 rw [BitVec.ofInt_natCast,BitVec.lt_def,BitVec.toNat_ofNat,BitVec.toNat_ofNat,Nat.mod_eq_of_lt (by omega),Nat.mod_eq_of_lt (by omega)]
set_option maxRecDepth 20000 in
set_option maxHeartbeats 8000000 in
theorem fn_arunen0 {v:Nat} (hv:scal v) (hn:128≤v):Fn Tryd.prog tds 80 [] [.c (.slc none 0 0),.c (.int .i32 (v:Int))] (fun _=>True)
  (fun x hs=>∃ c',(enc v).length≤c'∧x=.a (.c (.sl 0 0 0 (enc v).length c'))∧hs=[lsC (enc v) c']):=by
 refine fn_of_body tds_ok follows_ Tryd.func80 rfl (t:=.a (.c (.slc none 0 0))::.a (.c (.int .i32 (v:Int)))::anys (Tryd.f80.ntmps-2)) rfl (fun w r0 hr _=>?_)
 obtain rfl:r0=[]:=List.eq_nil_of_length_eq_zero hr
 have hm:v≤1114111:=by unfold scal at hv; omega
 by_cases h1:v≤2047
 ·have e1:decide (BitVec.ofInt 32 (v:Int)≤2047#32)=true:=(le32 hm (by decide)).trans (decide_eq_true h1)
  have hE:=enc_two (v:=v) hn (by omega)
  have hEl:(enc v).length=2:=by rw [hE]; rfl
  (repeat show _∧_;first|refine yr ?_|refine yt ?_|refine yf ?_|refine ya e1 ?_|refine yb e1 ?_|refine yo ?_)
  intro c' hc'
  (repeat show _∧_;first|refine yr ?_|refine yt ?_|refine yf ?_|refine yo ?_)
  refine ⟨.a (.c (.sl 0 0 0 (enc v).length c')),_,⟨[1],⟨rfl,rfl,rfl⟩,?_⟩,c',by omega,rfl,rfl⟩
  (repeat first|exact trivial|refine ent1 ?_)
  refine ⟨fun j' hj'=>eqC_bytes (fun i hi=>?_) j',trivial⟩
  rw [hE] at hi ⊢
  exact new_row (fun i hi=>nthC_w8 _ i hi) i hi
 have e1:decide (BitVec.ofInt 32 (v:Int)≤2047#32)=false:=(le32 hm (by decide)).trans (decide_eq_false h1)
 by_cases h2:v<55296
 ·have e2:decide (BitVec.ofInt 32 (v:Int)<55296#32)=true:=(lt32 hm (by decide)).trans (decide_eq_true h2)
  have hE:=enc_three (v:=v) (by omega) (by omega)
  have hEl:(enc v).length=3:=by rw [hE]; rfl
  (repeat show _∧_;first|refine yr ?_|refine yt ?_|refine yf ?_|refine ya e1 ?_|refine yb e1 ?_|refine ya e2 ?_|refine yb e2 ?_|refine yo ?_)
  intro c' hc'
  (repeat show _∧_;first|refine yr ?_|refine yt ?_|refine yf ?_|refine yo ?_)
  refine ⟨.a (.c (.sl 0 0 0 (enc v).length c')),_,⟨[1],⟨rfl,rfl,rfl⟩,?_⟩,c',by omega,rfl,rfl⟩
  (repeat first|exact trivial|refine ent1 ?_)
  refine ⟨fun j' hj'=>eqC_bytes (fun i hi=>?_) j',trivial⟩
  rw [hE] at hi ⊢
  exact new_row (fun i hi=>nthC_w8 _ i hi) i hi
 have e2:decide (BitVec.ofInt 32 (v:Int)<55296#32)=false:=(lt32 hm (by decide)).trans (decide_eq_false h2)
 have h3:57343<v:=by unfold scal at hv; omega
 have e3:decide (57343#32<BitVec.ofInt 32 (v:Int))=true:=(gt32 hm (by decide)).trans (decide_eq_true h3)
 by_cases h4:v≤65535
 ·have e4:decide (BitVec.ofInt 32 (v:Int)≤65535#32)=true:=(le32 hm (by decide)).trans (decide_eq_true h4)
  have hE:=enc_three (v:=v) (by omega) (by omega)
  have hEl:(enc v).length=3:=by rw [hE]; rfl
  (repeat show _∧_;first|refine yr ?_|refine yt ?_|refine yf ?_|refine ya e1 ?_|refine yb e1 ?_|refine ya e2 ?_|refine yb e2 ?_|refine ya e3 ?_|refine yb e3 ?_|refine ya e4 ?_|refine yb e4 ?_|refine yo ?_)
  intro c' hc'
  (repeat show _∧_;first|refine yr ?_|refine yt ?_|refine yf ?_|refine yo ?_)
  refine ⟨.a (.c (.sl 0 0 0 (enc v).length c')),_,⟨[1],⟨rfl,rfl,rfl⟩,?_⟩,c',by omega,rfl,rfl⟩
  (repeat first|exact trivial|refine ent1 ?_)
  refine ⟨fun j' hj'=>eqC_bytes (fun i hi=>?_) j',trivial⟩
  rw [hE] at hi ⊢
  exact new_row (fun i hi=>nthC_w8 _ i hi) i hi
 have e4:decide (BitVec.ofInt 32 (v:Int)≤65535#32)=false:=(le32 hm (by decide)).trans (decide_eq_false h4)
 have e5:decide (65535#32<BitVec.ofInt 32 (v:Int))=true:=(gt32 hm (by decide)).trans (decide_eq_true (by omega))
 have e6:decide (BitVec.ofInt 32 (v:Int)≤1114111#32)=true:=(le32 hm (by decide)).trans (decide_eq_true hm)
 have hE:=enc_four (v:=v) (by omega) hm
 have hEl:(enc v).length=4:=by rw [hE]; rfl
 (repeat show _∧_;first|refine yr ?_|refine yt ?_|refine yf ?_|refine ya e1 ?_|refine yb e1 ?_|refine ya e2 ?_|refine yb e2 ?_|refine ya e3 ?_|refine yb e3 ?_|refine ya e4 ?_|refine yb e4 ?_|refine ya e5 ?_|refine yb e5 ?_|refine ya e6 ?_|refine yb e6 ?_|refine yo ?_)
 intro c' hc'
 (repeat show _∧_;first|refine yr ?_|refine yt ?_|refine yf ?_|refine yo ?_)
 refine ⟨.a (.c (.sl 0 0 0 (enc v).length c')),_,⟨[1],⟨rfl,rfl,rfl⟩,?_⟩,c',by omega,rfl,rfl⟩
 (repeat first|exact trivial|refine ent1 ?_)
 refine ⟨fun j' hj'=>eqC_bytes (fun i hi=>?_) j',trivial⟩
 rw [hE] at hi ⊢
 exact new_row (fun i hi=>nthC_w8 _ i hi) i hi
set_option maxRecDepth 20000 in
set_option maxHeartbeats 8000000 in
theorem fn_arunen (b:Bs) (c:Nat) (hb:b.length≤70368744177664) (hc:b.length≤c) {v:Nat} (hv:scal v) (hn:128≤v):Fn Tryd.prog tds 80 [lsC b c] [.c (.sl 0 0 0 b.length c),.c (.int .i32 (v:Int))] (fun _=>True)
  (fun x hs=>∃ c',(b++enc v).length≤c'∧x=.a (.c (.sl 1 0 0 (b++enc v).length c'))∧hs=[[],lsC (b++enc v) c']):=by
 refine fn_of_body tds_ok follows_ Tryd.func80 rfl (t:=.a (.c (.sl 0 0 0 b.length c))::.a (.c (.int .i32 (v:Int)))::anys (Tryd.f80.ntmps-2)) rfl (fun w r0 hr _=>?_)
 obtain ⟨x0,rfl⟩:=len1' hr
 have hm:v≤1114111:=by unfold scal at hv; omega
 by_cases h1:v≤2047
 ·have e1:decide (BitVec.ofInt 32 (v:Int)≤2047#32)=true:=(le32 hm (by decide)).trans (decide_eq_true h1)
  have hE:=enc_two (v:=v) hn (by omega)
  have hEl:(enc v).length=2:=by rw [hE]; rfl
  have hbl:(b++enc v).length=b.length+2:=by rw [List.length_append,hEl]
  (repeat show _∧_;first|refine yr ?_|refine yt ?_|refine yf ?_|refine ya e1 ?_|refine yb e1 ?_|refine yo ?_)
  refine And.intro ⟨by omega,by simp only [scale]; omega,by show (b.length+2)*1≤140737488355328; omega⟩ ?_
  intro c' hc'
  (repeat show _∧_;first|refine yr ?_|refine yt ?_|refine yf ?_|refine yo ?_)
  refine ⟨.a (.c (.sl 1 0 0 (b++enc v).length c')),_,⟨[0,2],⟨rfl,rfl,rfl⟩,?_⟩,c',by rw [List.length_append]; omega,rfl,rfl⟩
  (repeat first|exact trivial|refine ent1 ?_)
  refine ⟨fun j' hj'=>eqC_bytes (fun i hi=>?_) j',trivial⟩
  have hi':i<b.length+2:=by rw [List.length_append] at hi; omega
  rw [hE]
  refine app_row (l:=b) (n:=b.length) (k:=2) rfl ?_ (fun i hi=>bytesF_lt hi) (fun i hi=>?_) i hi'
  ·rfl
  ·exact rowl i (by exact hi) rfl
 have e1:decide (BitVec.ofInt 32 (v:Int)≤2047#32)=false:=(le32 hm (by decide)).trans (decide_eq_false h1)
 by_cases h2:v<55296
 ·have e2:decide (BitVec.ofInt 32 (v:Int)<55296#32)=true:=(lt32 hm (by decide)).trans (decide_eq_true h2)
  have hE:=enc_three (v:=v) (by omega) (by omega)
  have hEl:(enc v).length=3:=by rw [hE]; rfl
  have hbl:(b++enc v).length=b.length+3:=by rw [List.length_append,hEl]
  (repeat show _∧_;first|refine yr ?_|refine yt ?_|refine yf ?_|refine ya e1 ?_|refine yb e1 ?_|refine ya e2 ?_|refine yb e2 ?_|refine yo ?_)
  refine And.intro ⟨by omega,by simp only [scale]; omega,by show (b.length+3)*1≤140737488355328; omega⟩ ?_
  intro c' hc'
  (repeat show _∧_;first|refine yr ?_|refine yt ?_|refine yf ?_|refine yo ?_)
  refine ⟨.a (.c (.sl 1 0 0 (b++enc v).length c')),_,⟨[0,2],⟨rfl,rfl,rfl⟩,?_⟩,c',by rw [List.length_append]; omega,rfl,rfl⟩
  (repeat first|exact trivial|refine ent1 ?_)
  refine ⟨fun j' hj'=>eqC_bytes (fun i hi=>?_) j',trivial⟩
  have hi':i<b.length+3:=by rw [List.length_append] at hi; omega
  rw [hE]
  refine app_row (l:=b) (n:=b.length) (k:=3) rfl ?_ (fun i hi=>bytesF_lt hi) (fun i hi=>?_) i hi'
  ·rfl
  ·exact rowl i (by exact hi) rfl
 have e2:decide (BitVec.ofInt 32 (v:Int)<55296#32)=false:=(lt32 hm (by decide)).trans (decide_eq_false h2)
 have h3:57343<v:=by unfold scal at hv; omega
 have e3:decide (57343#32<BitVec.ofInt 32 (v:Int))=true:=(gt32 hm (by decide)).trans (decide_eq_true h3)
 by_cases h4:v≤65535
 ·have e4:decide (BitVec.ofInt 32 (v:Int)≤65535#32)=true:=(le32 hm (by decide)).trans (decide_eq_true h4)
  have hE:=enc_three (v:=v) (by omega) (by omega)
  have hEl:(enc v).length=3:=by rw [hE]; rfl
  have hbl:(b++enc v).length=b.length+3:=by rw [List.length_append,hEl]
  (repeat show _∧_;first|refine yr ?_|refine yt ?_|refine yf ?_|refine ya e1 ?_|refine yb e1 ?_|refine ya e2 ?_|refine yb e2 ?_|refine ya e3 ?_|refine yb e3 ?_|refine ya e4 ?_|refine yb e4 ?_|refine yo ?_)
  refine And.intro ⟨by omega,by simp only [scale]; omega,by show (b.length+3)*1≤140737488355328; omega⟩ ?_
  intro c' hc'
  (repeat show _∧_;first|refine yr ?_|refine yt ?_|refine yf ?_|refine yo ?_)
  refine ⟨.a (.c (.sl 1 0 0 (b++enc v).length c')),_,⟨[0,2],⟨rfl,rfl,rfl⟩,?_⟩,c',by rw [List.length_append]; omega,rfl,rfl⟩
  (repeat first|exact trivial|refine ent1 ?_)
  refine ⟨fun j' hj'=>eqC_bytes (fun i hi=>?_) j',trivial⟩
  have hi':i<b.length+3:=by rw [List.length_append] at hi; omega
  rw [hE]
  refine app_row (l:=b) (n:=b.length) (k:=3) rfl ?_ (fun i hi=>bytesF_lt hi) (fun i hi=>?_) i hi'
  ·rfl
  ·exact rowl i (by exact hi) rfl
 have e4:decide (BitVec.ofInt 32 (v:Int)≤65535#32)=false:=(le32 hm (by decide)).trans (decide_eq_false h4)
 have e5:decide (65535#32<BitVec.ofInt 32 (v:Int))=true:=(gt32 hm (by decide)).trans (decide_eq_true (by omega))
 have e6:decide (BitVec.ofInt 32 (v:Int)≤1114111#32)=true:=(le32 hm (by decide)).trans (decide_eq_true hm)
 have hE:=enc_four (v:=v) (by omega) hm
 have hEl:(enc v).length=4:=by rw [hE]; rfl
 have hbl:(b++enc v).length=b.length+4:=by rw [List.length_append,hEl]
 (repeat show _∧_;first|refine yr ?_|refine yt ?_|refine yf ?_|refine ya e1 ?_|refine yb e1 ?_|refine ya e2 ?_|refine yb e2 ?_|refine ya e3 ?_|refine yb e3 ?_|refine ya e4 ?_|refine yb e4 ?_|refine ya e5 ?_|refine yb e5 ?_|refine ya e6 ?_|refine yb e6 ?_|refine yo ?_)
 refine And.intro ⟨by omega,by simp only [scale]; omega,by show (b.length+4)*1≤140737488355328; omega⟩ ?_
 intro c' hc'
 (repeat show _∧_;first|refine yr ?_|refine yt ?_|refine yf ?_|refine yo ?_)
 refine ⟨.a (.c (.sl 1 0 0 (b++enc v).length c')),_,⟨[0,2],⟨rfl,rfl,rfl⟩,?_⟩,c',by rw [List.length_append]; omega,rfl,rfl⟩
 (repeat first|exact trivial|refine ent1 ?_)
 refine ⟨fun j' hj'=>eqC_bytes (fun i hi=>?_) j',trivial⟩
 have hi':i<b.length+4:=by rw [List.length_append] at hi; omega
 rw [hE]
 refine app_row (l:=b) (n:=b.length) (k:=4) rfl ?_ (fun i hi=>bytesF_lt hi) (fun i hi=>?_) i hi'
 ·rfl
 ·exact rowl i (by exact hi) rfl
set_option maxRecDepth 20000 in
set_option maxHeartbeats 8000000 in
theorem fn_arune0 {v:Nat} (hv:scal v):Fn Tryd.prog tds 70 [] [.c (.slc none 0 0),.c (.int .i32 (v:Int))] (fun _=>True)
  (fun x hs=>∃ c',(enc v).length≤c'∧x=.a (.c (.sl 0 0 0 (enc v).length c'))∧hs=[lsC (enc v) c']):=by
 refine fn_of_body tds_ok follows_ Tryd.func70 rfl (t:=.a (.c (.slc none 0 0))::.a (.c (.int .i32 (v:Int)))::anys (Tryd.f70.ntmps-2)) rfl (fun w r0 hr _=>?_)
 obtain rfl:r0=[]:=List.eq_nil_of_length_eq_zero hr
 have hm:v≤1114111:=by unfold scal at hv; omega
 by_cases h1:v≤127
 ·have e1:decide (BitVec.ofInt 32 (v:Int)≤127#32)=true:=(le32 hm (by decide)).trans (decide_eq_true h1)
  have hE:=enc_one' (v:=v) (by omega)
  have hEl:(enc v).length=1:=by rw [hE]; rfl
  (repeat show _∧_;first|refine yr ?_|refine yt ?_|refine yf ?_|refine ya e1 ?_|refine yb e1 ?_|refine yo ?_)
  intro c' hc'
  (repeat show _∧_;first|refine yr ?_|refine yt ?_|refine yf ?_|refine yo ?_)
  refine ⟨.a (.c (.sl 0 0 0 (enc v).length c')),_,⟨[1],⟨rfl,rfl,rfl⟩,?_⟩,c',by omega,rfl,rfl⟩
  (repeat first|exact trivial|refine ent1 ?_)
  refine ⟨fun j' hj'=>eqC_bytes (fun i hi=>?_) j',trivial⟩
  rw [hE] at hi ⊢
  exact new_row (fun i hi=>nthC_w8 _ i hi) i hi
 have e1:decide (BitVec.ofInt 32 (v:Int)≤127#32)=false:=(le32 hm (by decide)).trans (decide_eq_false h1)
 (repeat show _∧_;first|refine yr ?_|refine yt ?_|refine yf ?_|refine ya e1 ?_|refine yb e1 ?_|refine yo ?_)
 refine call_same (fn_arunen0 hv (by omega)) [] rfl (by (repeat first|exact trivial|refine ent1 ?_)) trivial (fun _ _=>trivial) ?_
 rintro x hs' ⟨c',g1,rfl,rfl⟩
 refine ⟨.a (.c (.sl 0 0 0 (enc v).length c')),_,⟨[0],⟨rfl,rfl,rfl⟩,?_⟩,c',g1,rfl,rfl⟩
 (repeat first|exact trivial|refine ent1 ?_)
set_option maxRecDepth 20000 in
set_option maxHeartbeats 8000000 in
theorem fn_arune (b:Bs) (c:Nat) (hb:b.length≤70368744177664) (hc:b.length≤c) {v:Nat} (hv:scal v):Fn Tryd.prog tds 70 [lsC b c] [.c (.sl 0 0 0 b.length c),.c (.int .i32 (v:Int))] (fun _=>True)
  (fun x hs=>∃ c',(b++enc v).length≤c'∧x=.a (.c (.sl 1 0 0 (b++enc v).length c'))∧hs=[[],lsC (b++enc v) c']):=by
 refine fn_of_body tds_ok follows_ Tryd.func70 rfl (t:=.a (.c (.sl 0 0 0 b.length c))::.a (.c (.int .i32 (v:Int)))::anys (Tryd.f70.ntmps-2)) rfl (fun w r0 hr _=>?_)
 obtain ⟨x0,rfl⟩:=len1' hr
 have hm:v≤1114111:=by unfold scal at hv; omega
 by_cases h1:v≤127
 ·have e1:decide (BitVec.ofInt 32 (v:Int)≤127#32)=true:=(le32 hm (by decide)).trans (decide_eq_true h1)
  have hE:=enc_one' (v:=v) (by omega)
  have hEl:(enc v).length=1:=by rw [hE]; rfl
  have hbl:(b++enc v).length=b.length+1:=by rw [List.length_append,hEl]
  (repeat show _∧_;first|refine yr ?_|refine yt ?_|refine yf ?_|refine ya e1 ?_|refine yb e1 ?_|refine yo ?_)
  refine And.intro ⟨by omega,by simp only [scale]; omega,by show (b.length+1)*1≤140737488355328; omega⟩ ?_
  intro c' hc'
  (repeat show _∧_;first|refine yr ?_|refine yt ?_|refine yf ?_|refine yo ?_)
  refine ⟨.a (.c (.sl 1 0 0 (b++enc v).length c')),_,⟨[0,2],⟨rfl,rfl,rfl⟩,?_⟩,c',by rw [List.length_append]; omega,rfl,rfl⟩
  (repeat first|exact trivial|refine ent1 ?_)
  refine ⟨fun j' hj'=>eqC_bytes (fun i hi=>?_) j',trivial⟩
  have hi':i<b.length+1:=by rw [List.length_append] at hi; omega
  rw [hE]
  refine app_row (l:=b) (n:=b.length) (k:=1) rfl ?_ (fun i hi=>bytesF_lt hi) (fun i hi=>?_) i hi'
  ·rfl
  ·exact rowl i (by exact hi) rfl
 have e1:decide (BitVec.ofInt 32 (v:Int)≤127#32)=false:=(le32 hm (by decide)).trans (decide_eq_false h1)
 (repeat show _∧_;first|refine yr ?_|refine yt ?_|refine yf ?_|refine ya e1 ?_|refine yb e1 ?_|refine yo ?_)
 refine call_same (fn_arunen b c hb hc hv (by omega)) [0] rfl (by (repeat first|exact trivial|refine ent1 ?_)) (by (repeat first|exact trivial|refine ent1 ?_)) (fun _ _=>trivial) ?_
 rintro x hs' ⟨c',g1,rfl,rfl⟩
 refine ⟨.a (.c (.sl 1 0 0 (b++enc v).length c')),_,⟨[0,1],⟨rfl,rfl,rfl⟩,?_⟩,c',g1,rfl,rfl⟩
 (repeat first|exact trivial|refine ent1 ?_)
end Sx
end
end Go.Proofs.YtnehmcpkeamghaaDoor
section
namespace Go.Proofs.YtnehmcpkeamghaaDoor
set_option linter.unusedVariables false
def p10n:String:=(Rows.jsonAnyRow.named)[2]!
end Go.Proofs.YtnehmcpkeamghaaDoor
namespace Go.Proofs
open Go.Shelf
def Tryd.lays137_ren:Go.Shelf.Ren:=⟨fun|137=>59|217=>74|266=>82|n=>n,fun|9=>9|5=>5|3=>3|n=>n,fun|n=>n⟩
theorem Tryd.lays137:Go.Proofs.Lays.n137 Tryd.prog Tryd.lays137_ren:={
 mixed:=by kernel_rfl
 f137:=Tryd.func59.trans (congrArg some (by kernel_rfl))
 f217:=Tryd.func74.trans (congrArg some (by kernel_rfl))
 f266:=Tryd.func82.trans (congrArg some (by kernel_rfl))
 t3:=Tryd.underlying3
 a3:=Tryd.isAgg3
 z3:=Tryd.sizeOf3
 v3:=Tryd.zeroValue3
 t5:=Tryd.underlying5
 a5:=Tryd.isAgg5
 z5:=Tryd.sizeOf5
 v5:=Tryd.zeroValue5
 t9:=Tryd.underlying9
 a9:=Tryd.isAgg9
 z9:=Tryd.sizeOf9
 v9:=Tryd.zeroValue9 }
open Go.RowKit in
theorem Tryd.strings_IndexByte (s:ByteArray) (c:Int) (w:World) :
  Calls Tryd.prog 59 #[.string s,.int .u8 c] w fun e w'=>e=.returned (.int .i64 (Lib.indexByte s.data.toList c.toNat.toUInt8))∧w'=w:=Any.strings_IndexByte Tryd.lays137 s c w
def Tryd.lays283_ren:Go.Shelf.Ren:=⟨fun|283=>83|n=>n,fun|3=>3|9=>9|4=>4|n=>n,fun|n=>n⟩
theorem Tryd.lays283:Go.Proofs.Lays.n283 Tryd.prog Tryd.lays283_ren:={
 mixed:=by kernel_rfl
 f283:=Tryd.func83.trans (congrArg some (by kernel_rfl))
 t3:=Tryd.underlying3
 a3:=Tryd.isAgg3
 z3:=Tryd.sizeOf3
 v3:=Tryd.zeroValue3
 t4:=Tryd.underlying4
 a4:=Tryd.isAgg4
 z4:=Tryd.sizeOf4
 v4:=Tryd.zeroValue4
 t9:=Tryd.underlying9
 a9:=Tryd.isAgg9
 z9:=Tryd.sizeOf9
 v9:=Tryd.zeroValue9 }
open Go.Lib in
theorem Tryd.internal_strconv_small (i:Nat) (h:i<100) (w:World) :
  Calls Tryd.prog 83 #[.int .i64 i] w fun e w'=>e=.returned (.string ⟨(Lib.decDigits i).toArray⟩)∧w'=w:=Any.internal_strconv_small Tryd.lays283 i h w
def Tryd.laysM284_ren:Go.Shelf.Ren:=⟨fun|284=>84|129=>89|317=>88|318=>90|n=>n,fun|53=>23|3=>3|212=>156|0=>0|4=>4|46=>108|5=>5|9=>9|n=>n,fun|17=>3|n=>n⟩
theorem Tryd.laysM284:Go.Proofs.LaysM.n284 Tryd.prog Tryd.laysM284_ren:={
 mixed:=by kernel_rfl
 f129:=Tryd.func89.trans (congrArg some (by kernel_rfl))
 f284:=Tryd.func84.trans (congrArg some (by kernel_rfl))
 f317:=Tryd.func88.trans (congrArg some (by kernel_rfl))
 f318:=Tryd.func90.trans (congrArg some (by kernel_rfl))
 t0:=Tryd.underlying0
 a0:=Tryd.isAgg0
 z0:=Tryd.sizeOf0
 v0:=Tryd.zeroValue0
 t3:=Tryd.underlying3
 a3:=Tryd.isAgg3
 z3:=Tryd.sizeOf3
 v3:=Tryd.zeroValue3
 t4:=Tryd.underlying4
 a4:=Tryd.isAgg4
 z4:=Tryd.sizeOf4
 v4:=Tryd.zeroValue4
 t5:=Tryd.underlying5
 a5:=Tryd.isAgg5
 z5:=Tryd.sizeOf5
 v5:=Tryd.zeroValue5
 t9:=Tryd.underlying9
 a9:=Tryd.isAgg9
 z9:=Tryd.sizeOf9
 v9:=Tryd.zeroValue9
 t46:=Tryd.underlying108
 a46:=Tryd.isAgg108
 z46:=Tryd.sizeOf108
 v46:=Tryd.zeroValue108
 t53:=Tryd.underlying23
 a53:=Tryd.isAgg23
 z53:=Tryd.sizeOf23
 v53:=Tryd.zeroValue23
 t212:=Tryd.underlying156
 a212:=Tryd.isAgg156
 z212:=Tryd.sizeOf156
 v212:=Tryd.zeroValue156
 g17:=by kernel_rfl
 i0:=by kernel_rfl
 i3:=by kernel_rfl
 i4:=by kernel_rfl
 i5:=by kernel_rfl
 i9:=by kernel_rfl
 i46:=by kernel_rfl
 i53:=by kernel_rfl
 i212:=by kernel_rfl
 m17:=by kernel_rfl }
open Go.Lib in
theorem Tryd.internal_strconv_numDigits (u:Nat) (h1:1≤u) (h2:u<18446744073709551616) (w:World) (htab:Lib.TabIs Tryd.prog w YtnehmcpkeamghaaDoor.p10n .u64 Lib.pow10Tab) :
  Calls Tryd.prog 84 #[.int .u64 u] w fun e w'=>e=.returned (.int .i64 (Lib.nDigits u))∧w'=w:=Any.internal_strconv_numDigits Tryd.laysM284 u h1 h2 w htab
def Tryd.lays197_ren:Go.Shelf.Ren:=⟨fun|197=>71|260=>81|n=>n,fun|9=>9|21=>21|3=>3|4=>4|5=>5|105=>134|119=>140|0=>0|46=>108|139=>143|138=>142|n=>n,fun|3=>0|4=>1|n=>n⟩
theorem Tryd.lays197:Go.Proofs.Lays.n197 Tryd.prog Tryd.lays197_ren:={
 mixed:=by kernel_rfl
 f197:=Tryd.func71.trans (congrArg some (by kernel_rfl))
 f260:=Tryd.func81.trans (congrArg some (by kernel_rfl))
 t0:=Tryd.underlying0
 a0:=Tryd.isAgg0
 z0:=Tryd.sizeOf0
 v0:=Tryd.zeroValue0
 t3:=Tryd.underlying3
 a3:=Tryd.isAgg3
 z3:=Tryd.sizeOf3
 v3:=Tryd.zeroValue3
 t4:=Tryd.underlying4
 a4:=Tryd.isAgg4
 z4:=Tryd.sizeOf4
 v4:=Tryd.zeroValue4
 t5:=Tryd.underlying5
 a5:=Tryd.isAgg5
 z5:=Tryd.sizeOf5
 v5:=Tryd.zeroValue5
 t9:=Tryd.underlying9
 a9:=Tryd.isAgg9
 z9:=Tryd.sizeOf9
 v9:=Tryd.zeroValue9
 t21:=Tryd.underlying21
 a21:=Tryd.isAgg21
 z21:=Tryd.sizeOf21
 v21:=Tryd.zeroValue21
 t46:=Tryd.underlying108
 a46:=Tryd.isAgg108
 z46:=Tryd.sizeOf108
 v46:=Tryd.zeroValue108
 t105:=Tryd.underlying134
 a105:=Tryd.isAgg134
 z105:=Tryd.sizeOf134
 v105:=Tryd.zeroValue134
 t119:=Tryd.underlying140
 a119:=Tryd.isAgg140
 z119:=Tryd.sizeOf140
 t138:=Tryd.underlying142
 a138:=Tryd.isAgg142
 z138:=Tryd.sizeOf142
 v138:=Tryd.zeroValue142
 t139:=Tryd.underlying143
 a139:=Tryd.isAgg143
 z139:=Tryd.sizeOf143
 v139:=Tryd.zeroValue143
 g3:=by kernel_rfl
 g4:=by kernel_rfl }
open Go.RowKit Go.Lib in
theorem Tryd.utf8_DecodeRuneInString (s:ByteArray) (w:World) (hT:Lib.Utf8Tabs 0 1 w) :
  Calls Tryd.prog 71 #[.string s] w fun e w'=>e=.returned (.tuple #[.int .i32 (Lib.decodeGo s).1,.int .i64 (Lib.decodeGo s).2])∧Below w.heap.size w w':=Any.utf8_DecodeRuneInString Tryd.lays197 s w hT
def Tryd.lays196_ren:Go.Shelf.Ren:=⟨fun|196=>65|259=>77|n=>n,fun|9=>9|4=>4|3=>3|5=>5|12=>12|119=>140|0=>0|46=>108|139=>143|138=>142|53=>23|n=>n,fun|3=>0|4=>1|n=>n⟩
theorem Tryd.lays196:Go.Proofs.Lays.n196 Tryd.prog Tryd.lays196_ren:={
 mixed:=by kernel_rfl
 f196:=Tryd.func65.trans (congrArg some (by kernel_rfl))
 f259:=Tryd.func77.trans (congrArg some (by kernel_rfl))
 t0:=Tryd.underlying0
 a0:=Tryd.isAgg0
 z0:=Tryd.sizeOf0
 v0:=Tryd.zeroValue0
 t3:=Tryd.underlying3
 a3:=Tryd.isAgg3
 z3:=Tryd.sizeOf3
 v3:=Tryd.zeroValue3
 t4:=Tryd.underlying4
 a4:=Tryd.isAgg4
 z4:=Tryd.sizeOf4
 v4:=Tryd.zeroValue4
 t5:=Tryd.underlying5
 a5:=Tryd.isAgg5
 z5:=Tryd.sizeOf5
 v5:=Tryd.zeroValue5
 t9:=Tryd.underlying9
 a9:=Tryd.isAgg9
 z9:=Tryd.sizeOf9
 v9:=Tryd.zeroValue9
 t12:=Tryd.underlying12
 a12:=Tryd.isAgg12
 z12:=Tryd.sizeOf12
 v12:=Tryd.zeroValue12
 t46:=Tryd.underlying108
 a46:=Tryd.isAgg108
 z46:=Tryd.sizeOf108
 v46:=Tryd.zeroValue108
 t53:=Tryd.underlying23
 a53:=Tryd.isAgg23
 z53:=Tryd.sizeOf23
 v53:=Tryd.zeroValue23
 t119:=Tryd.underlying140
 a119:=Tryd.isAgg140
 z119:=Tryd.sizeOf140
 t138:=Tryd.underlying142
 a138:=Tryd.isAgg142
 z138:=Tryd.sizeOf142
 v138:=Tryd.zeroValue142
 t139:=Tryd.underlying143
 a139:=Tryd.isAgg143
 z139:=Tryd.sizeOf143
 v139:=Tryd.zeroValue143
 g3:=by kernel_rfl
 g4:=by kernel_rfl }
open Go.RowKit Go.Lib in
theorem Tryd.utf8_ValidString (s:ByteArray) (w:World) (hs:s.size≤9223372036854775807) (hT:Lib.Utf8Tabs 0 1 w) :
  Calls Tryd.prog 65 #[.string s] w fun e w'=>e=.returned (.bool (Lib.validD s.data.toList))∧Below w.heap.size w w':=Any.utf8_ValidString Tryd.lays196 s w hs hT
end Go.Proofs
end
namespace Go.Proofs.YtnehmcpkeamghaaDoor
set_option linter.unusedVariables false
section
namespace Sx
open Go.RowKit Sha Vi Js

theorem FnR.ofCalls {P:Program} {T:List (Nat × TD)} {f:FuncId} {n:Nat} {h0:List (List Seg)} {args:List SA} {raw:World→Prop} {Res:SV→List (List Seg)→Prop}
  (h:∀ (w:World) (r0:Rho) (vs:List Value),HeapOk (cx0 P T w r0 n h0) h0 r0 w→IsAs r0 args vs→raw w→Calls P f vs.toArray w fun e w'=>∃ v x,e=.returned v∧SV.Is r0 x v∧Below w.heap.size w w'∧Res x h0):FnR P T f n h0 args raw Res:=fun w r0 vs ok ha hr=>(h w r0 vs ok ha hr).mono (by
 rintro e w' ⟨v,x,rfl,hx,hb,hres⟩
 exact ⟨v,x,h0,r0,rfl,hx,ok.ext0 ⟨hb.os,hb.tape,hb.output,hb.size,fun k hk _=>hb.block k hk⟩,hres⟩)
theorem IsAs.one {r:Rho} {x:SA} {vs:List Value} (h:IsAs r [x] vs):∃ v,vs=[v]∧x.Is r v:=by
 obtain ⟨hl,h⟩:=h
 obtain ⟨v,e,hv⟩:=h 0 x rfl
 match vs,hl,e with
 | [u],_,e=>injection e with e; subst e; exact ⟨_,rfl,hv⟩
theorem IsAs.two {r:Rho} {x y:SA} {vs:List Value} (h:IsAs r [x,y] vs):∃ v u,vs=[v,u]∧x.Is r v∧y.Is r u:=by
 obtain ⟨hl,h⟩:=h
 obtain ⟨v,e,hv⟩:=h 0 x rfl
 obtain ⟨u,e2,hu⟩:=h 1 y rfl
 match vs,hl,e,e2 with
 | [a,b],_,e,e2=>injection e with e; injection e2 with e2; subst e; subst e2; exact ⟨_,_,rfl,hv,hu⟩
structure Tabs (W:World) (ms:List Nat):Prop where
 u8:Lib.Utf8Tabs 0 1 W
 p10:Lib.TabIs Tryd.prog W p10n .u64 Lib.pow10Tab
 lt:6≤W.heap.size
 nin:∀ B,B<6→B ∉ ms
theorem p10_glob:Tryd.prog.globalNamed p10n=some 3:=by kernel_rfl
theorem Tabs.ext {W w:World} {ms:List Nat} (h:Tabs W ms) (k:Ext ms W w):Lib.Utf8Tabs 0 1 w∧Lib.TabIs Tryd.prog w p10n .u64 Lib.pow10Tab:=by
 have hb:∀ B,B<6→w.heap[B]?=W.heap[B]?:=fun B hB=>k.block B (Nat.lt_of_lt_of_le hB h.lt) (h.nin B hB)
 refine ⟨⟨fun c hc=>(World.cell?_of_block (hb 0 (by decide))).trans (h.u8.1 c hc),fun i hi=>⟨(World.cell?_of_block (hb 1 (by decide))).trans (h.u8.2 i hi).1,(World.cell?_of_block (hb 1 (by decide))).trans (h.u8.2 i hi).2⟩⟩,?_⟩
 have:=h.p10
 unfold Lib.TabIs World.var? at this ⊢
 rw [p10_glob] at this ⊢
 simp only [Option.bind_some] at this ⊢
 rw [hb 3 (by decide)]
 exact this
theorem Tabs.later {W W':World} {ms ms':List Nat} (h:Tabs W ms) (k:Later W ms W' ms'):Tabs W' ms' :=
 ⟨(h.ext k.1).1,(h.ext k.1).2,Nat.le_trans h.lt k.1.size,fun B hB=>k.2 B (Nat.lt_of_lt_of_le hB h.lt) (h.nin B hB)⟩
theorem past_ext {P:Program} {T:List (Nat × TD)} {w:World} {r0:Rho} {n:Nat} {h0:List (List Seg)} {W:World} {ms:List Nat} (ok:HeapOk (cx0 P T w r0 n h0) h0 r0 w) {i:Nat} (h:h0[i]?=some [.past W ms]):Ext ms W w:=(ok.past i W ms h).1
theorem fn_idxByte (l:List UInt8) (c:BitVec 8):Fn Tryd.prog tds 59 [] [.c (.str l),.c (.w8 c)] (fun _=>True) (fun y hs=>y=.a (.c (.int .i64 (Lib.indexByte l (UInt8.ofBitVec c))))∧hs=[]) :=
 FnR.ofCalls fun w r0 vs ok ha _=>by
  obtain ⟨v,u,rfl,hv,hu⟩:=ha.two
  obtain rfl:v=.string ⟨l.toArray⟩:=hv
  obtain rfl:u=.int .u8 (c.toNat:Int):=hu
  refine (Tryd.strings_IndexByte ⟨l.toArray⟩ (c.toNat:Int) w).mono ?_
  rintro e w' ⟨rfl,rfl⟩
  refine ⟨_,.a (.c (.int .i64 (Lib.indexByte l (UInt8.ofBitVec c)))),rfl,?_,Below.refl _ _,rfl,rfl⟩
  have e8:((c.toNat:Nat):Int).toNat.toUInt8=UInt8.ofBitVec c:=by
   rw [Int.toNat_natCast]
   show (⟨BitVec.ofNat 8 c.toNat⟩:UInt8)=⟨c⟩
   simp
  show _=Value.int .i64 _
  rw [e8]
theorem decodeGo_U8 {s:Bs} (h:s≠[]):Lib.decodeGo ⟨(U8 s).toArray⟩=dec s:=by
 unfold Lib.decodeGo
 rw [if_neg (by rw [size_U8]; exact fun e=>h (List.eq_nil_of_length_eq_zero e)),decode_U8,List.drop_zero]
theorem fn_decode {W:World} {ms:List Nat} (hT:Tabs W ms) {s:Bs} (hs:s≠[]):FnR Tryd.prog tds 71 1 [[.past W ms]] [.c (.str (U8 s))] (fun _=>True) (fun y hs=>y=.tup [.c (.int .i32 ((dec s).1:Int)),.c (.int .i64 ((dec s).2:Int))]∧hs=[[.past W ms]]) :=
 FnR.ofCalls fun w r0 vs ok ha _=>by
  obtain ⟨v,rfl,hv⟩:=ha.one
  obtain rfl:v=.string ⟨(U8 s).toArray⟩:=hv
  refine (Tryd.utf8_DecodeRuneInString ⟨(U8 s).toArray⟩ w (hT.ext (past_ext ok (i:=0) rfl)).1).mono ?_
  rintro e w' ⟨rfl,hb⟩
  rw [decodeGo_U8 hs]
  exact ⟨_,.tup [.c (.int .i32 ((dec s).1:Int)),.c (.int .i64 ((dec s).2:Int))],rfl,⟨[.int .i32 ((dec s).1:Int),.int .i64 ((dec s).2:Int)],rfl,rfl,fun j x e=>by
   match j,e with
   | 0,e=>cases e; exact ⟨_,rfl,rfl⟩
   | 1,e=>cases e; exact ⟨_,rfl,rfl⟩⟩,hb,rfl,rfl⟩
theorem fn_valid {W:World} {ms:List Nat} (hT:Tabs W ms) {s:Bs} (hs:Utf s) (hl:s.length≤9223372036854775807):FnR Tryd.prog tds 65 1 [[.past W ms]] [.c (.str (U8 s))] (fun _=>True) (fun y hs=>y=.a (.c (.bool true))∧hs=[[.past W ms]]) :=
 FnR.ofCalls fun w r0 vs ok ha _=>by
  obtain ⟨v,rfl,hv⟩:=ha.one
  obtain rfl:v=.string ⟨(U8 s).toArray⟩:=hv
  refine (Tryd.utf8_ValidString ⟨(U8 s).toArray⟩ w (by rw [size_U8]; exact hl) (hT.ext (past_ext ok (i:=0) rfl)).1).mono ?_
  rintro e w' ⟨rfl,hb⟩
  refine ⟨_,.a (.c (.bool true)),rfl,?_,hb,rfl,rfl⟩
  show Value.bool _=.bool true
  congr 1
  exact valid_U8 hs
theorem fn_numDigits {W:World} {ms:List Nat} (hT:Tabs W ms) (u:BitVec 64) (hu:1≤u.toNat):FnR Tryd.prog tds 84 1 [[.past W ms]] [.c (.w64 u)] (fun _=>True) (fun y hs=>y=.a (.c (.int .i64 (Lib.nDigits u.toNat:Int)))∧hs=[[.past W ms]]) :=
 FnR.ofCalls fun w r0 vs ok ha _=>by
  obtain ⟨v,rfl,hv⟩:=ha.one
  obtain rfl:v=.int .u64 (u.toNat:Int):=hv
  refine (Tryd.internal_strconv_numDigits u.toNat hu u.isLt w (hT.ext (past_ext ok (i:=0) rfl)).2).mono ?_
  rintro e w' ⟨rfl,rfl⟩
  exact ⟨_,.a (.c (.int .i64 (Lib.nDigits u.toNat:Int))),rfl,rfl,Below.refl _ _,rfl,rfl⟩
end Sx
end
end Go.Proofs.YtnehmcpkeamghaaDoor
section
namespace Go.Proofs
open Go.Shelf
def Tryd.lays285_ren:Go.Shelf.Ren:=⟨fun|285=>85|n=>n,fun|37=>25|51=>147|53=>23|0=>0|3=>3|4=>4|5=>5|9=>9|n=>n,fun|n=>n⟩
theorem Tryd.lays285:Go.Proofs.Lays.n285 Tryd.prog Tryd.lays285_ren:={
 mixed:=by kernel_rfl
 f285:=Tryd.func85.trans (congrArg some (by kernel_rfl))
 t0:=Tryd.underlying0
 a0:=Tryd.isAgg0
 z0:=Tryd.sizeOf0
 v0:=Tryd.zeroValue0
 t3:=Tryd.underlying3
 a3:=Tryd.isAgg3
 z3:=Tryd.sizeOf3
 v3:=Tryd.zeroValue3
 t4:=Tryd.underlying4
 a4:=Tryd.isAgg4
 z4:=Tryd.sizeOf4
 v4:=Tryd.zeroValue4
 t5:=Tryd.underlying5
 a5:=Tryd.isAgg5
 z5:=Tryd.sizeOf5
 v5:=Tryd.zeroValue5
 t9:=Tryd.underlying9
 a9:=Tryd.isAgg9
 z9:=Tryd.sizeOf9
 v9:=Tryd.zeroValue9
 t37:=Tryd.underlying25
 a37:=Tryd.isAgg25
 z37:=Tryd.sizeOf25
 v37:=Tryd.zeroValue25
 t51:=Tryd.underlying147
 a51:=Tryd.isAgg147
 z51:=Tryd.sizeOf147
 v51:=Tryd.zeroValue147
 t53:=Tryd.underlying23
 a53:=Tryd.isAgg23
 z53:=Tryd.sizeOf23
 v53:=Tryd.zeroValue23 }
open Go.Shelf Go.RowKit Go.Sort Go.Lib in
theorem Tryd.internal_strconv_formatBase10 (blk off cap:Nat) (u:Nat) (d:Array UInt8) (w:World) (hH:Holds (fun (b:UInt8)=>Value.int .u8 (b.toNat:Int)) w blk off d) (hu:u<10 ^ d.size) (hu64:u<18446744073709551616) (hsz:d.size<4611686018427387904) :
  Calls Tryd.prog 85 #[.slice (some ⟨blk,off,none⟩) d.size cap,.int .u64 u] w fun e w' =>
   e=.returned (.tuple #[])∧∃ (n v':Nat) (dk:Array UInt8),w'=(putRow (fun (b:UInt8)=>Value.int .u8 (b.toNat:Int)) w blk off dk).drewN n∧FmtInv d.size u 0 v' dk :=
 Any.internal_strconv_formatBase10 Tryd.lays285 blk off cap u d w hH hu hu64 hsz
end Go.Proofs
end
namespace Go.Proofs.YtnehmcpkeamghaaDoor
set_option linter.unusedVariables false
section
namespace Sx
open Go.RowKit Sha Vi Js

def setL (c:Array Value) (o:Nat):List Value→Array Value
 | []=>c
 | v::vs=>setL (c.setIfInBounds o v) (o+1) vs
theorem setCells_map (B:Nat):∀ (vs:List Value) (o:Nat) (w:World),w.setCells B o vs=Go.Sort.mapBlock w B (fun c=>setL c o vs)
 | [],o,w=>(Go.Sort.mapBlock_id w B _ fun c e fr h=>rfl).symm
 | v::vs,o,w=>by
  rw [World.setCells,setCells_map B vs (o+1),Go.Sort.setCell_eq,Go.Sort.mapBlock_mapBlock]
  rfl
theorem setL_at:∀ (vs:List Value) (o:Nat) (c:Array Value) (k:Nat),(setL c o vs)[k]?=if o≤k∧k<o+vs.length then (c[k]?).bind fun _=>vs[k-o]? else c[k]?
 | [],o,c,k=>by rw [if_neg (by simp <;> omega)]; rfl
 | v::vs,o,c,k=>by
  rw [setL,setL_at vs (o+1)]
  by_cases h1:o=k
  ·subst h1
   rw [if_neg (by omega),if_pos ⟨Nat.le_refl _,by simp⟩]
   simp only [Array.getElem?_setIfInBounds,if_true,Nat.sub_self,List.getElem?_cons_zero]
   by_cases hc:o<c.size
   ·rw [if_pos hc,Array.getElem?_eq_getElem hc]; rfl
   ·rw [if_neg hc,Array.getElem?_eq_none (by omega)]; rfl
  ·have e:(c.setIfInBounds o v)[k]?=c[k]?:=by rw [Array.getElem?_setIfInBounds,if_neg h1]
   rw [e]
   by_cases h2:o+1≤k∧k<o+1+vs.length
   ·rw [if_pos h2,if_pos ⟨by omega,by simp; omega⟩,show k-o=(k-(o+1))+1 by omega]
    rfl
   ·rw [if_neg h2,if_neg (by simp; omega)]
theorem putRow_cells (w:World) (B o:Nat) (d:Array UInt8):Go.Sort.putRow (fun (b:UInt8)=>Value.int .u8 (b.toNat:Int)) w B o d=w.setCells B o (d.toList.map fun b=>Value.int .u8 (b.toNat:Int)):=by
 rw [setCells_map]
 refine Go.Sort.mapBlock_congr _ _ _ _ fun c e fr _=>?_
 apply Array.ext_getElem?
 intro k
 rw [setL_at]
 simp only [Go.Sort.putCells,Array.getElem?_mapIdx,List.length_map,Array.length_toList]
 by_cases h:o≤k∧k<o+d.size
 ·rw [if_pos h]
  cases c[k]? with
  | none=>rfl
  | some x =>
   simp only [Option.map_some,Option.bind_some]
   rw [if_pos h,List.getElem?_map,Array.getElem?_toList,Array.getElem?_eq_getElem (show k-o<d.size by omega),Option.map_some,getElem!_pos d (k-o) (by omega)]
 ·rw [if_neg h]
  cases c[k]? with
  | none=>rfl
  | some x=>rw [Option.map_some,if_neg h]
theorem HeapOk.drewN {C:Cx} {h:List (List Seg)} {r:Rho} {w:World} (ok:HeapOk C h r w) (n:Nat):HeapOk C h r (w.drewN n) :=
 ok.ext0 ⟨rfl,rfl,rfl,Nat.le_refl _,fun _ _ _=>rfl⟩
def fmtF (n u:Nat) (d:Nat→SC) (i:Nat):SC:=if i<n then .w8 (b8 (48+u / 10 ^ (n-1-i) % 10)) else d i
theorem dg_b8 (u j:Nat):((Lib.dg u j).toNat:Int)=((b8 (48+u / 10 ^ j % 10)).toNat:Int):=by
 unfold Lib.dg b8
 simp
theorem fn_fmt {n N:Nat} {u:BitVec 64} (hu:u.toNat<10 ^ n) (hn:n≤N) (hn2:n<4611686018427387904) (d:Nat→SC) (hd:∀ i,i<n→∃ x,d i=.w8 x) :
  Fn Tryd.prog tds 85 [[.row N d]] [.c (.sl 0 0 0 n N),.c (.w64 u)] (fun _=>True) (fun y hs=>y=.tup []∧hs=[[.row N (fmtF n u.toNat d)]]):=fun w r0 vs ok ha _=>by
 obtain ⟨v1,v2,rfl,h1,h2⟩:=ha.two
 obtain ⟨B,f,hr,rfl⟩:=h1
 obtain rfl:v2=.int .u64 (u.toNat:Int):=h2
 rw [show f+(0+0)=f by omega]
 have hA:=ok.chunks 0 _ B f rfl hr
 have hcell:∀ j,j<n→∃ x:BitVec 8,d j=.w8 x∧w.cell? ⟨B,f+j,none⟩=some (.int .u8 (x.toNat:Int))∧w.frozen? ⟨B,f+j,none⟩=false:=fun j hj=>by
  obtain ⟨x,hx⟩:=hd j hj
  obtain ⟨v,e1,e2,e3⟩:=hA j (d j) (flat_row_lt N d [] (by omega))
  rw [hx] at e2
  obtain rfl:v=.int .u8 (x.toNat:Int):=e2
  exact ⟨x,hx,e1,(e3 rfl).fr e1⟩
 have hdd:∃ dd:Array UInt8,dd.size=n∧Go.Sort.Holds (fun (b:UInt8)=>Value.int .u8 (b.toNat:Int)) w B f dd:=by
  refine ⟨Array.ofFn fun i:_root_.Fin n=>UInt8.ofBitVec (match d i.val with|.w8 x=>x|_=>0),by simp,fun j hj=>?_⟩
  rw [Array.size_ofFn] at hj
  obtain ⟨x,hx,e1,e2⟩:=hcell j hj
  refine ⟨?_,e2⟩
  rw [e1,getElem!_pos _ j (by simpa using hj),Array.getElem_ofFn]
  simp only [hx]
  rfl
 obtain ⟨dd,hds,hH⟩:=hdd
 have hc:=Tryd.internal_strconv_formatBase10 B f N u.toNat dd w hH (by rw [hds]; exact hu) u.isLt (by rw [hds]; exact hn2)
 rw [hds] at hc
 refine hc.mono ?_
 rintro e w' ⟨rfl,k,v',dk,rfl,hF⟩
 rw [putRow_cells]
 have hput:=ok.put (i:=0) (B:=B) (f:=f) hr (ch:=[.row N d]) (l':=[.row N (fmtF n u.toNat d)]) (new:=[.row n (fmtF n u.toNat d)]) (at_:=0) rfl (by simp) ?_ (vs:=dk.toList.map fun b=>Value.int .u8 (b.toNat:Int)) ?_ (Nat.le_refl _) rfl
 ·exact ⟨_,.tup [],_,r0,rfl,⟨[],rfl,rfl,fun j x e=>by cases e⟩,hput.drewN k,rfl,rfl⟩
 ·refine ⟨by rw [flat_len_row,flat_len_row]; simp [flat]; omega,by rw [flat_len_row,flat_len_row],fun j=>?_⟩
  rw [flat_len_row]
  by_cases hj:0≤j∧j<0+(n+(flat []).length)
  ·have hj':j<n:=by simp [flat] at hj; omega
   rw [if_pos hj,flat_row_lt _ _ _ (by omega),flat_row_lt _ _ _ (by omega)]
   rfl
  ·have hj':n≤j:=by simp [flat] at hj; omega
   rw [if_neg hj]
   by_cases hN:j<N
   ·rw [flat_row_lt _ _ _ hN,flat_row_lt _ _ _ hN]
    unfold fmtF
    rw [if_neg (by omega)]
   ·rw [flat_row_ge _ _ _ (by omega),flat_row_ge _ _ _ (by omega)]
 ·have hsz:dk.size=n:=hF.size
  refine ⟨by rw [flat_len_row]; simp [flat,hsz],fun j x e=>?_⟩
  have hj:j<n:=by
   rcases Nat.lt_or_ge j n with h|h
   ·exact h
   ·rw [flat_row_ge _ _ _ h] at e; cases e
  rw [flat_row_lt _ _ _ hj] at e
  injection e with e
  subst e
  refine ⟨.int .u8 (dk[j]!.toNat:Int),?_,?_⟩
  ·rw [List.getElem?_map,Array.getElem?_toList,Array.getElem?_eq_getElem (show j<dk.size by omega),Option.map_some,getElem!_pos dk j (by omega)]
  ·unfold fmtF
   rw [if_pos hj,hF.done j (Nat.zero_le _) hj]
   exact congrArg (Value.int .u8) (dg_b8 u.toNat (n-1-j))
end Sx
end
section
namespace Js
open Sha

def uv:Nat→Bs→Option Nat
 | 0,_=>some 0
 | i+1,l=>match uv i l with
  | none=>none
  | some r=>if l.length≤i then none else if i<2 then (if L l i=(if i=0 then 92#8 else 117#8) then some r else none) else match hexv (L l i) with
   | none=>none
   | some d=>some (r*16+d)
theorem uv_none {i:Nat} {l:Bs} (h:uv i l=none):uv (i+1) l=none:=by
 rw [uv,h]
theorem uv_add {l:Bs}:∀ (j i:Nat),uv i l=none→uv (i+j) l=none
 | 0,_,h=>h
 | j+1,i,h=>uv_none (uv_add j i h)
theorem uv_six {l:Bs} {i:Nat} (h:uv i l=none) (hi:i≤6):uv 6 l=none:=by
 have:=uv_add (6-i) i h
 rwa [show i+(6-i)=6 by omega] at this
theorem uv_short {l:Bs} {i:Nat} (h:l.length≤i):uv (i+1) l=none:=by
 rw [uv]
 cases uv i l with
 | none=>rfl
 | some r=>simp only [if_pos h]
theorem unit_uv (l:Bs):unit l=match uv 6 l with
  | none=>none
  | some r=>some (r,l.drop 6):=by
 by_cases hl:l.length<6
 ·have h1:=uv_six (uv_short (Nat.le_refl l.length)) (by omega)
  rw [h1]
  match l,hl with
  | [],_=>rfl
  | [_],_=>rfl
  | [_,_],_=>rfl
  | [_,_,_],_=>rfl
  | [_,_,_,_],_=>rfl
  | [_,_,_,_,_],_=>rfl
  | _::_::_::_::_::_::_,h=>simp at h; omega
 ·match l,hl with
  | a::b::c::d::e::f::r,hl =>
   have h1:∀ i,i<6→¬ (a::b::c::d::e::f::r).length≤i:=fun i hi=>by simp only [List.length_cons]; omega
   have l0:L (a::b::c::d::e::f::r) 0=a:=rfl
   have l1:L (a::b::c::d::e::f::r) 1=b:=rfl
   have l2:L (a::b::c::d::e::f::r) 2=c:=rfl
   have l3:L (a::b::c::d::e::f::r) 3=d:=rfl
   have l4:L (a::b::c::d::e::f::r) 4=e:=rfl
   have l5:L (a::b::c::d::e::f::r) 5=f:=rfl
   have u1:uv 1 (a::b::c::d::e::f::r)=if a=92#8 then some 0 else none:=by
    rw [uv,uv]
    simp only [if_neg (h1 0 (by decide)),l0,show (0<2)=True by decide,if_true]
   have u2:uv 2 (a::b::c::d::e::f::r)=if a=92#8∧b=117#8 then some 0 else none:=by
    rw [uv,u1]
    by_cases ha:a=92#8
    ·simp only [if_pos ha,if_neg (h1 1 (by decide)),l1,show (1<2)=True by decide,if_true,show ¬ (1=0) by decide,if_false]
     by_cases hb:b=117#8
     ·simp [ha,hb]
     ·simp [ha,hb]
    ·simp [ha]
   have step:∀ i,2≤i→i<6→uv (i+1) (a::b::c::d::e::f::r)=match uv i (a::b::c::d::e::f::r) with
     | none=>none
     | some q=>match hexv (L (a::b::c::d::e::f::r) i) with
      | none=>none
      | some d=>some (q*16+d):=by
    intro i h2 h6
    rw [uv]
    cases uv i (a::b::c::d::e::f::r) with
    | none=>rfl
    | some q=>simp only [if_neg (h1 i h6),if_neg (show ¬ i<2 by omega)]
   rw [step 5 (by decide) (by decide),step 4 (by decide) (by decide),step 3 (by decide) (by decide),step 2 (by decide) (by decide),u2,l2,l3,l4,l5]
   unfold unit
   by_cases hab:a=92#8∧b=117#8
   ·simp only [if_pos hab]
    cases hexv c with
    | none=>rfl
    | some c =>
     cases hexv d with
     | none=>rfl
     | some d =>
      cases hexv e with
      | none=>rfl
      | some e =>
       cases hexv f with
       | none=>rfl
       | some f=>simp
   ·simp only [if_neg hab]
  | [],h=>simp at h
  | [_],h=>simp at h
  | [_,_],h=>simp at h
  | [_,_,_],h=>simp at h
  | [_,_,_,_],h=>simp at h
  | [_,_,_,_,_],h=>simp at h
theorem uv_lt:∀ {i r:Nat} {l:Bs},uv i l=some r→r<16 ^ (i-2)
 | 0,r,l,h=>by
  injection h with h
  subst h; decide
 | i+1,r,l,h=>by
  rw [uv] at h
  cases e:uv i l with
  | none=>rw [e] at h; cases h
  | some q =>
   rw [e] at h
   have ih:=uv_lt e
   simp only at h
   split at h
   ·cases h
   split at h
   ·rename_i h2
    have h:q=r:=by
     split at h <;> split at h <;> first|(injection h)|cases h
    subst h
    rw [show i+1-2=i-2 by omega]; exact ih
   ·split at h
    ·cases h
    ·rename_i hd hh
     injection h with h
     subst h
     have:=hexv_lt hh
     rw [show i+1-2=(i-2)+1 by omega,Nat.pow_succ]
     omega
theorem uv_end {l:Bs} {i:Nat} (h:uv i l≠none):i≤l.length:=by
 cases i with
 | zero=>omega
 | succ i =>
  apply Classical.byContradiction
  intro hc
  exact h (uv_short (by omega))
theorem or_16 (r d:Nat) (hd:d<16):(((r:Int)*2 ^ 4).toNat ||| ((d:Nat):Int).toNat:Nat)=r*16+d:=by
 have e:((r:Int)*2 ^ 4).toNat=r <<< 4:=by
  rw [Nat.shiftLeft_eq]
  have:((r:Int)*2 ^ 4)=((r*2 ^ 4:Nat):Int):=by push_cast; rfl
  rw [this]; rfl
 rw [e,Int.toNat_natCast,← Nat.shiftLeft_add_eq_or_of_lt (by omega:d<2 ^ 4),Nat.shiftLeft_eq]
end Js
end
section
namespace Sx
open Go.RowKit Sha Vi Js

theorem blanks_drop (s:Bs) (k:Nat) (h:k<s.length):blanks (s.drop k)=if Js.blank (L s k)=true then blanks (s.drop (k+1)) else s.drop k:=by
 rw [List.drop_eq_getElem_cons h,blanks,← L_lt h]
theorem drop_nil {s:Bs} {k:Nat} (h:s.length≤k):s.drop k=[]:=List.drop_eq_nil_of_le h
set_option maxRecDepth 20000 in
set_option maxHeartbeats 4000000 in
theorem fn_blanks (s:Bs) (k:Nat) (hk:k≤s.length) (hs:s.length≤1048576):Fn Tryd.prog tds 43 [psr s k] [.c (.p 0 0 0)] (fun _=>True)
  (fun y hs=>∃ k',k≤k'∧k'≤s.length∧s.drop k'=blanks (s.drop k)∧y=.tup []∧hs=[psr s k']):=by
 refine fn_of_body tds_ok follows_ Tryd.func43 rfl (t:=.a (.c (.p 0 0 0))::anys (Tryd.f43.ntmps-1)) rfl (fun w r0 hr0 _=>?_)
 obtain ⟨x0,rfl⟩:=len1' hr0
 refine .inl ⟨Nat,fun j=>⟨[.a (.c (.p 0 0 0)),.any,.any,.any,.any,.any,.any,.any,.any,.any,.any,.any,.any,.any,.any,.any,.any,.any,.any,.any,.any,.any,.any,.any,.any,.any,.any,.any,.any,.any,.any,.any],[psr s j]⟩,fun j=>k≤j∧j≤s.length∧blanks (s.drop j)=blanks (s.drop k),fun j=>s.length-j,⟨k,[0],⟨⟨rfl,rfl,rfl⟩,by (repeat first|exact trivial|refine ent1 ?_)⟩,Nat.le_refl _,hk,rfl⟩,fun j hj=>?_⟩
 obtain ⟨h1,h2,h3⟩:=hj
 refine ⟨none,[],[(0,true),(1,true),(2,true),(3,true),(4,true),(5,true),(6,true),(7,true),(8,true),(9,true),(10,true),(11,true),(12,true),(13,true),(14,true),(15,true),(16,true),(17,true),(18,true),(19,true),(20,false),(21,true),(22,true)],[],by kernel_rfl,?_⟩
 by_cases h:j<s.length
 ·have e:decide ((j:Int)<(((U8 s).length:Nat):Int))=true:=decide_eq_true (by rw [U8_len]; omega)
  rw [blanks_drop s j h] at h3
  (repeat show _∧_;first|refine yr ?_|refine yt ?_|refine yf ?_|refine ya e ?_|refine yb e ?_|refine yo ?_)
  refine And.intro ⟨by omega,by rw [U8_len]; omega⟩ ?_
  (repeat show _∧_;first|refine yr ?_|refine yt ?_|refine yf ?_|refine ya e ?_|refine yb e ?_|refine yo ?_)
  refine call_same (fn_idxByte [32,9,13,10] (L s j)) [] rfl (by (repeat first|exact trivial|refine ent1 ?_); exact And.intro (U8_get s j h) trivial) trivial (fun _ _=>trivial) ?_
  rintro x hs' ⟨rfl,rfl⟩
  have hb:=blank_idx (L s j)
  by_cases hbl:Js.blank (L s j)=true
  ·rw [hbl] at hb
   rw [if_pos hbl] at h3
   (repeat show _∧_;first|refine yr ?_|refine yt ?_|refine yf ?_|refine ya e ?_|refine yb e ?_|refine ya hb ?_|refine yb hb ?_|refine yo ?_)
   refine ⟨j+1,[0],⟨⟨rfl,rfl,rfl⟩,by (repeat first|exact trivial|refine ent1 ?_)⟩,⟨by omega,by omega,h3⟩,by dsimp only; omega⟩
  ·rw [Bool.not_eq_true] at hbl
   rw [hbl] at hb
   rw [if_neg (by rw [hbl]; decide)] at h3
   (repeat show _∧_;first|refine yr ?_|refine yt ?_|refine yf ?_|refine ya e ?_|refine yb e ?_|refine ya hb ?_|refine yb hb ?_|refine yo ?_)
   exact ⟨.tup [],_,⟨[0],⟨rfl,rfl,rfl⟩,by (repeat first|exact trivial|refine ent1 ?_)⟩,j,h1,h2,h3,rfl,rfl⟩
 ·have e:decide ((j:Int)<(((U8 s).length:Nat):Int))=false:=decide_eq_false (by rw [U8_len]; omega)
  (repeat show _∧_;first|refine yr ?_|refine yt ?_|refine yf ?_|refine ya e ?_|refine yb e ?_|refine yo ?_)
  exact ⟨.tup [],_,⟨[0],⟨rfl,rfl,rfl⟩,by (repeat first|exact trivial|refine ent1 ?_)⟩,j,h1,h2,by rw [← h3,drop_nil (by omega)]; rfl,rfl,rfl⟩
end Sx
end
section
namespace Sx
open Go.RowKit Sha Vi Js

theorem L_dr (s:Bs) (k i:Nat):L (s.drop k) i=L s (k+i):=L_drop s k i
theorem U8_getI (s:Bs) (k i:Nat) (h:k+i<s.length):((U8 s).getD ((k:Int)+(i:Int)).toNat 0).toBitVec=L s (k+i):=by
 rw [show ((k:Int)+(i:Int)).toNat=k+i by omega]
 exact U8_get s (k+i) h
theorem or_i32 {r d:Nat} {c:BitVec 8} (hd:d<16) (h:c.toNat=d):SC.int .i32 (((((r:Int)*2 ^ 4).toNat ||| ((c.toNat:Nat):Int).toNat:Nat)):Int)=.int .i32 ((r*16+d:Nat):Int):=by
 rw [h,or_16 r d hd]
theorem b_shl {r:Nat} (hr:r<4096):4<32∧-2147483648≤(r:Int)*2 ^ 4∧(r:Int)*2 ^ 4≤2147483647:=by
 refine ⟨by decide,?_,?_⟩ <;> omega
theorem b_or {r d:Nat} (hr:r<4096) (hd:d<16):0≤(r:Int)*2 ^ 4∧0≤(d:Int)∧(r:Int)*2 ^ 4≤2147483647∧(d:Int)≤2147483647:=by
 refine ⟨?_,?_,?_,?_⟩ <;> omega
theorem hex_dig:∀ c:BitVec 8,decide (48#8≤c)=true→decide (c≤57#8)=true→hexv c=some ((c-48#8).toNat)∧(c-48#8).toNat<16:=by decide +kernel
theorem hex_low:∀ c:BitVec 8,decide (97#8≤c)=true→decide (c≤102#8)=true→hexv c=some ((c-97#8+10#8).toNat)∧(c-97#8+10#8).toNat<16:=by decide +kernel
theorem hex_up:∀ c:BitVec 8,decide (65#8≤c)=true→decide (c≤70#8)=true→hexv c=some ((c-65#8+10#8).toNat)∧(c-65#8+10#8).toNat<16:=by decide +kernel
theorem hex_no:∀ c:BitVec 8,(decide (48#8≤c) && decide (c≤57#8))=false→(decide (97#8≤c) && decide (c≤102#8))=false→(decide (65#8≤c) && decide (c≤70#8))=false→hexv c=none:=by decide +kernel
theorem uv_pre {l:Bs} {i r:Nat} (h:uv i l=some r) (hi:i<l.length) (h2:i<2):uv (i+1) l=if L l i=(if i=0 then 92#8 else 117#8) then some r else none:=by
 rw [uv,h]; simp only [if_neg (show ¬ l.length≤i by omega),if_pos h2]
theorem uv_dig {l:Bs} {i r:Nat} (h:uv i l=some r) (hi:i<l.length) (h2:2≤i):uv (i+1) l=match hexv (L l i) with
  | none=>none
  | some d=>some (r*16+d):=by
 rw [uv,h]; simp only [if_neg (show ¬ l.length≤i by omega),if_neg (show ¬ i<2 by omega)]
 all_goals (cases hexv (L l i) <;> rfl)
set_option maxRecDepth 20000 in
set_option maxHeartbeats 8000000 in
theorem fn_unit (s:Bs) (k:Nat) (hk:k≤s.length) (hs:s.length≤1048576):Fn Tryd.prog tds 87 [psr s k] [.c (.p 0 0 0)] (fun _=>True)
  (fun y hs=>(∃ r,unit (s.drop k)=some (r,s.drop (k+6))∧k+6≤s.length∧y=.tup [.c (.int .i32 (r:Int)),.c (.int .i64 0)]∧hs=[psr s (k+6)])∨(unit (s.drop k)=none∧y=.tup [.c (.int .i32 0),.c (.int .i64 4)]∧hs=[psr s k])):=by
 refine fn_of_body tds_ok follows_ Tryd.func87 rfl (t:=.a (.c (.p 0 0 0))::anys (Tryd.f87.ntmps-1)) rfl (fun w r0 hr0 _=>?_)
 obtain ⟨x0,rfl⟩:=len1' hr0
 have hu:=unit_uv (s.drop k)
 have fail:∀ i,i≤6→uv i (s.drop k)=none→unit (s.drop k)=none:=fun i hi h=>by rw [hu,uv_six h hi]
 refine .inl ⟨Nat × Nat,fun (i,r)=>⟨[.a (.c (.p 0 0 0)),.any,.a (.c (.int .i32 0)),.a (.c (.int .i64 (0))),.a (.c (.int .i32 (r:Int))),.any,.any,.a (.c (.int .i64 ((i:Int)))),.any,.any,.any,.any,.any,.any,.any,.any,.any,.any,.any,.any,.any,.any,.any,.any,.any,.any,.any,.any,.any,.any,.any,.any,.any,.any,.any,.any,.any,.any,.any,.any,.any,.any,.any,.any,.any,.any,.any,.any,.any,.any,.any,.any,.any,.any,.any,.any,.any,.any,.any,.any,.any,.any,.any,.any,.any,.any,.any,.any,.any,.any,.any,.any,.any,.any,.any,.any,.any,.any,.any,.any,.any,.any,.any,.any,.any,.any,.any,.any,.any,.any],[psr s k]⟩,fun (i,r)=>i≤6∧uv i (s.drop k)=some r,fun (i,_)=>6-i,⟨(0,0),[0],⟨⟨rfl,rfl,rfl⟩,by (repeat first|exact trivial|refine ent1 ?_)⟩,Nat.zero_le _,rfl⟩,fun (i,r) hj=>?_⟩
 obtain ⟨h1,h2⟩:=hj
 have hb:=uv_lt h2
 by_cases h6:i<6
 ·have e6:decide ((i:Int)<6)=true:=decide_eq_true (by omega)
  have hp:(16:Nat) ^ (i-2)≤16 ^ 3:=Nat.pow_le_pow_right (by decide) (by omega)
  have hr:r<4096:=Nat.lt_of_lt_of_le hb hp
  (repeat show _∧_;first|refine yr ?_|refine yt ?_|refine yf ?_|refine ya e6 ?_|refine yb e6 ?_|refine yo ?_)
  refine ⟨none,[],[(0,true),(1,true),(2,true),(3,true),(4,true),(5,true),(6,true),(7,true),(8,true),(9,true),(10,true),(11,true)],[],by kernel_rfl,?_⟩
  by_cases hl:k+i<s.length
  ·have el:decide ((((U8 s).length:Nat):Int)≤(k:Int)+(i:Int))=false:=decide_eq_false (by rw [U8_len]; omega)
   have hl':i<(s.drop k).length:=by rw [List.length_drop]; omega
   have hget:=U8_getI s k i hl
   (repeat show _∧_;first|refine yr ?_|refine yt ?_|refine yf ?_|refine ya el ?_|refine yb el ?_|refine yo ?_)
   refine ⟨none,[],[(0,true),(1,true),(2,true),(3,true),(4,true),(5,true),(6,true),(7,true),(8,true),(9,true),(10,true),(11,true)],[],by kernel_rfl,?_⟩
   (repeat show _∧_;first|refine yr ?_|refine yt ?_|refine yf ?_|refine yo ?_)
   refine And.intro ⟨by omega,by rw [U8_len]; omega⟩ ?_
   rw [hget]
   have hc:L (s.drop k) i=L s (k+i):=L_dr s k i
   by_cases h2':i<2
   ·have e2:decide ((i:Int)<2)=true:=decide_eq_true (by omega)
    have hpre:=uv_pre h2 hl' h2'
    rw [hc] at hpre
    have err:∀ c:BitVec 8,L s (k+i)≠c→(if i=0 then 92#8 else 117#8)=c→unit (s.drop k)=none:=fun c hne hce=>fail (i+1) (by omega) (by rw [hpre,hce,if_neg hne])
    have good:∀ c:BitVec 8,L s (k+i)=c→(if i=0 then 92#8 else 117#8)=c→uv (i+1) (s.drop k)=some r:=fun c he hce=>by rw [hpre,hce,if_pos he]
    have h01:i=0∨i=1:=by omega
    rcases h01 with rfl|rfl
    ·by_cases hq:L s (k+0)=92#8
     ·have eq:decide (L s (k+0)≠92#8)=false:=decide_eq_false (not_not_intro hq)
      (repeat show _∧_;first|refine yr ?_|refine yt ?_|refine yf ?_|refine ya e2 ?_|refine yb e2 ?_|refine yo ?_)
      refine And.intro (fun h=>Bool.noConfusion (h.symm.trans eq)) (fun _=>?_)
      (repeat show _∧_;first|refine yr ?_|refine yt ?_|refine yf ?_|refine yo ?_)
      refine ⟨(1,r),[0],⟨⟨rfl,rfl,rfl⟩,by (repeat first|exact trivial|refine ent1 ?_)⟩,⟨by omega,good _ hq rfl⟩,by dsimp only; omega⟩
     ·have eq:decide (L s (k+0)≠92#8)=true:=decide_eq_true hq
      (repeat show _∧_;first|refine yr ?_|refine yt ?_|refine yf ?_|refine ya e2 ?_|refine yb e2 ?_|refine yo ?_)
      refine And.intro (fun _=>?_) (fun h=>Bool.noConfusion (h.symm.trans eq))
      (repeat show _∧_;first|refine yr ?_|refine yt ?_|refine yf ?_|refine yo ?_)
      exact ⟨.tup [.c (.int .i32 0),.c (.int .i64 4)],_,⟨[0],⟨rfl,rfl,rfl⟩,by (repeat first|exact trivial|refine ent1 ?_)⟩,.inr ⟨err _ hq rfl,rfl,rfl⟩⟩
    ·by_cases hq:L s (k+1)=117#8
     ·have eq:decide (L s (k+1)≠117#8)=false:=decide_eq_false (not_not_intro hq)
      (repeat show _∧_;first|refine yr ?_|refine yt ?_|refine yf ?_|refine ya e2 ?_|refine yb e2 ?_|refine yo ?_)
      refine And.intro (fun h=>Bool.noConfusion (h.symm.trans eq)) (fun _=>?_)
      (repeat show _∧_;first|refine yr ?_|refine yt ?_|refine yf ?_|refine yo ?_)
      refine ⟨(2,r),[0],⟨⟨rfl,rfl,rfl⟩,by (repeat first|exact trivial|refine ent1 ?_)⟩,⟨by omega,good _ hq rfl⟩,by dsimp only; omega⟩
     ·have eq:decide (L s (k+1)≠117#8)=true:=decide_eq_true hq
      (repeat show _∧_;first|refine yr ?_|refine yt ?_|refine yf ?_|refine ya e2 ?_|refine yb e2 ?_|refine yo ?_)
      refine And.intro (fun _=>?_) (fun h=>Bool.noConfusion (h.symm.trans eq))
      (repeat show _∧_;first|refine yr ?_|refine yt ?_|refine yf ?_|refine yo ?_)
      exact ⟨.tup [.c (.int .i32 0),.c (.int .i64 4)],_,⟨[0],⟨rfl,rfl,rfl⟩,by (repeat first|exact trivial|refine ent1 ?_)⟩,.inr ⟨err _ hq rfl,rfl,rfl⟩⟩
   ·have e2:decide ((i:Int)<2)=false:=decide_eq_false (by omega)
    have hdg:=uv_dig h2 hl' (by omega)
    rw [hc] at hdg
    generalize L s (k+i)=c at *
    have H1:=hex_dig c
    have H2:=hex_low c
    have H3:=hex_up c
    have H4:=hex_no c
    have fin:∀ d:BitVec 8,hexv c=some d.toNat→d.toNat<16→uv (i+1) (s.drop k)=some (r*16+d.toNat):=fun d hd _=>by rw [hdg,hd]
    rcases hA:decide (48#8≤c) with _|_
    ·rcases hC:decide (97#8≤c) with _|_
     ·rcases hE:decide (65#8≤c) with _|_
      ·have hno:=H4 (by rw [hA]; rfl) (by rw [hC]; rfl) (by rw [hE]; rfl)
       (repeat show _∧_;first|refine yr ?_|refine yt ?_|refine yf ?_|refine ya e2 ?_|refine yb e2 ?_|refine ya hA ?_|refine yb hA ?_|refine ya hC ?_|refine yb hC ?_|refine ya hE ?_|refine yb hE ?_|refine yo ?_)
       exact ⟨.tup [.c (.int .i32 0),.c (.int .i64 4)],_,⟨[0],⟨rfl,rfl,rfl⟩,by (repeat first|exact trivial|refine ent1 ?_)⟩,.inr ⟨fail (i+1) (by omega) (by rw [hdg,hno]),rfl,rfl⟩⟩
      rcases hF:decide (c≤70#8) with _|_
      ·have hno:=H4 (by rw [hA]; rfl) (by rw [hC]; rfl) (by rw [hE,hF]; rfl)
       (repeat show _∧_;first|refine yr ?_|refine yt ?_|refine yf ?_|refine ya e2 ?_|refine yb e2 ?_|refine ya hA ?_|refine yb hA ?_|refine ya hC ?_|refine yb hC ?_|refine ya hE ?_|refine yb hE ?_|refine ya hF ?_|refine yb hF ?_|refine yo ?_)
       exact ⟨.tup [.c (.int .i32 0),.c (.int .i64 4)],_,⟨[0],⟨rfl,rfl,rfl⟩,by (repeat first|exact trivial|refine ent1 ?_)⟩,.inr ⟨fail (i+1) (by omega) (by rw [hdg,hno]),rfl,rfl⟩⟩
      ·obtain ⟨q1,q2⟩:=H3 hE hF
       (repeat show _∧_;first|refine yr ?_|refine yt ?_|refine yf ?_|refine ya e2 ?_|refine yb e2 ?_|refine ya hA ?_|refine yb hA ?_|refine ya hC ?_|refine yb hC ?_|refine ya hE ?_|refine yb hE ?_|refine ya hF ?_|refine yb hF ?_|refine yo ?_)
       refine And.intro (b_shl hr) ?_
       (repeat show _∧_;first|refine yr ?_|refine yt ?_|refine yf ?_|refine yo ?_)
       refine And.intro (b_or hr q2) ?_
       (repeat show _∧_;first|refine yr ?_|refine yt ?_|refine yf ?_|refine yo ?_)
       refine ⟨(i+1,r*16+(c-65#8+10#8).toNat),[0],⟨⟨rfl,rfl,rfl⟩,?_⟩,⟨by omega,fin _ q1 q2⟩,by dsimp only; omega⟩
       (repeat first|exact trivial|refine ent1 ?_)
       refine And.intro (or_i32 q2 rfl) ?_
       (repeat first|exact trivial|refine ent1 ?_)
     rcases hD:decide (c≤102#8) with _|_
     ·rcases hE:decide (65#8≤c) with _|_
      ·have hno:=H4 (by rw [hA]; rfl) (by rw [hC,hD]; rfl) (by rw [hE]; rfl)
       (repeat show _∧_;first|refine yr ?_|refine yt ?_|refine yf ?_|refine ya e2 ?_|refine yb e2 ?_|refine ya hA ?_|refine yb hA ?_|refine ya hC ?_|refine yb hC ?_|refine ya hD ?_|refine yb hD ?_|refine ya hE ?_|refine yb hE ?_|refine yo ?_)
       exact ⟨.tup [.c (.int .i32 0),.c (.int .i64 4)],_,⟨[0],⟨rfl,rfl,rfl⟩,by (repeat first|exact trivial|refine ent1 ?_)⟩,.inr ⟨fail (i+1) (by omega) (by rw [hdg,hno]),rfl,rfl⟩⟩
      rcases hF:decide (c≤70#8) with _|_
      ·have hno:=H4 (by rw [hA]; rfl) (by rw [hC,hD]; rfl) (by rw [hE,hF]; rfl)
       (repeat show _∧_;first|refine yr ?_|refine yt ?_|refine yf ?_|refine ya e2 ?_|refine yb e2 ?_|refine ya hA ?_|refine yb hA ?_|refine ya hC ?_|refine yb hC ?_|refine ya hD ?_|refine yb hD ?_|refine ya hE ?_|refine yb hE ?_|refine ya hF ?_|refine yb hF ?_|refine yo ?_)
       exact ⟨.tup [.c (.int .i32 0),.c (.int .i64 4)],_,⟨[0],⟨rfl,rfl,rfl⟩,by (repeat first|exact trivial|refine ent1 ?_)⟩,.inr ⟨fail (i+1) (by omega) (by rw [hdg,hno]),rfl,rfl⟩⟩
      ·obtain ⟨q1,q2⟩:=H3 hE hF
       (repeat show _∧_;first|refine yr ?_|refine yt ?_|refine yf ?_|refine ya e2 ?_|refine yb e2 ?_|refine ya hA ?_|refine yb hA ?_|refine ya hC ?_|refine yb hC ?_|refine ya hD ?_|refine yb hD ?_|refine ya hE ?_|refine yb hE ?_|refine ya hF ?_|refine yb hF ?_|refine yo ?_)
       refine And.intro (b_shl hr) ?_
       (repeat show _∧_;first|refine yr ?_|refine yt ?_|refine yf ?_|refine yo ?_)
       refine And.intro (b_or hr q2) ?_
       (repeat show _∧_;first|refine yr ?_|refine yt ?_|refine yf ?_|refine yo ?_)
       refine ⟨(i+1,r*16+(c-65#8+10#8).toNat),[0],⟨⟨rfl,rfl,rfl⟩,?_⟩,⟨by omega,fin _ q1 q2⟩,by dsimp only; omega⟩
       (repeat first|exact trivial|refine ent1 ?_)
       refine And.intro (or_i32 q2 rfl) ?_
       (repeat first|exact trivial|refine ent1 ?_)
     ·obtain ⟨q1,q2⟩:=H2 hC hD
      (repeat show _∧_;first|refine yr ?_|refine yt ?_|refine yf ?_|refine ya e2 ?_|refine yb e2 ?_|refine ya hA ?_|refine yb hA ?_|refine ya hC ?_|refine yb hC ?_|refine ya hD ?_|refine yb hD ?_|refine yo ?_)
      refine And.intro (b_shl hr) ?_
      (repeat show _∧_;first|refine yr ?_|refine yt ?_|refine yf ?_|refine yo ?_)
      refine And.intro (b_or hr q2) ?_
      (repeat show _∧_;first|refine yr ?_|refine yt ?_|refine yf ?_|refine yo ?_)
      refine ⟨(i+1,r*16+(c-97#8+10#8).toNat),[0],⟨⟨rfl,rfl,rfl⟩,?_⟩,⟨by omega,fin _ q1 q2⟩,by dsimp only; omega⟩
      (repeat first|exact trivial|refine ent1 ?_)
      refine And.intro (or_i32 q2 rfl) ?_
      (repeat first|exact trivial|refine ent1 ?_)
    rcases hB:decide (c≤57#8) with _|_
    ·rcases hC:decide (97#8≤c) with _|_
     ·rcases hE:decide (65#8≤c) with _|_
      ·have hno:=H4 (by rw [hA,hB]; rfl) (by rw [hC]; rfl) (by rw [hE]; rfl)
       (repeat show _∧_;first|refine yr ?_|refine yt ?_|refine yf ?_|refine ya e2 ?_|refine yb e2 ?_|refine ya hA ?_|refine yb hA ?_|refine ya hB ?_|refine yb hB ?_|refine ya hC ?_|refine yb hC ?_|refine ya hE ?_|refine yb hE ?_|refine yo ?_)
       exact ⟨.tup [.c (.int .i32 0),.c (.int .i64 4)],_,⟨[0],⟨rfl,rfl,rfl⟩,by (repeat first|exact trivial|refine ent1 ?_)⟩,.inr ⟨fail (i+1) (by omega) (by rw [hdg,hno]),rfl,rfl⟩⟩
      rcases hF:decide (c≤70#8) with _|_
      ·have hno:=H4 (by rw [hA,hB]; rfl) (by rw [hC]; rfl) (by rw [hE,hF]; rfl)
       (repeat show _∧_;first|refine yr ?_|refine yt ?_|refine yf ?_|refine ya e2 ?_|refine yb e2 ?_|refine ya hA ?_|refine yb hA ?_|refine ya hB ?_|refine yb hB ?_|refine ya hC ?_|refine yb hC ?_|refine ya hE ?_|refine yb hE ?_|refine ya hF ?_|refine yb hF ?_|refine yo ?_)
       exact ⟨.tup [.c (.int .i32 0),.c (.int .i64 4)],_,⟨[0],⟨rfl,rfl,rfl⟩,by (repeat first|exact trivial|refine ent1 ?_)⟩,.inr ⟨fail (i+1) (by omega) (by rw [hdg,hno]),rfl,rfl⟩⟩
      ·obtain ⟨q1,q2⟩:=H3 hE hF
       (repeat show _∧_;first|refine yr ?_|refine yt ?_|refine yf ?_|refine ya e2 ?_|refine yb e2 ?_|refine ya hA ?_|refine yb hA ?_|refine ya hB ?_|refine yb hB ?_|refine ya hC ?_|refine yb hC ?_|refine ya hE ?_|refine yb hE ?_|refine ya hF ?_|refine yb hF ?_|refine yo ?_)
       refine And.intro (b_shl hr) ?_
       (repeat show _∧_;first|refine yr ?_|refine yt ?_|refine yf ?_|refine yo ?_)
       refine And.intro (b_or hr q2) ?_
       (repeat show _∧_;first|refine yr ?_|refine yt ?_|refine yf ?_|refine yo ?_)
       refine ⟨(i+1,r*16+(c-65#8+10#8).toNat),[0],⟨⟨rfl,rfl,rfl⟩,?_⟩,⟨by omega,fin _ q1 q2⟩,by dsimp only; omega⟩
       (repeat first|exact trivial|refine ent1 ?_)
       refine And.intro (or_i32 q2 rfl) ?_
       (repeat first|exact trivial|refine ent1 ?_)
     rcases hD:decide (c≤102#8) with _|_
     ·rcases hE:decide (65#8≤c) with _|_
      ·have hno:=H4 (by rw [hA,hB]; rfl) (by rw [hC,hD]; rfl) (by rw [hE]; rfl)
       (repeat show _∧_;first|refine yr ?_|refine yt ?_|refine yf ?_|refine ya e2 ?_|refine yb e2 ?_|refine ya hA ?_|refine yb hA ?_|refine ya hB ?_|refine yb hB ?_|refine ya hC ?_|refine yb hC ?_|refine ya hD ?_|refine yb hD ?_|refine ya hE ?_|refine yb hE ?_|refine yo ?_)
       exact ⟨.tup [.c (.int .i32 0),.c (.int .i64 4)],_,⟨[0],⟨rfl,rfl,rfl⟩,by (repeat first|exact trivial|refine ent1 ?_)⟩,.inr ⟨fail (i+1) (by omega) (by rw [hdg,hno]),rfl,rfl⟩⟩
      rcases hF:decide (c≤70#8) with _|_
      ·have hno:=H4 (by rw [hA,hB]; rfl) (by rw [hC,hD]; rfl) (by rw [hE,hF]; rfl)
       (repeat show _∧_;first|refine yr ?_|refine yt ?_|refine yf ?_|refine ya e2 ?_|refine yb e2 ?_|refine ya hA ?_|refine yb hA ?_|refine ya hB ?_|refine yb hB ?_|refine ya hC ?_|refine yb hC ?_|refine ya hD ?_|refine yb hD ?_|refine ya hE ?_|refine yb hE ?_|refine ya hF ?_|refine yb hF ?_|refine yo ?_)
       exact ⟨.tup [.c (.int .i32 0),.c (.int .i64 4)],_,⟨[0],⟨rfl,rfl,rfl⟩,by (repeat first|exact trivial|refine ent1 ?_)⟩,.inr ⟨fail (i+1) (by omega) (by rw [hdg,hno]),rfl,rfl⟩⟩
      ·obtain ⟨q1,q2⟩:=H3 hE hF
       (repeat show _∧_;first|refine yr ?_|refine yt ?_|refine yf ?_|refine ya e2 ?_|refine yb e2 ?_|refine ya hA ?_|refine yb hA ?_|refine ya hB ?_|refine yb hB ?_|refine ya hC ?_|refine yb hC ?_|refine ya hD ?_|refine yb hD ?_|refine ya hE ?_|refine yb hE ?_|refine ya hF ?_|refine yb hF ?_|refine yo ?_)
       refine And.intro (b_shl hr) ?_
       (repeat show _∧_;first|refine yr ?_|refine yt ?_|refine yf ?_|refine yo ?_)
       refine And.intro (b_or hr q2) ?_
       (repeat show _∧_;first|refine yr ?_|refine yt ?_|refine yf ?_|refine yo ?_)
       refine ⟨(i+1,r*16+(c-65#8+10#8).toNat),[0],⟨⟨rfl,rfl,rfl⟩,?_⟩,⟨by omega,fin _ q1 q2⟩,by dsimp only; omega⟩
       (repeat first|exact trivial|refine ent1 ?_)
       refine And.intro (or_i32 q2 rfl) ?_
       (repeat first|exact trivial|refine ent1 ?_)
     ·obtain ⟨q1,q2⟩:=H2 hC hD
      (repeat show _∧_;first|refine yr ?_|refine yt ?_|refine yf ?_|refine ya e2 ?_|refine yb e2 ?_|refine ya hA ?_|refine yb hA ?_|refine ya hB ?_|refine yb hB ?_|refine ya hC ?_|refine yb hC ?_|refine ya hD ?_|refine yb hD ?_|refine yo ?_)
      refine And.intro (b_shl hr) ?_
      (repeat show _∧_;first|refine yr ?_|refine yt ?_|refine yf ?_|refine yo ?_)
      refine And.intro (b_or hr q2) ?_
      (repeat show _∧_;first|refine yr ?_|refine yt ?_|refine yf ?_|refine yo ?_)
      refine ⟨(i+1,r*16+(c-97#8+10#8).toNat),[0],⟨⟨rfl,rfl,rfl⟩,?_⟩,⟨by omega,fin _ q1 q2⟩,by dsimp only; omega⟩
      (repeat first|exact trivial|refine ent1 ?_)
      refine And.intro (or_i32 q2 rfl) ?_
      (repeat first|exact trivial|refine ent1 ?_)
    ·obtain ⟨q1,q2⟩:=H1 hA hB
     (repeat show _∧_;first|refine yr ?_|refine yt ?_|refine yf ?_|refine ya e2 ?_|refine yb e2 ?_|refine ya hA ?_|refine yb hA ?_|refine ya hB ?_|refine yb hB ?_|refine yo ?_)
     refine And.intro (b_shl hr) ?_
     (repeat show _∧_;first|refine yr ?_|refine yt ?_|refine yf ?_|refine yo ?_)
     refine And.intro (b_or hr q2) ?_
     (repeat show _∧_;first|refine yr ?_|refine yt ?_|refine yf ?_|refine yo ?_)
     refine ⟨(i+1,r*16+(c-48#8).toNat),[0],⟨⟨rfl,rfl,rfl⟩,?_⟩,⟨by omega,fin _ q1 q2⟩,by dsimp only; omega⟩
     (repeat first|exact trivial|refine ent1 ?_)
     refine And.intro (or_i32 q2 rfl) ?_
     (repeat first|exact trivial|refine ent1 ?_)
  ·have el:decide ((((U8 s).length:Nat):Int)≤(k:Int)+(i:Int))=true:=decide_eq_true (by rw [U8_len]; omega)
   (repeat show _∧_;first|refine yr ?_|refine yt ?_|refine yf ?_|refine ya el ?_|refine yb el ?_|refine yo ?_)
   exact ⟨.tup [.c (.int .i32 0),.c (.int .i64 4)],_,⟨[0],⟨rfl,rfl,rfl⟩,by (repeat first|exact trivial|refine ent1 ?_)⟩,.inr ⟨fail (i+1) (by omega) (uv_short (by rw [List.length_drop]; omega)),rfl,rfl⟩⟩
 ·obtain rfl:i=6:=by omega
  have h6l:=uv_end (l:=s.drop k) (i:=6) (by rw [h2]; simp)
  rw [List.length_drop] at h6l
  (repeat show _∧_;first|refine yr ?_|refine yt ?_|refine yf ?_|refine yo ?_)
  refine ⟨.tup [.c (.int .i32 (r:Int)),.c (.int .i64 0)],_,⟨[0],⟨rfl,rfl,rfl⟩,by (repeat first|exact trivial|refine ent1 ?_)⟩,.inl ⟨r,?_,by omega,rfl,rfl⟩⟩
  rw [hu,h2]
  simp only [List.drop_drop]
end Sx
end
section
namespace Sx
open Go.RowKit Sha Vi Js

def RuneA (s:Bs) (k:Nat) (r:R Nat) (y:SV) (hs:List (List Seg)):Prop :=
 (∃ v k',r=.ok v (s.drop k')∧k≤k'∧k'≤s.length∧y=.tup [.c (.int .i32 (v:Int)),.c (.int .i64 0)]∧hs=[psr s k']) ∨
 (∃ e v k',r=.bad e∧e≠0∧k≤k'∧k'≤s.length∧y=.tup [.c (.int .i32 v),.c (.int .i64 e)]∧hs=[psr s k'])
theorem pair_i32 {r q:Nat} (h1:55296≤r) (h2:r<56320) (h3:56320≤q) (h4:q≤57343):(65536+((r:Int)-55296)*2 ^ 10)+((q:Int)-56320)=((65536+(r-55296)*1024+(q-56320):Nat):Int):=by
 omega
set_option maxRecDepth 20000 in
set_option maxHeartbeats 8000000 in
theorem fn_coded (s:Bs) (k:Nat) (hk:k≤s.length) (hs:s.length≤1048576):Fn Tryd.prog tds 79 [psr s k] [.c (.p 0 0 0)] (fun _=>True) (RuneA s k (coded (s.drop k))):=by
 refine fn_of_body tds_ok follows_ Tryd.func79 rfl (t:=.a (.c (.p 0 0 0))::anys (Tryd.f79.ntmps-1)) rfl (fun w r0 hr0 _=>?_)
 obtain ⟨x0,rfl⟩:=len1' hr0
 (repeat show _∧_;first|refine yr ?_|refine yt ?_|refine yf ?_|refine yo ?_)
 refine call_same (fn_unit s k hk hs) [0] rfl (by (repeat first|exact trivial|refine ent1 ?_)) (by (repeat first|exact trivial|refine ent1 ?_)) (fun _ _=>trivial) ?_
 rintro x hs' (⟨r,h1,h2,rfl,rfl⟩|⟨h1,rfl,rfl⟩)
 ·have hC:coded (s.drop k)=if r<55296∨57343<r then .ok r (s.drop (k+6)) else if 56320≤r then .bad 4 else match unit (s.drop (k+6)) with
    | none=>.bad 4
    | some (low,u)=>if low<56320∨57343<low then .bad 4 else .ok (65536+(r-55296)*1024+(low-56320)) u:=by
   unfold coded; rw [h1]; dsimp only
   split
   ·rfl
   split
   ·rfl
   cases unit (s.drop (k+6)) <;> rfl
  by_cases a1:r<55296
  ·have e1:decide ((r:Int)<55296)=true:=decide_eq_true (by omega)
   (repeat show _∧_;first|refine yr ?_|refine yt ?_|refine yf ?_|refine yt ?_ (by first|decide|(rw[e1];decide))|refine yf ?_ (by first|decide|(rw[e1];decide))|refine yo ?_)
   exact ⟨.tup [.c (.int .i32 (r:Int)),.c (.int .i64 0)],_,⟨[0],⟨rfl,rfl,rfl⟩,by (repeat first|exact trivial|refine ent1 ?_)⟩,.inl ⟨r,k+6,by rw [hC,if_pos (.inl a1)],by omega,h2,rfl,rfl⟩⟩
  have e1:decide ((r:Int)<55296)=false:=decide_eq_false (by omega)
  by_cases a2:57343<r
  ·have e2:decide ((57343:Int)<(r:Int))=true:=decide_eq_true (by omega)
   (repeat show _∧_;first|refine yr ?_|refine yt ?_|refine yf ?_|refine yt ?_ (by first|decide|(rw[e1];decide)|(rw[e2];decide))|refine yf ?_ (by first|decide|(rw[e1];decide)|(rw[e2];decide))|refine yo ?_)
   exact ⟨.tup [.c (.int .i32 (r:Int)),.c (.int .i64 0)],_,⟨[0],⟨rfl,rfl,rfl⟩,by (repeat first|exact trivial|refine ent1 ?_)⟩,.inl ⟨r,k+6,by rw [hC,if_pos (.inr a2)],by omega,h2,rfl,rfl⟩⟩
  have e2:decide ((57343:Int)<(r:Int))=false:=decide_eq_false (by omega)
  rw [if_neg (by omega)] at hC
  by_cases a3:56320≤r
  ·have e3:decide ((56320:Int)≤(r:Int))=true:=decide_eq_true (by omega)
   rw [if_pos a3] at hC
   (repeat show _∧_;first|refine yr ?_|refine yt ?_|refine yf ?_|refine yt ?_ (by first|decide|(rw[e1];decide)|(rw[e2];decide)|(rw[e3];decide))|refine yf ?_ (by first|decide|(rw[e1];decide)|(rw[e2];decide)|(rw[e3];decide))|refine yo ?_)
   exact ⟨.tup [.c (.int .i32 0),.c (.int .i64 4)],_,⟨[0],⟨rfl,rfl,rfl⟩,by (repeat first|exact trivial|refine ent1 ?_)⟩,.inr ⟨4,0,k+6,hC,by decide,by omega,h2,rfl,rfl⟩⟩
  have e3:decide ((56320:Int)≤(r:Int))=false:=decide_eq_false (by omega)
  rw [if_neg a3] at hC
  (repeat show _∧_;first|refine yr ?_|refine yt ?_|refine yf ?_|refine yt ?_ (by first|decide|(rw[e1];decide)|(rw[e2];decide)|(rw[e3];decide))|refine yf ?_ (by first|decide|(rw[e1];decide)|(rw[e2];decide)|(rw[e3];decide))|refine yo ?_)
  refine call_same (fn_unit s (k+6) h2 hs) [0] rfl (by (repeat first|exact trivial|refine ent1 ?_)) (by (repeat first|exact trivial|refine ent1 ?_)) (fun _ _=>trivial) ?_
  rintro x hs' (⟨q,g1,g2,rfl,rfl⟩|⟨g1,rfl,rfl⟩)
  ·rw [g1] at hC
   dsimp only at hC
   by_cases b1:q<56320
   ·have f1:decide ((q:Int)<56320)=true:=decide_eq_true (by omega)
    rw [if_pos (.inl b1)] at hC
    (repeat show _∧_;first|refine yr ?_|refine yt ?_|refine yf ?_|refine yt ?_ (by first|decide|(rw[f1];decide))|refine yf ?_ (by first|decide|(rw[f1];decide))|refine yo ?_)
    exact ⟨.tup [.c (.int .i32 0),.c (.int .i64 4)],_,⟨[0],⟨rfl,rfl,rfl⟩,by (repeat first|exact trivial|refine ent1 ?_)⟩,.inr ⟨4,0,k+6+6,hC,by decide,by omega,g2,rfl,rfl⟩⟩
   have f1:decide ((q:Int)<56320)=false:=decide_eq_false (by omega)
   by_cases b2:57343<q
   ·have f2:decide ((57343:Int)<(q:Int))=true:=decide_eq_true (by omega)
    rw [if_pos (.inr b2)] at hC
    (repeat show _∧_;first|refine yr ?_|refine yt ?_|refine yf ?_|refine yt ?_ (by first|decide|(rw[f1];decide)|(rw[f2];decide))|refine yf ?_ (by first|decide|(rw[f1];decide)|(rw[f2];decide))|refine yo ?_)
    exact ⟨.tup [.c (.int .i32 0),.c (.int .i64 4)],_,⟨[0],⟨rfl,rfl,rfl⟩,by (repeat first|exact trivial|refine ent1 ?_)⟩,.inr ⟨4,0,k+6+6,hC,by decide,by omega,g2,rfl,rfl⟩⟩
   have f2:decide ((57343:Int)<(q:Int))=false:=decide_eq_false (by omega)
   rw [if_neg (by omega)] at hC
   (repeat show _∧_;first|refine yr ?_|refine yt ?_|refine yf ?_|refine yt ?_ (by first|decide|(rw[f1];decide)|(rw[f2];decide))|refine yf ?_ (by first|decide|(rw[f1];decide)|(rw[f2];decide))|refine yo ?_)
   refine And.intro (show (10:Nat)<32∧-2147483648≤((r:Int)-55296)*2 ^ 10∧((r:Int)-55296)*2 ^ 10≤2147483647 by refine ⟨by decide,?_,?_⟩ <;> omega) ?_
   refine And.intro (show -2147483648≤65536+((r:Int)-55296)*2 ^ 10∧65536+((r:Int)-55296)*2 ^ 10≤2147483647 by constructor <;> omega) ?_
   (repeat show _∧_;first|refine yr ?_|refine yt ?_|refine yf ?_|refine yo ?_)
   refine And.intro (show -2147483648≤65536+((r:Int)-55296)*2 ^ 10+((q:Int)-56320)∧65536+((r:Int)-55296)*2 ^ 10+((q:Int)-56320)≤2147483647 by constructor <;> omega) ?_
   refine ⟨.tup [.c (.int .i32 ((65536+(r-55296)*1024+(q-56320):Nat):Int)),.c (.int .i64 0)],_,⟨[0],⟨rfl,rfl,rfl⟩,?_⟩,.inl ⟨_,k+6+6,hC,by omega,g2,rfl,rfl⟩⟩
   refine And.intro (congrArg (SC.int .i32) (pair_i32 (by omega) (by omega) (by omega) (by omega))) ?_
   (repeat first|exact trivial|refine ent1 ?_)
  ·rw [g1] at hC
   (repeat show _∧_;first|refine yr ?_|refine yt ?_|refine yf ?_|refine yo ?_)
   exact ⟨.tup [.c (.int .i32 0),.c (.int .i64 4)],_,⟨[0],⟨rfl,rfl,rfl⟩,by (repeat first|exact trivial|refine ent1 ?_)⟩,.inr ⟨4,0,k+6,hC,by decide,by omega,h2,rfl,rfl⟩⟩
 ·have hC:coded (s.drop k)=.bad 4:=by unfold coded; rw [h1]
  (repeat show _∧_;first|refine yr ?_|refine yt ?_|refine yf ?_|refine yo ?_)
  exact ⟨.tup [.c (.int .i32 0),.c (.int .i64 4)],_,⟨[0],⟨rfl,rfl,rfl⟩,by (repeat first|exact trivial|refine ent1 ?_)⟩,.inr ⟨4,0,k,hC,by decide,by omega,hk,rfl,rfl⟩⟩
theorem esc_short {s:Bs} {k:Nat} (h:s.length≤k+1):esc (s.drop k)=.bad 3:=by
 have hl:(s.drop k).length≤1:=by rw [List.length_drop]; omega
 generalize s.drop k=l at hl
 match l,hl with
 | [],_=>rfl
 | [_],_=>rfl
 | _::_::_,h=>simp at h
theorem esc_drop {s:Bs} {k:Nat} (h:k+1<s.length):esc (s.drop k)=match esc1 (L s (k+1)) with
  | some v=>.ok v (s.drop (k+2))
  | none=>if L s (k+1)=117#8 then coded (s.drop k) else .bad 4:=by
 have e:s.drop k=s[k]::L s (k+1)::s.drop (k+2):=by
  rw [List.drop_eq_getElem_cons (by omega:k<s.length),List.drop_eq_getElem_cons h,L_lt h]
 rw [e]
 unfold esc
 rfl
set_option maxRecDepth 20000 in
set_option maxHeartbeats 8000000 in
theorem fn_escape (s:Bs) (k:Nat) (hk:k<s.length) (hs:s.length≤1048576):Fn Tryd.prog tds 69 [psr s k] [.c (.p 0 0 0)] (fun _=>True) (RuneA s k (esc (s.drop k))):=by
 refine fn_of_body tds_ok follows_ Tryd.func69 rfl (t:=.a (.c (.p 0 0 0))::anys (Tryd.f69.ntmps-1)) rfl (fun w r0 hr0 _=>?_)
 obtain ⟨x0,rfl⟩:=len1' hr0
 by_cases hl:k+1<s.length
 rotate_left
 ·have el:decide ((((U8 s).length:Nat):Int)≤(k:Int)+1)=true:=decide_eq_true (by rw [U8_len]; omega)
  (repeat show _∧_;first|refine yr ?_|refine yt ?_|refine yf ?_|refine yo ?_)
  refine ⟨none,[],[(0,true),(1,true),(2,true),(3,true),(4,true),(5,true),(6,true),(7,true),(8,true),(9,true),(10,true)],[],by kernel_rfl,?_⟩
  (repeat show _∧_;first|refine yr ?_|refine yt ?_|refine yf ?_|refine yt ?_ (by first|decide|(rw[el];decide))|refine yf ?_ (by first|decide|(rw[el];decide))|refine yo ?_)
  exact ⟨.tup [.c (.int .i32 0),.c (.int .i64 3)],_,⟨[0],⟨rfl,rfl,rfl⟩,by (repeat first|exact trivial|refine ent1 ?_)⟩,.inr ⟨3,0,k,esc_short (by omega),by decide,by omega,by omega,rfl,rfl⟩⟩
 have el:decide ((((U8 s).length:Nat):Int)≤(k:Int)+1)=false:=decide_eq_false (by rw [U8_len]; omega)
 have hget:=U8_getI s k 1 hl
 have hE:=esc_drop hl
 (repeat show _∧_;first|refine yr ?_|refine yt ?_|refine yf ?_|refine yo ?_)
 refine ⟨none,[],[(0,true),(1,true),(2,true),(3,true),(4,true),(5,true),(6,true),(7,true),(8,true),(9,true),(10,true)],[],by kernel_rfl,?_⟩
 (repeat show _∧_;first|refine yr ?_|refine yt ?_|refine yf ?_|refine yt ?_ (by first|decide|(rw[el];decide))|refine yf ?_ (by first|decide|(rw[el];decide))|refine yo ?_)
 refine ⟨none,[],[(0,true),(1,true),(2,true),(3,true),(4,true),(5,true),(6,true),(7,true),(8,true),(9,true),(10,true)],[],by kernel_rfl,?_⟩
 (repeat show _∧_;first|refine yr ?_|refine yt ?_|refine yf ?_|refine yo ?_)
 refine And.intro ⟨by omega,by rw [U8_len]; omega⟩ ?_
 rw [show ((U8 s).getD ((k:Int)+1).toNat 0).toBitVec=L s (k+1) from hget]
 generalize L s (k+1)=c at hE
 by_cases c0:c=34#8
 ·have e0:decide (c=34#8)=true:=decide_eq_true c0
  have h1:esc1 c=some c.toNat:=by unfold esc1; rw [if_pos (by simp only [c0]; decide)]
  rw [h1] at hE
  (repeat show _∧_;first|refine yr ?_|refine yt ?_|refine yf ?_|refine yt ?_ (by first|decide|(rw[e0];decide))|refine yf ?_ (by first|decide|(rw[e0];decide))|refine yo ?_)
  exact ⟨.tup [.c (.int .i32 ((c.toNat:Nat):Int)),.c (.int .i64 0)],_,⟨[0],⟨rfl,rfl,rfl⟩,by (repeat first|exact trivial|refine ent1 ?_)⟩,.inl ⟨_,k+2,hE,by omega,by omega,rfl,rfl⟩⟩
 have e0:decide (c=34#8)=false:=decide_eq_false c0
 by_cases c1:c=92#8
 ·have e1:decide (c=92#8)=true:=decide_eq_true c1
  have h1:esc1 c=some c.toNat:=by unfold esc1; rw [if_pos (by simp only [c1]; decide)]
  rw [h1] at hE
  (repeat show _∧_;first|refine yr ?_|refine yt ?_|refine yf ?_|refine yt ?_ (by first|decide|(rw[e0];decide)|(rw[e1];decide))|refine yf ?_ (by first|decide|(rw[e0];decide)|(rw[e1];decide))|refine yo ?_)
  exact ⟨.tup [.c (.int .i32 ((c.toNat:Nat):Int)),.c (.int .i64 0)],_,⟨[0],⟨rfl,rfl,rfl⟩,by (repeat first|exact trivial|refine ent1 ?_)⟩,.inl ⟨_,k+2,hE,by omega,by omega,rfl,rfl⟩⟩
 have e1:decide (c=92#8)=false:=decide_eq_false c1
 by_cases c2:c=47#8
 ·have e2:decide (c=47#8)=true:=decide_eq_true c2
  have h1:esc1 c=some c.toNat:=by unfold esc1; rw [if_pos (by simp only [c2]; decide)]
  rw [h1] at hE
  (repeat show _∧_;first|refine yr ?_|refine yt ?_|refine yf ?_|refine yt ?_ (by first|decide|(rw[e0];decide)|(rw[e1];decide)|(rw[e2];decide))|refine yf ?_ (by first|decide|(rw[e0];decide)|(rw[e1];decide)|(rw[e2];decide))|refine yo ?_)
  exact ⟨.tup [.c (.int .i32 ((c.toNat:Nat):Int)),.c (.int .i64 0)],_,⟨[0],⟨rfl,rfl,rfl⟩,by (repeat first|exact trivial|refine ent1 ?_)⟩,.inl ⟨_,k+2,hE,by omega,by omega,rfl,rfl⟩⟩
 have e2:decide (c=47#8)=false:=decide_eq_false c2
 by_cases c3:c=98#8
 ·have e3:decide (c=98#8)=true:=decide_eq_true c3
  have h1:esc1 c=some 8:=by unfold esc1; subst c3; rfl
  rw [h1] at hE
  (repeat show _∧_;first|refine yr ?_|refine yt ?_|refine yf ?_|refine yt ?_ (by first|decide|(rw[e0];decide)|(rw[e1];decide)|(rw[e2];decide)|(rw[e3];decide))|refine yf ?_ (by first|decide|(rw[e0];decide)|(rw[e1];decide)|(rw[e2];decide)|(rw[e3];decide))|refine yo ?_)
  exact ⟨.tup [.c (.int .i32 ((8:Nat):Int)),.c (.int .i64 0)],_,⟨[0],⟨rfl,rfl,rfl⟩,by (repeat first|exact trivial|refine ent1 ?_)⟩,.inl ⟨_,k+2,hE,by omega,by omega,rfl,rfl⟩⟩
 have e3:decide (c=98#8)=false:=decide_eq_false c3
 by_cases c4:c=102#8
 ·have e4:decide (c=102#8)=true:=decide_eq_true c4
  have h1:esc1 c=some 12:=by unfold esc1; subst c4; rfl
  rw [h1] at hE
  (repeat show _∧_;first|refine yr ?_|refine yt ?_|refine yf ?_|refine yt ?_ (by first|decide|(rw[e0];decide)|(rw[e1];decide)|(rw[e2];decide)|(rw[e3];decide)|(rw[e4];decide))|refine yf ?_ (by first|decide|(rw[e0];decide)|(rw[e1];decide)|(rw[e2];decide)|(rw[e3];decide)|(rw[e4];decide))|refine yo ?_)
  exact ⟨.tup [.c (.int .i32 ((12:Nat):Int)),.c (.int .i64 0)],_,⟨[0],⟨rfl,rfl,rfl⟩,by (repeat first|exact trivial|refine ent1 ?_)⟩,.inl ⟨_,k+2,hE,by omega,by omega,rfl,rfl⟩⟩
 have e4:decide (c=102#8)=false:=decide_eq_false c4
 by_cases c5:c=110#8
 ·have e5:decide (c=110#8)=true:=decide_eq_true c5
  have h1:esc1 c=some 10:=by unfold esc1; subst c5; rfl
  rw [h1] at hE
  (repeat show _∧_;first|refine yr ?_|refine yt ?_|refine yf ?_|refine yt ?_ (by first|decide|(rw[e0];decide)|(rw[e1];decide)|(rw[e2];decide)|(rw[e3];decide)|(rw[e4];decide)|(rw[e5];decide))|refine yf ?_ (by first|decide|(rw[e0];decide)|(rw[e1];decide)|(rw[e2];decide)|(rw[e3];decide)|(rw[e4];decide)|(rw[e5];decide))|refine yo ?_)
  exact ⟨.tup [.c (.int .i32 ((10:Nat):Int)),.c (.int .i64 0)],_,⟨[0],⟨rfl,rfl,rfl⟩,by (repeat first|exact trivial|refine ent1 ?_)⟩,.inl ⟨_,k+2,hE,by omega,by omega,rfl,rfl⟩⟩
 have e5:decide (c=110#8)=false:=decide_eq_false c5
 by_cases c6:c=114#8
 ·have e6:decide (c=114#8)=true:=decide_eq_true c6
  have h1:esc1 c=some 13:=by unfold esc1; subst c6; rfl
  rw [h1] at hE
  (repeat show _∧_;first|refine yr ?_|refine yt ?_|refine yf ?_|refine yt ?_ (by first|decide|(rw[e0];decide)|(rw[e1];decide)|(rw[e2];decide)|(rw[e3];decide)|(rw[e4];decide)|(rw[e5];decide)|(rw[e6];decide))|refine yf ?_ (by first|decide|(rw[e0];decide)|(rw[e1];decide)|(rw[e2];decide)|(rw[e3];decide)|(rw[e4];decide)|(rw[e5];decide)|(rw[e6];decide))|refine yo ?_)
  exact ⟨.tup [.c (.int .i32 ((13:Nat):Int)),.c (.int .i64 0)],_,⟨[0],⟨rfl,rfl,rfl⟩,by (repeat first|exact trivial|refine ent1 ?_)⟩,.inl ⟨_,k+2,hE,by omega,by omega,rfl,rfl⟩⟩
 have e6:decide (c=114#8)=false:=decide_eq_false c6
 by_cases c7:c=116#8
 ·have e7:decide (c=116#8)=true:=decide_eq_true c7
  have h1:esc1 c=some 9:=by unfold esc1; subst c7; rfl
  rw [h1] at hE
  (repeat show _∧_;first|refine yr ?_|refine yt ?_|refine yf ?_|refine yt ?_ (by first|decide|(rw[e0];decide)|(rw[e1];decide)|(rw[e2];decide)|(rw[e3];decide)|(rw[e4];decide)|(rw[e5];decide)|(rw[e6];decide)|(rw[e7];decide))|refine yf ?_ (by first|decide|(rw[e0];decide)|(rw[e1];decide)|(rw[e2];decide)|(rw[e3];decide)|(rw[e4];decide)|(rw[e5];decide)|(rw[e6];decide)|(rw[e7];decide))|refine yo ?_)
  exact ⟨.tup [.c (.int .i32 ((9:Nat):Int)),.c (.int .i64 0)],_,⟨[0],⟨rfl,rfl,rfl⟩,by (repeat first|exact trivial|refine ent1 ?_)⟩,.inl ⟨_,k+2,hE,by omega,by omega,rfl,rfl⟩⟩
 have e7:decide (c=116#8)=false:=decide_eq_false c7
 have h1:esc1 c=none:=by
  unfold esc1
  rw [if_neg (fun h=>h.elim c0 fun h=>h.elim c1 c2),if_neg c3,if_neg c4,if_neg c5,if_neg c6,if_neg c7]
 rw [h1] at hE
 dsimp only at hE
 by_cases c8:c=117#8
 ·have e8:decide (c=117#8)=true:=decide_eq_true c8
  rw [if_pos c8] at hE
  (repeat show _∧_;first|refine yr ?_|refine yt ?_|refine yf ?_|refine yt ?_ (by first|decide|(rw[e0];decide)|(rw[e1];decide)|(rw[e2];decide)|(rw[e3];decide)|(rw[e4];decide)|(rw[e5];decide)|(rw[e6];decide)|(rw[e7];decide)|(rw[e8];decide))|refine yf ?_ (by first|decide|(rw[e0];decide)|(rw[e1];decide)|(rw[e2];decide)|(rw[e3];decide)|(rw[e4];decide)|(rw[e5];decide)|(rw[e6];decide)|(rw[e7];decide)|(rw[e8];decide))|refine yo ?_)
  refine call_same (fn_coded s k (by omega) hs) [0] rfl (by (repeat first|exact trivial|refine ent1 ?_)) (by (repeat first|exact trivial|refine ent1 ?_)) (fun _ _=>trivial) ?_
  rintro x hs' (⟨v,k',g1,g2,g3,rfl,rfl⟩|⟨e,v,k',g1,g0,g2,g3,rfl,rfl⟩)
  ·exact ⟨.tup [.c (.int .i32 (v:Int)),.c (.int .i64 0)],_,⟨[0],⟨rfl,rfl,rfl⟩,by (repeat first|exact trivial|refine ent1 ?_)⟩,.inl ⟨v,k',hE.trans g1,g2,g3,rfl,rfl⟩⟩
  ·exact ⟨.tup [.c (.int .i32 v),.c (.int .i64 e)],_,⟨[0],⟨rfl,rfl,rfl⟩,by (repeat first|exact trivial|refine ent1 ?_)⟩,.inr ⟨e,v,k',hE.trans g1,g0,g2,g3,rfl,rfl⟩⟩
 ·have e8:decide (c=117#8)=false:=decide_eq_false c8
  rw [if_neg c8] at hE
  (repeat show _∧_;first|refine yr ?_|refine yt ?_|refine yf ?_|refine yt ?_ (by first|decide|(rw[e0];decide)|(rw[e1];decide)|(rw[e2];decide)|(rw[e3];decide)|(rw[e4];decide)|(rw[e5];decide)|(rw[e6];decide)|(rw[e7];decide)|(rw[e8];decide))|refine yf ?_ (by first|decide|(rw[e0];decide)|(rw[e1];decide)|(rw[e2];decide)|(rw[e3];decide)|(rw[e4];decide)|(rw[e5];decide)|(rw[e6];decide)|(rw[e7];decide)|(rw[e8];decide))|refine yo ?_)
  exact ⟨.tup [.c (.int .i32 0),.c (.int .i64 4)],_,⟨[0],⟨rfl,rfl,rfl⟩,by (repeat first|exact trivial|refine ent1 ?_)⟩,.inr ⟨4,0,k,hE,by decide,by omega,by omega,rfl,rfl⟩⟩
end Sx
end
end Go.Proofs.YtnehmcpkeamghaaDoor
