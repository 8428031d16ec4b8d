/- BtreeCommits returns true, for every input. It has no condition; the table of math/bits that its row lists is tied to the program. -/
import Derived.Test.YtpkkcicaeldodaaGreatDoorMgCommits7
import Derived.Sort.LoopGhostIn
import Derived.Test.YtpkkcicaeldodaaGreatDoorRows
import Derived.Test.YtpkkcicaeldodaaGreatDoorTie
import Derived.Test.YtpkkcicaeldodaaGreatDoorCards
import Derived.Lib.LaidTab
import Derived.LaidLaws
import Derived.LaidHandle
import Derived.SevenTiedAt
import Derived.ProofKit
import Derived.OpenShut
import Derived.ShutString
import Derived.ChangeOld
import Derived.Deep.Slices
import Derived.Deep.Fields
import Derived.ChangeShapes
set_option linter.unusedSimpArgs false
set_option linter.unusedVariables false
set_option maxRecDepth 100000
set_option maxHeartbeats 6400000
open Go.Proofs.Tryz
namespace Go.Proofs.YtpkkcicaeldodaaGreatDoor
section
open Go.RowKit Go.Maps
def grD:Nat→Nat→List Int→Option (Nat×Nat)
 | _,_,[]=>none
 | k,u,c :: r=>if k=10 then none else if k=9∧1< c.toNat % 128 then none else
   if c.toNat< 128 then(if 0< k∧c.toNat=0 then none else some (k+1,u+c.toNat % 128*128 ^ k)) else grD (k+1) (u+c.toNat % 128*128 ^ k) r
theorem grD_grp:∀ (f u k a:Nat) (r:List Int),u< 128 ^ f→k+f≤9→(k=0∨0< u)→grD k a (grp u++r)=some (k+(grp u).length,a+u*128 ^ k)
 | 0,u,k,a,r,h,hk,h0=>by
  have:u=0:=by simpa using h
  subst this;obtain rfl:k=0:=by omega
  rw[grp_small (by omega)]
  simp[grD]
 | f+1,u,k,a,r,h,hk,h0=>by
  by_cases hu:u< 128
  ·rw[grp_small hu]
   simp only[List.singleton_append,grD,List.length_singleton];rw[if_neg (by omega),if_neg (by omega),if_pos (by omega),if_neg (by omega)];rw[Int.toNat_natCast,Nat.mod_eq_of_lt hu]
  ·rw[grp_more (by omega)]
   simp only[List.cons_append,grD,List.length_cons];rw[Int.toNat_natCast,if_neg (by omega),if_neg (by omega),if_neg (by omega)];have e1:(u % 128+128) % 128=u % 128:=by omega
   rw[e1,grD_grp f (u / 128) (k+1) _ r (by rw[Nat.div_lt_iff_lt_mul (by omega),←Nat.pow_succ];exact h) (by omega) (.inr (by omega))]
   have e2:a+u % 128*128 ^ k+u / 128*128 ^ (k+1)=a+u*128 ^ k:=by
    rw[Nat.pow_succ,Nat.mul_comm (128 ^ k) 128,←Nat.mul_assoc,Nat.add_assoc,←Nat.add_mul];congr 2
    omega
   rw[e2];congr 2
   omega
theorem grD_lt:∀ (bs:List Int) (k u n v:Nat),grD k u bs=some (n,v)→k≤10→k< n∧n≤k+bs.length∧n≤10
 | [],k,u,n,v,h,_=>by cases h
 | c :: r,k,u,n,v,h,hk=>by
  unfold grD at h;split at h
  ·cases h
  ·split at h
   ·cases h
   ·split at h
    ·split at h
     ·cases h
     ·simp at h
      simp only[List.length_cons];omega
    ·have:=grD_lt r (k+1) _ n v h (by omega)
     simp only[List.length_cons];omega
theorem and128:∀k:Fin 256,bits BinOp.andNot IntKind.u8 ((k.1:Nat):Int) 128=((k.1 % 128:Nat):Int):=by decide+kernel
theorem pow128 (k:Nat):2 ^ (7*k)=128 ^ k:=by rw[Nat.pow_mul]
theorem grp_or {u p k:Nat} (hu:u< 128 ^ k) (hp:p< 128) (hk:k≤9) (h9:k=9→p≤1) :
  bits BinOp.or IntKind.u64 (u:Int) (((p:Nat):Int)*9223372036854775808)=(if k=9 then((u+p*128 ^ k:Nat):Int) else bits BinOp.or IntKind.u64 (u:Int) (((p:Nat):Int)*9223372036854775808))∧
   bits BinOp.or IntKind.u64 (u:Int) (IntKind.u64.wrap (((p:Nat):Int)*2 ^ (7*k)))=((u+p*128 ^ k:Nat):Int)∧u+p*128 ^ k< 128 ^ (k+1)∧(k=0→bits BinOp.or IntKind.u64 (u:Int) ((p:Nat):Int)=((u+p*128 ^ k:Nat):Int)):=by
 have h1:u+p*128 ^ k< 128 ^ (k+1):=by
  rw[Nat.pow_succ];have:(p+1)*128 ^ k≤128*128 ^ k:=Nat.mul_le_mul_right _ (by omega);rw[Nat.add_mul,Nat.one_mul] at this;omega
 have h2:u+p*128 ^ k< 18446744073709551616:=by
  by_cases e:k=9
  ·subst e
   have:=h9 rfl;have:p*128 ^ 9≤1*128 ^ 9:=Nat.mul_le_mul_right _ this;omega
  ·have:128 ^ (k+1)≤128 ^ 9:=Nat.pow_le_pow_right (by omega) (by omega)
   omega
 have h3:u ||| p*128 ^ k=u+p*128 ^ k:=by
  have:=Nat.two_pow_add_eq_or_of_lt (i:=7*k) (b:=u) (by rw[pow128];exact hu) p;rw[pow128,Nat.mul_comm (128 ^ k) p] at this;rw[Nat.or_comm,Nat.add_comm];exact this.symm
 have h4:bits BinOp.or IntKind.u64 (u:Int) ((p*128 ^ k:Nat):Int)=((u+p*128 ^ k:Nat):Int):=by
  rw[bits_or_u64_nat u (p*128 ^ k) (by omega) (by omega),h3]
 refine⟨?_,?_,h1,fun e=>by subst e;simpa using h4⟩
 ·split
  ·rename_i e
   subst e;exact h4
  ·rfl
 ·have e:((p:Nat):Int)*2 ^ (7*k)=((p*128 ^ k:Nat):Int):=by rw[←pow128];simp
  rw[e,IntKind.wrap_u64,Int.emod_eq_of_lt (by omega) (by omega)];exact h4
structure InIs (w:World) (o:Nat) (bs:List Int) (bad:Bool) (A:Option Addr) (c:Nat):Prop where
 blk:Blk w o 200 #[.slice A bs.length c,.bool bad]
 sl:Sl w 1 A bs.length (bv bs)
 byt:∀q∈bs,0≤q∧q≤255
 ne:∀a,A=some a→a.block≠o∧a.block< w.heap.size
 len:bs.length≤100000∧bs.length≤c
theorem groups_any (o:Nat) (bs:List Int) (bad:Bool) (A:Option Addr) (c:Nat) (w:World) (h:InIs w o bs bad A c) :
  Calls prog 167 #[.pointer (some ⟨o,0,none⟩)] w fun e w'=>e= .returned (.tuple #[.int .i64 (((grD 0 0 bs).getD (0,0)).1:Nat),.int .u64 (((grD 0 0 bs).getD (0,0)).2:Nat)])∧w'=w:=by
 obtain⟨c0,f0,s0⟩:=h.blk.facts;have H:=yH (yA h.sl h.byt);obtain⟨hl1,hl2⟩:=h.len;obtain⟨G,hG⟩:∃G,grD 0 0 bs=G:=⟨_,rfl⟩;rw[hG];have HG0:=yH hG;clear h hG;go_enter func167,ntmps167
 go_wp2_with fail
 clear c0 f0 s0;go_loopg [4,13] (bs.length) (fun n uv iv wr=>∃ (k u:Nat),n=bs.length - k∧k≤bs.length∧k≤10∧uv= .int .u64 u∧iv= .int .i64 k∧G=grD k u (bs.drop k)∧u< 128 ^ k∧w=wr)
 case atStart=>exact⟨0,0,rfl,Nat.zero_le _,by omega,rfl,rfl,HG0.out.symm,by simp,rfl⟩
 case round=>
  obtain⟨k,u,rfl,hk,hk10,rfl,rfl,hg,hu,rfl⟩:=hrel;by_cases hlt:k< bs.length
  ·obtain⟨b,hb⟩:∃b,bs[k]? =some b:=⟨_,List.getElem?_eq_getElem hlt⟩
   have hbb:=H.out.2 b (List.mem_of_getElem? hb);obtain⟨b',rfl⟩:=Int.eq_ofNat_of_zero_le hbb.1;obtain⟨g,off,rfl,hgl,hx⟩:=H.out.1.2 (by omega);have hck:w.cell? ⟨g,off+k,none⟩=some (.int .u8 (b':Nat)):=hx k _ (by simp[bv,hb])
   have hd:bs.drop k=((b':Nat):Int) :: bs.drop (k+1):=by
    rw[List.drop_eq_getElem_cons hlt];congr 1
    have:=List.getElem?_eq_getElem hlt;rw[hb] at this;injection this with this;exact this.symm
   have han:=and128 ⟨b',by omega⟩;rw[hd] at hg;unfold grD at hg;rw[Int.toNat_natCast] at hg;have HG:=yH (yA hg hu);have hkI:(k:Int)< (bs.length:Int):=by omega
   clear hx hgl hb hd hg hu;by_cases h10:k=10
   ·subst h10
    rw[if_pos rfl] at HG;obtain⟨rfl, -⟩:=HG.out;go_wp2_with fail
    go_ret2
    exact⟨rfl,rfl⟩
   rw[if_neg h10] at HG;have k9:(k:Int)≤9:=by omega
   have t10:((k:Int)==10)=false:=by simpa using (by omega:¬ (k:Int)=10)
   by_cases h9:k=9∧1< b' % 128
   ·rw[if_pos h9] at HG
    obtain⟨rfl, -⟩:=HG.out;obtain⟨rfl,h91⟩:=h9;have h91I:(1:Int)< (b':Int) % 128:=by omega
    go_wp2_with fail
    go_ret2
    exact⟨rfl,rfl⟩
   rw[if_neg h9] at HG;obtain⟨V,hV⟩:∃V,u+b' % 128*128 ^ k=V:=⟨_,rfl⟩;rw[hV] at HG;have hgv:=grp_or HG.out.2 (Nat.mod_lt b' (by omega)) (by omega:k≤9) fun e=>by by_cases e1:1< b' % 128;exact absurd ⟨e,e1⟩ h9;omega
   rw[hV] at hgv;have HV:=yH hgv.2.2.1;have hor0:=hgv.2.2.2;have hbm:((b':Int) % 128)=((b' % 128:Nat):Int):=by omega
   have hcase:(k=9∧b' % 128≤1)∨k< 9:=by omega
   have hor9:=hgv.1;have hor8:=hgv.2.1;rw[←hbm] at hor9 hor8 hor0;clear hgv hbm hV;by_cases hb:b'< 128
   ·rw [if_pos hb] at HG
    have hbI:(b':Int)< 128:=by omega
    by_cases h0:0< k∧b'=0
    ·rw[if_pos h0] at HG
     obtain⟨rfl, -⟩:=HG.out;obtain⟨h01,rfl⟩:=h0;have h01I:(0:Int)< (k:Int):=by omega
     rcases hcase with ⟨rfl,h91⟩ | h8
     ·rw[if_pos rfl] at hor9
      go_wp2_with fail
      go_ret2
      exact⟨rfl,rfl⟩
     ·have t9:((k:Int)==9)=false:=by simpa using (by omega:¬ (k:Int)=9)
      clear hor9;go_wp2_with fail
      go_ret2
      exact⟨rfl,rfl⟩
    ·rw[if_neg h0] at HG
     obtain⟨rfl, -⟩:=HG.out;have h0c:k=0∨(0< k∧b'≠0):=by omega
     rcases h0c with rfl | ⟨h01,h02⟩
     ·replace hor0:=hor0 rfl
      rw[Nat.add_zero] at hck;clear hor9 hor8;go_wp2_with fail
      go_ret2
      exact⟨rfl,rfl⟩
     ·have h01I:(0:Int)< (k:Int):=by omega
      have h02I:((b':Int)==0)=false:=by simpa using h02
      rcases hcase with ⟨rfl,h91⟩ | h8
      ·have h91I:¬ (1:Int)< (b':Int) % 128:=by omega
       rw[if_pos rfl] at hor9;go_wp2_with fail
       go_ret2
       exact⟨rfl,rfl⟩
      ·have t9:((k:Int)==9)=false:=by simpa using (by omega:¬ (k:Int)=9)
       clear hor9;go_wp2_with fail
       go_ret2
       exact⟨by simp,rfl⟩
   ·rw[if_neg hb] at HG
    have hbI:¬ (b':Int)< 128:=by omega
    rcases hcase with ⟨rfl,h91⟩ | h8
    ·have h91I:¬ (1:Int)< (b':Int) % 128:=by omega
     rw[if_pos rfl] at hor9;go_wp2_with fail
     go_roundg (bs.length - (9+1))
     case measure=>omega
     case rel=>exact⟨10,V,rfl,by omega,by omega,rfl,rfl,HG.out.1,HV.out,rfl⟩
    ·have t9:((k:Int)==9)=false:=by simpa using (by omega:¬ (k:Int)=9)
     clear hor9;go_wp2_with fail
     go_roundg (bs.length - (k+1))
     case measure=>omega
     case rel=>exact⟨k+1,V,rfl,by omega,by omega,rfl,by simp,HG.out.1,HV.out,rfl⟩
  ·obtain rfl:k=bs.length:=by omega
   rw[List.drop_of_length_le (Nat.le_refl _)] at hg;simp only[grD] at hg;subst hg;clear hu hlt;go_wp2_with fail
   go_ret2
   exact⟨rfl,rfl⟩
end
section
open Go.RowKit Go.Maps
theorem xor_none (a:Nat) (h:a< 9223372036854775808):bits BinOp.xor IntKind.i64 (a:Int) 0=(a:Int):=by
 have h1:(BitVec.ofInt 64 (a:Int)).toNat=a:=by rw[BitVec.ofInt_natCast,BitVec.toNat_ofNat];exact Nat.mod_eq_of_lt (by omega)
 show IntKind.i64.wrap ((BitVec.ofInt 64 (a:Int) ^^^ BitVec.ofInt 64 0).toNat:Int)=_;rw[BitVec.toNat_xor,h1,show(BitVec.ofInt 64 0).toNat=0 from rfl,Nat.xor_zero];exact wrap_nat (by omega)
def backI (u:Nat):Int:=if u % 2=0 then(u / 2:Nat) else bits BinOp.xor IntKind.i64 ((u / 2:Nat):Int) (-1)
theorem back_any (u:Nat) (w:World) (hu:u< 18446744073709551616) :
  Calls prog 170 #[.int .u64 u] w fun e w'=>e= .returned (.int .i64 (backI u))∧w=w':=by
 have h1:IntKind.i64.wrap ((u:Int) / 2)=((u / 2:Nat):Int):=by rw[show(u:Int) / 2=((u / 2:Nat):Int) by omega];exact wrap_nat (by omega)
 have h2:bits BinOp.and IntKind.u64 (u:Int) 1=((u % 2:Nat):Int):=by
  have:=bits_and_u64_nat u 1 (by omega) (by omega);rw[Nat.and_one_is_mod] at this;exact this
 have H:=yH (yA h1 h2);clear h1 h2;have h0:u % 2=0∨u % 2=1:=by omega
 go_enter func170,ntmps170
 go_wp2
 have h3:(u:Int) / 2=((u / 2:Nat):Int):=by omega
 rcases h0 with h0 | h0
 ·rw[H.out.2,h0,show wrap64 (-wrap64 ((0:Nat):Int))=0 from by decide+kernel,h3,xor_none _ (by omega)]
  go_ret
  unfold backI;rw[if_pos h0];exact⟨rfl,rfl⟩
 ·rw[H.out.2,h0,show wrap64 (-wrap64 ((1:Nat):Int))= -1 from by decide+kernel,h3]
  go_ret
  unfold backI;rw[if_neg (by omega)];exact⟨rfl,rfl⟩
def intI (bs:List Int) (bad:Bool):Int×List Int×Bool:=match grD 0 0 bs with
 | none=>(0,[],true)
 | some (n,u)=>(backI u,bs.drop n,bad)
def withI (lo hi:Int) (bs:List Int) (bad:Bool):Int×List Int×Bool:=
 if (intI bs bad).2.2=true∨(intI bs bad).1< lo∨hi< (intI bs bad).1 then(0,[],true) else intI bs bad
def loopI:Nat→List Int→List Int→Bool→List Int×List Int×Bool
 | 0,out,bs,bad=>(out,bs,bad)
 | n+1,out,bs,bad=>if (intI bs bad).2.2=true then([],(intI bs bad).2.1,true) else loopI n (out++[(intI bs bad).1]) (intI bs bad).2.1 false
theorem grD_u:∀ (bs:List Int) (k u n v:Nat),grD k u bs=some (n,v)→k≤10→u< 128 ^ k→(∀q∈bs,0≤q∧q≤255)→v< 18446744073709551616
 | [],k,u,n,v,h,_,_,_=>by cases h
 | c :: r,k,u,n,v,h,hk,hu,hb=>by
  unfold grD at h;split at h
  ·cases h
  ·rename_i h10
   split at h
   ·cases h
   ·rename_i h9
    have hV:=(grp_or hu (Nat.mod_lt c.toNat (by omega)) (by omega:k≤9) fun e=>by by_cases e1:1< c.toNat % 128;exact absurd ⟨e,e1⟩ h9;omega).2.2.1;split at h
    ·split at h
     ·cases h
     ·simp at h
      by_cases e:k=9
      ·subst e
       have:c.toNat % 128≤1:=by by_cases e1:1< c.toNat % 128;exact absurd ⟨rfl,e1⟩ h9;omega
       have:c.toNat % 128*128 ^ 9≤1*128 ^ 9:=Nat.mul_le_mul_right _ this;omega
      ·have:128 ^ (k+1)≤128 ^ 9:=Nat.pow_le_pow_right (by omega) (by omega)
       omega
    ·exact grD_u r (k+1) _ n v h (by omega) hV fun q hq=>hb q (List.mem_cons_of_mem _ hq)
def InTo (w w':World) (o:Nat) (A0:Option Addr) (bs:List Int) (bad:Bool):Prop:=∃A c,InIs w' o bs bad A c∧Chg (fun j=>j=o) w w'∧(bad=true→bs=[])∧∀a,A=some a→∃a0,A0=some a0∧a0.block=a.block
section
variable {w W W':World} {o:Nat} {bs bs':List Int} {bad bad':Bool} {A A':Option Addr} {c c':Nat}
theorem InIs.grew (h:InIs W o bs bad A c) (hc:Grew W W'):InIs W' o bs bad A c:=⟨h.blk.grew hc,h.sl.grew hc,h.byt,fun a ha=>⟨(h.ne a ha).1,Nat.lt_of_lt_of_le (h.ne a ha).2 hc.size⟩,h.len⟩
end
theorem fails_any (o:Nat) (bs:List Int) (bad:Bool) (A:Option Addr) (c:Nat) (w:World) (h:InIs w o bs bad A c) :
  Calls prog 168 #[.pointer (some ⟨o,0,none⟩)] w fun e w'=>e= .returned (.tuple #[])∧InTo w w' o A [] true:=by
 obtain⟨c0,f0,s0⟩:=h.blk.facts;have H:=yH h;clear h;go_enter func168,ntmps168
 go_wp2
 obtain⟨W1,hW1⟩:∃W,(w.setCell ⟨o,1,none⟩ (.bool true)).setCell ⟨o,0,none⟩ (.slice none 0 0)=W:=⟨_,rfl⟩;rw[hW1];have hc1:Chg (fun j=>j=o) w W1:=hW1▸((Chg.refl (fun j=>j=o) w).setCell (p:=⟨o,1,none⟩) (fun _=>rfl) _).setCell (p:=⟨o,0,none⟩) (fun _=>rfl) _
 have hb1:Blk W1 o 200 #[.slice none 0 0,.bool true]:=by
  have:=(H.out.blk.put 1 (.bool true)).put 0 (.slice none 0 0);rw[hW1] at this;simpa using this
 have H1:=yH (yA hc1 hb1);clear hW1 hc1 hb1 c0 f0 s0;refine bodyPost_end (results_none rfl _ _ _) rfl ?_;exact⟨rfl,none,0,⟨H1.out.2,Sl.nil _ _ _,(fun q hq=>by cases hq),(fun a ha=>by cases ha),by simp⟩,H1.out.1,(fun _=>rfl),fun a ha=>by cases ha⟩
end
section
open Go.RowKit Go.Maps
theorem InIs.cut {w W:World} {o n c':Nat} {bs:List Int} {A A':Option Addr} {c:Nat} (h:InIs w o bs false A c) (hA:∀a,A'=some a→a.block≠o∧a.block< w.heap.size) (hA0:∀a,A'=some a→∃a0,A=some a0∧a0.block=a.block) (hsl:Sl w 1 A' (bs.length - n) (bv (bs.drop n))) (hc:bs.length - n≤c')
  (hW:w.setCell ⟨o,0,none⟩ (.slice A' (bs.length - n) c')=W):InTo w W o A (bs.drop n) false:=by
 have hc1:Chg (fun j=>j=o) w W:=hW▸(Chg.refl (fun j=>j=o) w).setCell (p:=⟨o,0,none⟩) (fun _=>rfl) _;refine⟨A',c',⟨?_,?_,fun q hq=>h.byt q (List.mem_of_mem_drop hq),fun a ha=>⟨(hA a ha).1,Nat.lt_of_lt_of_le (hA a ha).2 hc1.size⟩,?_⟩,hc1,(fun e=>by cases e),hA0⟩
 ·have:=h.blk.put 0 (.slice A' (bs.length - n) c')
  rw[hW] at this;rw[List.length_drop];simpa using this
 ·rw[List.length_drop]
  exact hsl.chg hc1 fun a ha=>(hA a ha).1
 ·rw[List.length_drop]
  have:=h.len;omega
theorem itake_any (o n:Nat) (bs:List Int) (A:Option Addr) (c:Nat) (w:World) (h:InIs w o bs false A c) (hn:n≤bs.length) (hp:0< n) :
  Calls prog 169 #[.pointer (some ⟨o,0,none⟩),.int .i64 n] w fun e w'=>(∃v,e= .returned v)∧InTo w w' o A (bs.drop n) false:=by
 obtain⟨c0,f0,s0⟩:=h.blk.facts;have H:=yH h;obtain⟨hl1,hl2⟩:=h.len;obtain⟨g,off,rfl,hg,hx⟩:=h.sl.2 (by omega);have hne:=h.ne _ rfl
 have hs2:Sl w 1 (some ⟨g,off+n,none⟩) (bs.length - n) (bv (bs.drop n)):=⟨by simp[bv],fun _=>⟨g,off+n,rfl,hg,fun j u hu=>by
  have:(bv bs)[n+j]? =some u:=by rw[←hu];simp[bv,List.getElem?_drop]
  have:=hx (n+j) u this;rwa[←Nat.add_assoc] at this⟩⟩
 have HX:=yH (yA hne hs2);have i1:¬ (bs.length:Int)< (n:Int):=by omega
 have i2:(n:Int)≤(c:Int):=by omega
 have i3:(n:Int)≤(bs.length:Int):=by omega
 clear h hg hx hne hs2;go_enter func169,ntmps169
 go_wp2_with fail
 ·refine bodyPost_ret (by simp[results,results169,go_sem];rfl) rfl ?_
  exact⟨⟨_,rfl⟩,H.out.cut (fun a ha=>by cases ha;exact HX.out.1) (fun a ha=>by cases ha;exact⟨_,rfl,rfl⟩) (by rw[show bs.length - n=0 by omega,List.drop_of_length_le (by omega)];exact Sl.nil _ _ _) (by omega) rfl⟩
 ·refine bodyPost_ret (by simp[results,results169,go_sem];rfl) rfl ?_
  exact⟨⟨_,rfl⟩,H.out.cut (fun a ha=>by cases ha;exact HX.out.1) (fun a ha=>by cases ha;exact⟨_,rfl,rfl⟩) HX.out.2 (by omega) rfl⟩
theorem iint_any (o:Nat) (bs:List Int) (bad:Bool) (A:Option Addr) (c:Nat) (w:World) (h:InIs w o bs bad A c) (hbad:bad=true→bs=[]) :
  Calls prog 145 #[.pointer (some ⟨o,0,none⟩)] w fun e w'=>e= .returned (.int .i64 (intI bs bad).1)∧InTo w w' o A (intI bs bad).2.1 (intI bs bad).2.2:=by
 have hgr:=groups_any o bs bad A c w h;unfold intI
 cases hG:grD 0 0 bs with
 | none=>
  rw[hG] at hgr;have H:=yH (yA (show Calls prog 167 #[.pointer (some ⟨o,0,none⟩)] w fun e w'=>e= .returned (.tuple #[.int .i64 0,.int .u64 0])∧w'=w from hgr) (fails_any o bs bad A c w h));clear hgr h hG hbad;go_enter func145,ntmps145
  go_wp2_with fail
  refine H.out.1.mono ?_;rintro e w1 ⟨rfl,rfl⟩;go_wp2_with fail
  refine H.out.2.mono ?_;rintro e w2 ⟨rfl,h2⟩;have H2:=yH h2;clear h2;go_wp2_with fail
  go_ret
  exact⟨rfl,H2.out⟩
 | some nu=>
  obtain⟨n,u⟩:=nu;rw[hG] at hgr
  have hb:bad=false:=by
   cases bad with
   | false=>rfl
   | true=>rw[hbad rfl] at hG;cases hG
  subst hb;have hn:=grD_lt bs 0 0 n u hG (by omega);have hu:=grD_u bs 0 0 n u hG (by omega) (by simp) h.byt;have H:=yH (yA (show Calls prog 167 #[.pointer (some ⟨o,0,none⟩)] w fun e w'=>e= .returned (.tuple #[.int .i64 n,.int .u64 u])∧w'=w from hgr) (itake_any o n bs A c w h (by omega) hn.1));have hn0:((n:Int)==0)=false:=by simpa using (by omega:¬n=0)
  clear hgr h hG hbad;go_enter func145,ntmps145
  go_wp2_with fail
  refine H.out.1.mono ?_;rintro e w1 ⟨rfl,rfl⟩;go_wp2_with fail
  refine H.out.2.mono ?_;rintro e w2 ⟨⟨v,rfl⟩,h2⟩;have H2:=yH h2;clear h2;go_wp2_with fail
  refine(back_any u w2 hu).mono ?_;rintro e w3 ⟨rfl,rfl⟩;go_wp2_with fail
  go_ret
  exact⟨rfl,H2.out⟩
theorem intI_bad {bs:List Int} {bad:Bool} (hb:bad=true→bs=[]):(intI bs bad).2.2=true→(intI bs bad).2.1=[]:=by
 unfold intI
 cases hG:grD 0 0 bs with
 | none=>intro _;rfl
 | some nu=>
  intro h;simp only at h;rw[hb h] at hG
  cases hG
theorem iwithin_any (o:Nat) (lo hi:Int) (bs:List Int) (bad:Bool) (A:Option Addr) (c:Nat) (w:World) (h:InIs w o bs bad A c) (hbad:bad=true→bs=[]) :
  Calls prog 171 #[.pointer (some ⟨o,0,none⟩),.int .i64 lo,.int .i64 hi] w fun e w'=>e= .returned (.int .i64 (withI lo hi bs bad).1)∧InTo w w' o A (withI lo hi bs bad).2.1 (withI lo hi bs bad).2.2:=by
 have hint:=iint_any o bs bad A c w h hbad;unfold withI;obtain⟨v,hv⟩:∃v,(intI bs bad).1=v:=⟨_,rfl⟩;obtain⟨b2,hb2⟩:∃v,(intI bs bad).2.1=v:=⟨_,rfl⟩;obtain⟨d2,hd2⟩:∃v,(intI bs bad).2.2=v:=⟨_,rfl⟩;rw[hv,hb2,hd2] at hint;rw[hv,hd2];have H:=yH hint;have HV:=yH (yA3 hv hb2 hd2);clear hint h hbad hv hb2 hd2;by_cases hc:d2=true∨v< lo∨hi< v
 ·rw[if_pos hc]
  have hcs:d2=true∨(d2=false∧v< lo)∨(d2=false∧¬v< lo∧hi< v):=by
   cases d2 with
   | true=>exact .inl rfl
   | false=>
    by_cases a:v< lo
    ·exact .inr (.inl ⟨rfl,a⟩)
    ·exact .inr (.inr ⟨rfl,a,(hc.resolve_left (by simp)).resolve_left a⟩)
  clear hc HV;rcases hcs with rfl | ⟨rfl,h1⟩ | ⟨rfl,h1,h2⟩
  all_goals
   go_enter func171,ntmps171
   go_wp2_with fail
   refine H.out.mono ?_;rintro e w1 ⟨rfl,A1,c1,hi1,hc1, -,hs1⟩;have hf:=fails_any o _ _ A1 c1 w1 hi1;obtain⟨c0,f0,s0⟩:=hi1.blk.facts;have H1:=yH (yA3 hf hc1 hs1);clear hf hc1 hi1 hs1;go_wp2_with fail
   refine H1.out.1.mono ?_;rintro e w2 ⟨rfl,A2,c2,hi2,hc2,hb2,hs2⟩;have H2:=yH (yA3 hi2 hc2 hs2);clear hi2 hc2 hb2 hs2 c0 f0 s0;go_wp2_with fail
   go_ret
   exact⟨rfl,A2,c2,H2.out.1,Chg.trans H1.out.2.1 H2.out.2.1 fun _ _ e=>e,(fun _=>rfl),fun a ha=>by
    obtain⟨a1,e1,e2⟩:=H2.out.2.2 a ha;obtain⟨a0,e3,e4⟩:=H1.out.2.2 a1 e1;exact⟨a0,e3,e4.trans e2⟩⟩
 ·rw[if_neg hc]
  have hd:d2=false:=by cases d2 with | false=>rfl | true=>exact absurd (.inl rfl) hc
  subst hd;have h1:¬v< lo:=fun e=>hc (.inr (.inl e));have h2:¬hi< v:=fun e=>hc (.inr (.inr e));rw[HV.out.1,HV.out.2.1,HV.out.2.2];clear hc;go_enter func171,ntmps171
  go_wp2_with fail
  refine H.out.mono ?_;rintro e w1 ⟨rfl,hto⟩;obtain⟨A1,c1,hi1, -⟩:=id hto;obtain⟨c0,f0,s0⟩:=hi1.blk.facts;have H1:=yH hto;clear hi1 hto;go_wp2_with fail
  go_ret
  exact⟨rfl,H1.out⟩
theorem idone_any (o:Nat) (bs:List Int) (bad:Bool) (A:Option Addr) (c:Nat) (w:World) (h:InIs w o bs bad A c) :
  Calls prog 147 #[.pointer (some ⟨o,0,none⟩)] w fun e w'=>e= .returned (.bool (!bad && decide (bs=[])))∧w=w':=by
 obtain⟨c0,f0,s0⟩:=h.blk.facts;have hl:=h.len;clear h
 cases bad with
 | true=>
  go_enter func147,ntmps147
  go_wp2_with fail
  go_ret
  exact⟨rfl,rfl⟩
 | false=>
  by_cases hb:bs=[]
  ·subst hb
   go_enter func147,ntmps147
   go_wp2_with fail
   go_ret
   exact⟨rfl,rfl⟩
  ·have h0:((bs.length:Int)==0)=false:=by
    have:bs.length≠0:=fun e=>hb (List.eq_nil_of_length_eq_zero e);simpa using hb
   have hd:decide (bs=[])=false:=decide_eq_false hb;rw[hd];go_enter func147,ntmps147
   go_wp2_with fail
   go_ret
   exact⟨rfl,rfl⟩
end
section
open Go.RowKit Go.Maps
theorem InIs.far {F:Nat→Prop} {W W':World} {o:Nat} {bs:List Int} {bad:Bool} {A:Option Addr} {c:Nat} (h:InIs W o bs bad A c) (hc:Chg F W W') (ho:¬F o) (hA:∀a,A=some a→¬F a.block):InIs W' o bs bad A c:=
 ⟨h.blk.chg hc ho,h.sl.chg hc hA,h.byt,fun a ha=>⟨(h.ne a ha).1,Nat.lt_of_lt_of_le (h.ne a ha).2 hc.size⟩,h.len⟩
def intsI (bs:List Int) (bad:Bool):List Int×List Int×Bool:=loopI (withI 0 64 bs bad).1.toNat [] (withI 0 64 bs bad).2.1 (withI 0 64 bs bad).2.2
theorem withI_bad {lo hi:Int} {bs:List Int} {bad:Bool} (hb:bad=true→bs=[]):(withI lo hi bs bad).2.2=true→(withI lo hi bs bad).2.1=[]∧(withI lo hi bs bad).1=0:=by
 unfold withI;split
 ·intro _;exact⟨rfl,rfl⟩
 ·rename_i h
  intro e;exact absurd (.inl e) h
theorem withI_in {bs:List Int} {bad:Bool}:0≤(withI 0 64 bs bad).1∧(withI 0 64 bs bad).1≤64:=by
 unfold withI;split
 ·simp
 ·rename_i h
  have h1:¬ (intI bs bad).1< 0:=fun e=>h (.inr (.inl e));have h2:¬64< (intI bs bad).1:=fun e=>h (.inr (.inr e));omega
theorem iints_any (o:Nat) (bs:List Int) (bad:Bool) (A:Option Addr) (c:Nat) (w:World) (h:InIs w o bs bad A c) (hbad:bad=true→bs=[]) :
  Calls prog 146 #[.pointer (some ⟨o,0,none⟩),.int .i64 64] w fun e w'=>∃A' c',e= .returned (.slice A' (intsI bs bad).1.length c')∧w'.ownsRow w.heap.size 3 1 (.slice A' (intsI bs bad).1.length c') (intsI bs bad).1.length (iv (intsI bs bad).1)∧InTo w w' o A (intsI bs bad).2.1 (intsI bs bad).2.2:=by
 have hwi:=iwithin_any o 0 64 bs bad A c w h hbad;have hin:=withI_in (bs:=bs) (bad:=bad);have hwb:=withI_bad (lo:=0) (hi:=64) hbad;unfold intsI;obtain⟨v,hv⟩:∃v,(withI 0 64 bs bad).1=v:=⟨_,rfl⟩;obtain⟨b2,hb2⟩:∃v,(withI 0 64 bs bad).2.1=v:=⟨_,rfl⟩;obtain⟨d2,hd2⟩:∃v,(withI 0 64 bs bad).2.2=v:=⟨_,rfl⟩;rw[hv,hb2,hd2] at hwi hwb;rw[hv] at hin
 rw[hv,hb2,hd2];obtain⟨n,rfl⟩:=Int.eq_ofNat_of_zero_le hin.1;rw[Int.toNat_natCast];have hn64:n≤64:=by omega
 obtain⟨R,hR⟩:∃R,loopI n [] b2 d2=R:=⟨_,rfl⟩;rw[hR];have hol:=h.blk.lt;have HA:=yH (fun a (ha:A=some a)=>(h.ne a ha).2);have H:=yH (yA3 hwi hR hwb);clear hwi hin hwb hv hb2 hd2 h hbad hR;go_enter func146,ntmps146
 go_wp2_with fail
 refine H.out.1.mono ?_;rintro e w1 ⟨rfl,A1,c1,hi1,hc1,hb1,hs1⟩;have H1:=yH (yA4 hi1 hc1 hb1 hs1);clear hi1 hc1 hb1 hs1;go_wp2_with fail
 go_loopg [6,12] n (fun m ov kv wr=>∃ (k:Nat) (out b3:List Int) (d3:Bool) (A3 A4:Option Addr) (c3 c4:Nat),m=n - k∧k≤n∧kv= .int .i64 k∧ov= .slice A4 out.length c4∧wr.ownsRow w.heap.size 3 1 (.slice A4 out.length c4) out.length (iv out)∧InIs wr o b3 d3 A3 c3∧(∀a,A3=some a→∃a0,A=some a0∧a0.block=a.block)∧(d3=true→b3=[])∧(k< n→d3=false)∧Chg (fun j=>j=o) w wr∧loopI (n - k) out b3 d3=R∧out.length=k)
 case atStart=>
  refine⟨0,[],b2,d2,A1,none,c1,0,rfl,Nat.zero_le _,rfl,rfl,World.ownsRow_nil _ _ _ _,H1.out.1,H1.out.2.2.2,H1.out.2.2.1,fun e=>?_,H1.out.2.1,H.out.2.1,rfl⟩
  cases d2 with
  | false=>rfl
  | true=>have:=(H.out.2.2 rfl).2;omega
 case round=>
  obtain⟨k,out,b3,d3,A3,A4,c3,c4,rfl,hk,rfl,rfl,ho,hi3,hs3,hb3,hd3,hc3,hlo,hol2⟩:=hrel;by_cases hlt:k< n
  ·obtain rfl:=hd3 hlt
   have hint:=iint_any o b3 false A3 c3 wr hi3 (fun e=>by cases e)
   have hlo':loopI (n - k) out b3 false=if (intI b3 false).2.2=true then([],(intI b3 false).2.1,true) else loopI (n - (k+1)) (out++[(intI b3 false).1]) (intI b3 false).2.1 false:=by
    rw[show n - k=(n - (k+1))+1 by omega];rfl
   rw[hlo'] at hlo;have hib:=intI_bad (bs:=b3) (bad:=false) (fun e=>by cases e);obtain⟨v1,hv1⟩:∃v,(intI b3 false).1=v:=⟨_,rfl⟩;obtain⟨b4,hb4⟩:∃v,(intI b3 false).2.1=v:=⟨_,rfl⟩;obtain⟨d4,hd4⟩:∃v,(intI b3 false).2.2=v:=⟨_,rfl⟩;rw[hv1,hb4,hd4] at hint hlo;rw[hb4,hd4] at hib;have HJ:=yH (yA5 hint ho hs3 hc3 (yA3 hlo hib hol2))
   have hkI:(k:Int)< (n:Int):=by omega
   clear hint ho hs3 hc3 hlo hib hi3 hb3 hd3 hlo' hv1 hb4 hd4 hol2;go_wp2_with fail
   refine HJ.out.1.mono ?_;rintro e w4 ⟨rfl,A5,c5,hi5,hc5,hb5,hs5⟩;obtain⟨d0,ef0,es0⟩:=hi5.blk.facts;have H5:=yH (yA4 hi5 hc5 hb5 hs5)
   have ho5:=own_chg HJ.out.2.1 hc5 fun g hg e=>by
    obtain⟨a,ha,rfl⟩:=own_at hg;have:=(own_rng HJ.out.2.1 a ha).1;omega
   have HO5:=yH ho5;have hz5:w.heap.size≤w4.heap.size:=Nat.le_trans HJ.out.2.2.2.1.size hc5.size;clear hi5 hc5 hb5 hs5 ho5
   cases d4 with
   | true=>
    go_wp2_with fail
    go_ret
    rw[← (yP4 HJ.out).1,if_pos trivial];refine⟨none,0,rfl,World.ownsRow_nil _ _ _ _,A5,c5,H5.out.1,Chg.trans HJ.out.2.2.2.1 H5.out.2.1 fun _ _ e=>e,(fun _=>H5.out.2.2.1 (by trivial)),fun a ha=>?_⟩;obtain⟨a1,e1,e2⟩:=H5.out.2.2.2 a ha;obtain⟨a0,e3,e4⟩:=HJ.out.2.2.1 a1 e1
    exact⟨a0,e3,e4.trans e2⟩
   | false=>
    go_wp2_with (
     at_builtin
     refine app_int rfl _ _ rfl w.heap.size _ out.length _ rfl HO5.out v1 rfl (by have:=(yP6 HJ.out);omega) hz5 ?_;intro v6 w6 hown6 hap6;have H6:=yH (yA hown6 hap6);clear hown6 hap6;obtain⟨A6,c6,rfl, -⟩:=own_shape H6.out.1)
    go_roundg (n - (k+1))
    case measure=>omega
    case rel=>
     have hrow:∀j,(Value.slice A4 out.length c4).ownBlock=some j→w.heap.size≤j:=fun j hj=>by
      obtain⟨a,ha,rfl⟩:=own_at hj;exact(own_rng HO5.out a ha).1
     have hAl:∀a,A5=some a→a.block< w.heap.size:=fun a ha=>by
      obtain⟨a1,e1,e2⟩:=H5.out.2.2.2 a ha;obtain⟨a0,e3,e4⟩:=HJ.out.2.2.1 a1 e1;have:=HA.out a0 e3;omega
     refine⟨k+1,out++[v1],b4,false,A5,A6,c5,c6,rfl,by omega,by simp,by simp,?_,H5.out.1.far H6.out.2.chg (fun e=>by have:=hrow _ e;omega) (fun a ha e=>by have:=hrow _ e;have:=hAl a ha;omega),fun a ha=>?_,H5.out.2.2.1,fun _=>rfl,Chg.trans (Chg.trans HJ.out.2.2.2.1 H5.out.2.1 fun _ _ e=>e) H6.out.2.chg fun j hj e=>by have:=hrow _ e;omega,?_,by simp[(yP6 HJ.out)]⟩
     ·have:=H6.out.1
      simpa [iv] using this
     ·obtain⟨a1,e1,e2⟩:=H5.out.2.2.2 a ha
      obtain⟨a0,e3,e4⟩:=HJ.out.2.2.1 a1 e1;exact⟨a0,e3,e4.trans e2⟩
     ·have:=(yP4 HJ.out).1
      rwa[if_neg (by simp)] at this
  ·obtain rfl:k=n:=by omega
   have HJ:=yH (yA5 ho hi3 hs3 hb3 (yA hc3 hlo));clear ho hi3 hs3 hb3 hc3 hlo hd3 hlt hk;go_wp2_with fail
   go_ret
   have h0:=(yP4 HJ.out).2;rw[Nat.sub_self] at h0;subst h0;exact⟨A4,c4,rfl,HJ.out.1,A3,c3,HJ.out.2.1,(yP4 HJ.out).1,HJ.out.2.2.2.1,HJ.out.2.2.1⟩
end
section
open Go.RowKit Go.Maps
theorem backI_two (n:Nat):backI (2*n)=n:=by
 unfold backI;rw[if_pos (by omega)];congr 1
 omega
theorem intI_grp {n:Nat} (h:n< 4611686018427387904) (r:List Int):intI (grp (2*n)++r) false=((n:Int),r,false):=by
 unfold intI;rw[grD_grp 9 (2*n) 0 0 r (by omega) (by omega) (.inl rfl)];simp only[Nat.zero_add,Nat.pow_zero,Nat.mul_one];rw[backI_two,List.drop_left]
theorem withI_grp {n:Nat} (h:n≤64) (r:List Int):withI 0 64 (grp (2*n)++r) false=((n:Int),r,false):=by
 unfold withI;rw[intI_grp (by omega)];rw[if_neg (by simp;omega)]
theorem loopI_grps:∀ (l:List Nat) (out r:List Int),(∀n∈l,n< 4611686018427387904)→loopI l.length out (grps l++r) false=(out++l.map fun n:Nat=>(n:Int),r,false)
 | [],out,r,_=>by simp[loopI,grps]
 | n :: l,out,r,h=>by
  have e:grps (n :: l)++r=grp (2*n)++(grps l++r):=by simp[grps]
  rw[e,List.length_cons];unfold loopI;rw[intI_grp (h n (List.mem_cons_self ..))];simp only[Bool.false_eq_true,if_false];rw[loopI_grps l _ r fun m hm=>h m (List.mem_cons_of_mem _ hm)];simp
theorem intsI_grps {l:List Nat} (hl:l.length≤64) (h:∀n∈l,n< 4611686018427387904) (r:List Int):intsI (grp (2*l.length)++(grps l++r)) false=(l.map fun n:Nat=>(n:Int),r,false):=by
 unfold intsI;rw[withI_grp hl];simp only[Int.toNat_natCast];rw[loopI_grps l [] r h];simp
theorem inew_any (bs:List Int) (A:Option Addr) (c:Nat) (w:World) (hA:A≠none) (hs:Sl w 1 A bs.length (bv bs)) (hl:bs.length≤100000) (hb:∀q∈bs,0≤q∧q≤255) :
  Calls prog 144 #[.slice A bs.length c] w fun e w'=>∃o A' c',e= .returned (.pointer (some ⟨o,0,none⟩))∧InIs w' o bs false A' c'∧Grew w w'∧w.heap.size≤o:=by
 have H:=yH (bclone_any A hA bs c w (by omega) hs);clear hs;go_enter func144,ntmps144
 go_wp2_with fail
 refine H.out.mono ?_;rintro e w1 ⟨A1,c1,rfl,ho,hg⟩;have H1:=yH (yA ho hg);clear ho hg;go_wp2_with fail
 obtain⟨W2,hW2⟩:∃W,w1.alloc (.cells #[.slice A1 bs.length c1,.bool false] 200)=W:=⟨_,rfl⟩;rw[hW2];have hg2:Grew w1 W2:=hW2▸(Chg.refl _ _).alloc _;have hb2:Blk W2 w1.heap.size 200 #[.slice A1 bs.length c1,.bool false]:=hW2▸Blk.new _ _ _;have hz2:W2.heap.size=w1.heap.size+1:=by subst hW2;simp
 have H2:=yH (yA3 hg2 hb2 hz2);clear hW2 hg2 hb2 hz2;go_ret
 refine⟨w1.heap.size,A1,c1,rfl,⟨H2.out.2.1,(Sl.of_own H1.out.1).grew H2.out.1,hb,fun a ha=>?_,hl,?_⟩,Grew.trans H1.out.2 H2.out.1,H1.out.2.size⟩
 ·have:=own_rng H1.out.1 a ha
  have:=H2.out.2.2;exact⟨by omega,by omega⟩
 ·obtain⟨A',c',e,hc⟩:=own_shape H1.out.1
  injection e with e1 e2 e3;omega
end
section
open Go.RowKit Go.Maps
theorem sealL_cons (b:List Int) (m:Nat):∃T,sealL b m=((b.length % 256:Nat):Int) :: ((b.length / 256 % 256:Nat):Int) :: (b++T):=by
 unfold sealL;rw[show fitL b m=((b.length % 256:Nat):Int) :: ((b.length / 256 % 256:Nat):Int) :: (b++List.replicate (m - 2 - b.length) 0) from rfl];exact⟨List.replicate (m - 2 - b.length) 0++lowB (crc (fitL b m)),by simp[fitL]⟩
theorem part_seal {b:List Int} {m:Nat} (h:b.length+2≤m) (hm:m≤65536) (hb:∀x∈b,0≤x∧x≤255):partL (sealL b m)=some b:=by
 obtain⟨T,hT⟩:=sealL_cons b m;have hl:=sealL_len h
 have hc:cntL (sealL b m)=b.length:=by
  unfold cntL;rw[hT];simp only[List.getElem?_cons_zero,List.getElem?_cons_succ,Option.getD_some,Int.toNat_natCast];omega
 have hd:((sealL b m).drop 2).take b.length=b:=by
  rw[hT];simp
 unfold partL;rw[hc,hl,if_neg (by omega),hd,show m+4 - 4=m by omega,if_pos];rw[eqB_eq (sealL_byte hb) (sealL_byte hb)];simp
theorem root_part {ep sz:Nat} {l:List Nat} (h:(bodyL ep l).length+14≤sz) (hz:sz≤65536):partL ((rootL ep l sz).take (sz - 8))=some (bodyL ep l):=by
 have hs:(sealL (bodyL ep l) (sz - 12)).length=sz - 8:=by rw[sealL_len (by omega)];omega
 unfold rootL;rw[List.take_left' hs];exact part_seal (by omega) (by omega) (bodyL_byte ep l)
theorem root_read {ep:Nat} {l:List Nat} (hg:GoodR ep l):intI (bodyL ep l) false=((ep:Int),grp (2*l.length)++grps l,false)∧intsI (grp (2*l.length)++grps l) false=(l.map fun n:Nat=>(n:Int),[],false):=by
 obtain⟨h1,h2,h3,h4⟩:=hg;refine⟨?_,?_⟩
 ·unfold bodyL
  rw[List.append_assoc];exact intI_grp (by omega) _
 ·have:=intsI_grps h3 (fun n hn=>by have:=h4 n hn;omega) []
  simpa using this
theorem root_right {ep:Nat} {l:List Nat} (hg:GoodR ep l):rightB (ep:Int) (l.map fun n:Nat=>(n:Int))=true:=by
 obtain⟨h1,h2,h3,h4⟩:=hg;unfold rightB;rw[decide_eq_true (by omega),decide_eq_true (by omega),decide_eq_true (by simpa using h3),decide_eq_true (goods h4)]
 rfl
theorem right_root {ep:Int} {l:List Int} (h:rightB ep l=true):∃ (e:Nat) (t:List Nat),ep=e∧l=t.map (fun n:Nat=>(n:Int))∧GoodR e t:=by
 unfold rightB at h;simp only[Bool.and_eq_true,decide_eq_true_eq] at h;obtain⟨⟨⟨h1,h2⟩,h3⟩,h4⟩:=h;refine⟨ep.toNat,l.map Int.toNat,by omega,?_,by omega,by omega,by simpa using h3,fun s hs=>?_⟩
 ·rw[List.map_map]
  conv=>lhs;rw[←List.map_id l]
  refine List.map_congr_left fun x hx=>?_;have:=(h4 x hx).1;simp only[id,Function.comp];omega
 ·obtain⟨x,hx,rfl⟩:=List.mem_map.1 hs
  have:=h4 x hx;unfold goodN at this;omega
end
section
open Go.RowKit Go.Maps
theorem bclone_none (c:Nat) (w:World) :
  Calls prog 99 #[.slice none 0 c] w fun e w'=>e= .returned (.slice none 0 0)∧w=w':=by
 have hsl:=fun(w:World)=>Lib.run_eql_slice_nil (P:=prog) w 49 5 none 0 c 0 0 underlying49;go_enter func99,ntmps99
 go_wp2
 go_ret
 exact⟨rfl,rfl⟩
theorem inew_none (c:Nat) (w:World) :
  Calls prog 144 #[.slice none 0 c] w fun e w'=>∃o A' c',e= .returned (.pointer (some ⟨o,0,none⟩))∧InIs w' o [] false A' c'∧Grew w w'∧w.heap.size≤o:=by
 have H:=yH (bclone_none c w);go_enter func144,ntmps144
 go_wp2_with fail
 refine H.out.mono ?_;rintro e w1 ⟨rfl,rfl⟩;go_wp2_with fail
 obtain⟨W2,hW2⟩:∃W,w.alloc (.cells #[.slice none 0 0,.bool false] 200)=W:=⟨_,rfl⟩;rw[hW2];have hg2:Grew w W2:=hW2▸(Chg.refl _ _).alloc _;have hb2:Blk W2 w.heap.size 200 #[.slice none 0 0,.bool false]:=hW2▸Blk.new _ _ _;have H2:=yH (yA hg2 hb2);clear hW2 hg2 hb2;go_ret
 exact⟨w.heap.size,none,0,rfl,⟨H2.out.2,Sl.nil _ _ _,(fun q hq=>by cases hq),(fun a ha=>by cases ha),by simp⟩,H2.out.1,Nat.le_refl _⟩
theorem root_unique {b x:List Int} {ep:Nat} {l:List Nat} (hx:partL (b.take (b.length - 8))=some x) (hm:b.length≤65536) (hg:GoodR ep l) (hf:(bodyL ep l).length+14≤b.length) (hb:b=rootL ep l b.length) :
  (intI x false).1=ep∧(intI x false).2.2=false∧intsI (intI x false).2.1 false=(l.map fun n:Nat=>(n:Int),[],false):=by
 have h:=root_part hf hm;rw[←hb,hx] at h;injection h with h;subst h;obtain⟨h1,h2⟩:=root_read hg;rw[h1];exact⟨rfl,rfl,h2⟩
theorem loopI_len:∀ (n:Nat) (out bs:List Int) (bad:Bool),(loopI n out bs bad).1.length≤out.length+n
 | 0,out,bs,bad=>by simp[loopI]
 | n+1,out,bs,bad=>by
  unfold loopI;split
  ·simp
  ·have:=loopI_len n (out++[(intI bs bad).1]) (intI bs bad).2.1 false
   simp only[List.length_append,List.length_singleton] at this;omega
theorem intsI_len (bs:List Int) (bad:Bool):(intsI bs bad).1.length≤64:=by
 have h:=loopI_len (withI 0 64 bs bad).1.toNat [] (withI 0 64 bs bad).2.1 (withI 0 64 bs bad).2.2;have h2:=withI_in (bs:=bs) (bad:=bad);unfold intsI;simp only[List.length_nil] at h;omega
def PsOut (w w':World) (b:List Int) (e:Ending):Prop:=
 (e= .returned (.tuple #[.agg #[.int .i64 0,.slice none 0 0],.bool false])∧Grew w w'∧¬∃ep l,GoodR ep l∧(bodyL ep l).length+14≤b.length∧b=rootL ep l b.length)∨
 ∃ep l A c,GoodR ep l∧(bodyL ep l).length+14≤b.length∧b=rootL ep l b.length∧e= .returned (.tuple #[.agg #[.int .i64 (ep:Nat),.slice A l.length c],.bool true])∧Grew w w'∧Sl w' 1 A l.length (nv l)∧∀a,A=some a→w.heap.size≤a.block∧a.block< w'.heap.size
theorem parse_any (b:List Int) (A:Option Addr) (c:Nat) (w:World) (hl:14≤b.length) (hm:b.length≤4096) (hs:Sl w 1 A b.length (bv b)) (hb:∀x∈b,0≤x∧x≤255) (hc:b.length≤c) :
  Calls prog 114 #[.slice A b.length c] w fun e w'=>PsOut w w' b e:=by
 cases hp:partL (b.take (b.length - 8)) with
 | none=>
  refine(parse_no b A c w hl (by omega) hs hb hc hp).mono fun e w' h=> .inl ⟨h.1,h.2,?_⟩;rintro⟨ep,l, -,h1,h2⟩;have:=root_part h1 (show b.length≤65536 by omega);rw[←h2,hp] at this
  cases this
 | some x=>
  have hlen:(b.take (b.length - 8)).length=b.length - 8:=by rw[List.length_take];omega
  have hxb:(∀q∈x,0≤q∧q≤255)∧x.length≤4096:=by
   unfold partL at hp;split at hp
   ·cases hp
   ·split at hp
    ·injection hp with hp
     subst hp;refine⟨fun q hq=>hb q (List.mem_of_mem_take (List.mem_of_mem_drop (List.mem_of_mem_take hq))),?_⟩;rw[List.length_take,List.length_drop];omega
    ·cases hp
  have hpt:∀w',Grew w w'→Calls prog 143 #[.slice A (b.length - 8) c] w' fun e w2=>OwnOut w' w2 5 1 x.length (bv x) (fun A c=> .tuple #[.slice A x.length c,.bool true]) e:=fun w' hg=>by
   have:=part_any (b.take (b.length - 8)) A c w' (by omega) (by omega) (by
    refine⟨by rw[bv_len];omega,fun _=>?_⟩;obtain⟨g,off,e,hg,hx⟩:=(hs.grew hg).2 (by omega);refine⟨g,off,e,hg,fun j u hu=>hx j u ?_⟩;have hj:j< b.length - 8:=by have:=(List.getElem?_eq_some_iff.1 hu).1;rwa[bv_len,hlen] at this
    rw[←hu];simp[bv,List.getElem?_take,hj]) (fun x hx=>hb x (List.mem_of_mem_take hx)) (by omega)
   rw[hlen] at this;refine this.mono fun e w2 h=>?_;rw[hp] at h;exact h
  have d1:(8:Int)≤(b.length:Int):=by omega
  have d2:((b.length:Int) - 8).toNat=b.length - 8:=by omega
  have d3:(b.length:Int) - 8≤(c:Int):=by omega
  obtain⟨W0,hW0⟩:∃W,w.alloc (.cells #[.int .i64 0,.slice none 0 0] 112)=W:=⟨_,rfl⟩;have hg0:Grew w W0:=hW0▸(Chg.refl _ _).alloc _;have hr0:Blk W0 w.heap.size 112 #[.int .i64 0,.slice none 0 0]:=hW0▸Blk.new _ _ _;have H:=yH (yA5 (hpt W0 hg0) hxb hs hb (yA4 hp hW0 hg0 hr0));clear hpt hlen hp hb hs hxb hW0 hg0 hr0;go_enter func114,ntmps114
  go_wp2_with fail
  rw[(yP4 H.out).2.1];refine H.out.1.mono ?_;rintro e w1 ⟨A1,c1,rfl,ho1,hg1⟩
  have hnew:Calls prog 144 #[.slice A1 x.length c1] w1 fun e w'=>∃o A' c',e= .returned (.pointer (some ⟨o,0,none⟩))∧InIs w' o x false A' c'∧Grew w1 w'∧w1.heap.size≤o:=by
   cases A1 with
   | none=>
    obtain⟨h0,hx0⟩:=own_none ho1;have:x=[]:=List.eq_nil_of_length_eq_zero h0;subst this
    exact inew_none c1 w1
   | some a=>exact inew_any x (some a) c1 w1 (by simp) (Sl.of_own ho1) (by have:=H.out.2.1.2;omega) H.out.2.1.1
  have hgw1:Grew w w1:=Grew.trans (yP6 H.out).1 hg1;have H1:=yH (yA3 hnew hgw1 ((yP6 H.out).2.grew hg1));clear hnew hgw1 ho1 hg1;go_wp2_with fail
  refine H1.out.1.mono ?_;rintro e w2 ⟨o,A2,c2,rfl,hi2,hg2,ho2⟩;have hint:=iint_any o x false A2 c2 w2 hi2 (fun e=>by cases e);obtain⟨v,hv⟩:∃v,(intI x false).1=v:=⟨_,rfl⟩;obtain⟨b3,hb3⟩:∃v,(intI x false).2.1=v:=⟨_,rfl⟩;obtain⟨d3',hd3'⟩:∃v,(intI x false).2.2=v:=⟨_,rfl⟩;rw[hv,hb3,hd3'] at hint
  have H2:=yH (yA5 hint (Grew.trans H1.out.2.1 hg2) (H1.out.2.2.grew hg2) hv (yA4 hb3 hd3' ho2 H1.out.2.1.size));clear hint hi2 hg2 hv hb3 hd3' ho2;go_wp2_with fail
  refine H2.out.1.mono ?_;rintro e w3 ⟨rfl,A3,c3,hi3,hc3,hbd3,hs3⟩;obtain⟨W4,hW4⟩:∃W,w3.alloc (.cells #[.int .i64 v,.slice none 0 0] 112)=W:=⟨_,rfl⟩;have hg4:Grew w3 W4:=hW4▸(Chg.refl _ _).alloc _;have hr4:Blk W4 w3.heap.size 112 #[.int .i64 v,.slice none 0 0]:=hW4▸Blk.new _ _ _;have hz4:W4.heap.size=w3.heap.size+1:=by subst hW4;simp
  have hints:=iints_any o b3 d3' A3 c3 W4 (hi3.grew hg4) hbd3;have hol3:=hi3.blk.lt;have hw3:Grew w w3:=Chg.trans H2.out.2.1 hc3 fun j hj e=>by have h1:=(yP6 H2.out).1;have h2:=(yP6 H2.out).2;omega
  have hrb3:=H2.out.2.2.1.chg hc3 (fun e=>by have h1:=(yP6 H2.out).1;have h2:=H1.out.2.2.lt;omega);obtain⟨R,hR⟩:∃R,intsI b3 d3'=R:=⟨_,rfl⟩;rw[hR] at hints;have H3:=yH (yA5 hints hW4 hg4 hr4 (yA5 hz4 hw3 hrb3 hR (yA hol3 fun a (ha:A3=some a)=>hi3.ne a ha)));clear hints hW4 hg4 hr4 hz4 hi3 hc3 hbd3 hs3 hw3 hrb3 hR;go_wp2_with fail
  rw[H3.out.2.1];refine H3.out.1.mono ?_;rintro e w5 ⟨A5,c5,rfl,ho5,A6,c6,hi6,hc6,hbd6,hs6⟩;obtain⟨r7,hr7⟩:∃r,w3.heap.size=r:=⟨_,rfl⟩;have hrt5:=H3.out.2.2.2.1.chg hc6 (fun e=>by omega);rw[hr7] at hrt5;obtain⟨e0,ef0,es0⟩:=hrt5.facts;obtain⟨W6,hW6⟩:∃W,w5.setCell ⟨r7,1,none⟩ (.slice A5 R.1.length c5)=W:=⟨_,rfl⟩
  have hc7:Chg (fun j=>j=r7) w5 W6:=hW6▸(Chg.refl (fun j=>j=r7) w5).setCell (p:=⟨r7,1,none⟩) (fun _=>rfl) _
  have hrt6:Blk W6 r7 112 #[.int .i64 v,.slice A5 R.1.length c5]:=by
   have:=hrt5.put 1 (.slice A5 R.1.length c5);rw[hW6] at this;simpa using this
  have hA6:∀a,A6=some a→a.block< r7:=fun a ha=>by
   obtain⟨a0,e1,e2⟩:=hs6 a ha;have:=((yP8 H3.out).2 a0 e1).2;omega
  have hi7:=hi6.far hc7 (fun e=>by omega) (fun a ha e=>by have:=hA6 a ha;omega);have hz3:=(yP4 H3.out).2.1.size;have hrw:=(yP6 H3.out).1.lt;have how:w.heap.size< o:=by have h1:=(yP6 H2.out).1;have h2:=H1.out.2.2.lt;omega
  have hw5:Grew w w5:=Chg.trans (Grew.trans (yP4 H3.out).2.1 H3.out.2.2.1) hc6 fun j hj e=>by omega
  have hw6:Grew w W6:=Chg.trans hw5 hc7 fun j hj e=>by omega
  have hrb6:=(((yP6 H3.out).1.grew H3.out.2.2.1).chg hc6 (fun e=>by omega)).chg hc7 (fun e=>by omega)
  have ho6:=own_chg ho5 hc7 fun g hg e=>by
   obtain⟨a,ha,rfl⟩:=own_at hg;have:=(own_rng ho5 a ha).1;have:=(yP4 H3.out).1;omega
  have hrow:∀a,A5=some a→w.heap.size< a.block∧a.block< W6.heap.size:=fun a ha=>by
   have h1:=own_rng ho6 a ha;have:=(yP4 H3.out).1;omega
  have hdn:=idone_any o R.2.1 R.2.2 A6 c6 W6 hi7;have hrg:=fun W (hg:Grew W6 W)=>right_any v R.1 A5 c5 W ((Sl.of_own ho6).grew hg) (by have:=intsI_len b3 d3';rw[(yP6 H3.out).2.1] at this;omega);have H6:=yH (yA5 hdn hrg hrt6 hrb6 (yA4 hw6 ho6 hW6 hrow));clear hdn hrg hrt5 hrt6 hrb6 hw5 hw6 ho5 ho6 hi6 hi7 hc6 hc7 hbd6 hs6 hA6 hrow;go_wp2_with fail
  refine H6.out.1.mono ?_;rintro e w7 ⟨rfl,rfl⟩;clear e0 ef0 es0
  have hroot:∀ep l,GoodR ep l→(bodyL ep l).length+14≤b.length→b=rootL ep l b.length→v=(ep:Int)∧R=(l.map fun n:Nat=>(n:Int),[],false):=fun ep l h1 h2 h3=>by
   obtain⟨g1,g2,g3⟩:=root_unique (yP4 H.out).1 (by omega) h1 h2 h3;rw[H2.out.2.2.2.1] at g1;rw[(yP4 H2.out).2.1] at g2;subst g2;rw[(yP4 H2.out).1,(yP6 H3.out).2.1] at g3;exact⟨g1,g3⟩
  have HR:=yH hroot;have hend:∀W,Grew w W→Grew w ((W.setCell ⟨w.heap.size,0,none⟩ (.int .i64 0)).setCell ⟨w.heap.size,1,none⟩ (.slice none 0 0)):=fun W hg=>(hg.setCell (p:=⟨w.heap.size,0,none⟩) (fun e=>absurd e (Nat.lt_irrefl _)) _).setCell (p:=⟨w.heap.size,1,none⟩) (fun e=>absurd e (Nat.lt_irrefl _)) _;have HE:=yH hend;clear hroot hend
  obtain⟨dn,hdn⟩:∃d,(!R.2.2 && decide (R.2.1=[]))=d:=⟨_,rfl⟩;rw[hdn];have HD:=yH hdn;clear hdn;obtain⟨c0,f0,s0⟩:=H6.out.2.2.2.1.facts
  cases dn with
  | false=>
   go_wp2_with fail
   refine bodyPost_ret (v:= .tuple #[.agg #[.int .i64 0,.slice none 0 0],.bool false]) (by simp[results,results114,go_sem,c0,f0,s0]) rfl (.inl ⟨rfl,HE.out _ (yP4 H6.out).1,?_⟩);rintro⟨ep,l,h1,h2,h3⟩;obtain⟨-,rfl⟩:=HR.out ep l h1 h2 h3;have:=HD.out
   simp at this
  | true=>
   obtain⟨e1,ef1,es1⟩:=H6.out.2.2.1.facts;go_wp2_with fail
   refine(H6.out.2.1 _ (Chg.refl _ _)).mono ?_;rintro e w8 ⟨rfl,hg8⟩;have hrt8:=H6.out.2.2.1.grew hg8;have hrb8:=H6.out.2.2.2.1.grew hg8;have H8:=yH (yA4 hg8 hrt8 hrb8 (Grew.trans (yP4 H6.out).1 hg8));clear e1 ef1 es1 c0 f0 s0 hg8 hrt8 hrb8;obtain⟨rg,hrg⟩:∃d,rightB v R.1=d:=⟨_,rfl⟩;rw[hrg];have HG:=yH hrg;clear hrg;obtain⟨c0,f0,s0⟩:=H8.out.2.2.1.facts
   cases rg with
   | false=>
    go_wp2_with fail
    refine bodyPost_ret (v:= .tuple #[.agg #[.int .i64 0,.slice none 0 0],.bool false]) (by simp[results,results114,go_sem,c0,f0,s0]) rfl (.inl ⟨rfl,HE.out _ H8.out.2.2.2,?_⟩);rintro⟨ep,l,h1,h2,h3⟩;obtain⟨rfl,rfl⟩:=HR.out ep l h1 h2 h3;have:=HG.out;rw[root_right h1] at this
    cases this
   | true=>
    obtain⟨ep,l,rfl,hlR,hGR⟩:=right_root HG.out;have hRl:R.1.length=l.length:=by rw[hlR];simp
    have hivn:iv R.1=nv l:=by rw[hlR,nv_iv]
    have hsl8:Sl w8 1 A5 l.length (nv l):=by
     have:=(Sl.of_own (yP4 H6.out).2.1).grew H8.out.1;rwa[hRl,hivn] at this
    have hrt8:=H8.out.2.1;rw[hRl] at hrt8;obtain⟨e1,ef1,es1⟩:=hrt8.facts
    have heq:∀ (l':List Int) (A':Option Addr) (c':Nat) (W:World),Grew w8 W→Sl W 1 A' l'.length (bv l')→Calls prog 148 #[.slice A' l'.length c',.slice A b.length c] W fun e w'=>e= .returned (.bool (eqB l' b))∧W=w':=fun l' A' c' W hg h=>beq_any A' A l' b c' c W h ((H.out.2.2.1.grew H8.out.2.2.2).grew hg);have HQ:=yH (yA5 heq hsl8 hGR hRl (yA hlR hrt8))
    clear heq hsl8 hGR hRl hlR hrt8 hivn;by_cases hfit:(bodyL ep l).length+14≤b.length
    ·have hby:=rbytes_ok ep l b.length A5 c5 w8 HQ.out.2.1 HQ.out.2.2.1.1 HQ.out.2.2.1.2.1 HQ.out.2.2.1.2.2.1 HQ.out.2.2.1.2.2.2 hm hfit
     have HB:=yH hby
     clear hby
     go_wp2_with fail
     refine HB.out.mono ?_;rintro e w9 ⟨A9,c9,rfl,ho9,hg9⟩;have hq9:=HQ.out.1 (rootL ep l b.length) A9 c9 w9 hg9 (by rw[rootL_len hfit];exact Sl.of_own ho9);rw[rootL_len hfit] at hq9;have H9:=yH (yA5 hq9 (H8.out.2.2.1.grew hg9) (Grew.trans H8.out.2.2.2 hg9) (HQ.out.2.1.grew hg9) (yA ((yP4 HQ.out).2.grew hg9) (Grew.trans H8.out.1 hg9)));clear hq9 ho9 hg9 c0 f0 s0 e1 ef1 es1
     go_wp2_with fail
     refine H9.out.1.mono ?_;rintro e w10 ⟨rfl,rfl⟩;obtain⟨c0,f0,s0⟩:=H9.out.2.1.facts;obtain⟨e1,ef1,es1⟩:=(yP4 H9.out).1.facts;rw[eqB_eq rootL_byte H.out.2.2.2.1];by_cases hbb:rootL ep l b.length=b
     ·rw[decide_eq_true hbb]
      go_wp2_with fail
      have hne:r7≠w.heap.size:=by omega
      obtain⟨W11,hW11⟩:∃W,(w9.setCell ⟨w.heap.size,0,none⟩ (.int .i64 (ep:Nat))).setCell ⟨w.heap.size,1,none⟩ (.slice A5 l.length c5)=W:=⟨_,rfl⟩;rw[hW11];have hc11:Chg (fun j=>j=w.heap.size) w9 W11:=hW11▸((Chg.refl (fun j=>j=w.heap.size) w9).setCell (p:=⟨w.heap.size,0,none⟩) (fun _=>rfl) _).setCell (p:=⟨w.heap.size,1,none⟩) (fun _=>rfl) _
      have hrb11:Blk W11 w.heap.size 112 #[.int .i64 (ep:Nat),.slice A5 l.length c5]:=by
       have:=(H9.out.2.1.put 0 (.int .i64 (ep:Nat))).put 1 (.slice A5 l.length c5);rw[hW11] at this;simpa using this
      clear c0 f0 s0;obtain⟨c0,f0,s0⟩:=hrb11.facts
      refine bodyPost_ret (v:= .tuple #[.agg #[.int .i64 (ep:Nat),.slice A5 l.length c5],.bool true]) (by simp[results,results114,go_sem,c0,f0,s0]) rfl (.inr ⟨ep,l,A5,c5,HQ.out.2.2.1,hfit,hbb.symm,rfl,Chg.trans H9.out.2.2.1 hc11 fun j hj e=>by omega,H9.out.2.2.2.1.chg hc11 fun a ha e=>by have:=((yP6 H6.out).2 a ha).1;omega,fun a ha=>?_⟩)
      have h1:=(yP6 H6.out).2 a ha;have h2:=(yP4 H9.out).2.size;have h3:=hc11.size;omega
     ·rw[decide_eq_false hbb]
      go_wp2_with fail
      refine bodyPost_ret (v:= .tuple #[.agg #[.int .i64 0,.slice none 0 0],.bool false]) (by simp[results,results114,go_sem,c0,f0,s0]) rfl (.inl ⟨rfl,HE.out _ H9.out.2.2.1,?_⟩);rintro⟨ep',l',h1,h2,h3⟩;obtain⟨g1,g2⟩:=HR.out ep' l' h1 h2 h3;have g3:ep=ep':=by omega
      have g4:l=l':=by
       have:=(yP4 HQ.out).1;rw[g2] at this;exact(List.map_inj_right (fun a b h=>by have h':((a:Nat):Int)=((b:Nat):Int):=h;omega)).1 this.symm
      subst g3 g4;exact hbb h3.symm
    ·have hby:=rbytes_many ep l b.length A5 c5 w8 HQ.out.2.1 HQ.out.2.2.1.1 HQ.out.2.2.1.2.1 HQ.out.2.2.1.2.2.1 HQ.out.2.2.1.2.2.2 hm (by omega) (by omega)
     have HB:=yH hby
     clear hby
     go_wp2_with fail
     refine HB.out.mono ?_;rintro e w9 ⟨rfl,hg9⟩;have hq9:=HQ.out.1 [] none 0 w9 hg9 (Sl.nil _ _ _);have H9:=yH (yA3 hq9 (H8.out.2.2.1.grew hg9) (Grew.trans H8.out.2.2.2 hg9));clear hq9 hg9 c0 f0 s0 e1 ef1 es1;go_wp2_with fail
     refine H9.out.1.mono ?_;rintro e w10 ⟨rfl,rfl⟩;obtain⟨c0,f0,s0⟩:=H9.out.2.1.facts;rw[eqB_eq (fun q hq=>by cases hq) H.out.2.2.2.1,decide_eq_false (fun e=>by rw[←e] at hl;simp at hl)];go_wp2_with fail
     refine bodyPost_ret (v:= .tuple #[.agg #[.int .i64 0,.slice none 0 0],.bool false]) (by simp[results,results114,go_sem,c0,f0,s0]) rfl (.inl ⟨rfl,HE.out _ H9.out.2.2,?_⟩);rintro⟨ep',l',h1,h2,h3⟩;obtain⟨g1,g2⟩:=HR.out ep' l' h1 h2 h3;have g3:ep=ep':=by omega
     have g4:l=l':=by
      have:=(yP4 HQ.out).1;rw[g2] at this;exact(List.map_inj_right (fun a b h=>by have h':((a:Nat):Int)=((b:Nat):Int):=h;omega)).1 this.symm
     subst g3 g4;exact hfit h2
end
section
open Go.RowKit Go.Maps
structure BstJ (w0 wr:World) (R:Nat) (ep:Nat) (pg:List Nat) (k be:Nat) (bl:List Nat) (BA:Option Addr) (bc:Nat):Prop where
 b1:Blk wr R 112 #[.int .i64 0,.slice none 0 0]
 b2:Blk wr (R+1) 112 #[.int .i64 (be:Nat),.slice BA bl.length bc]
 sl:Sl wr 1 BA bl.length (nv bl)
 gr:Grew w0 wr
 le:be≤ep
 eq:be=ep→1≤ep→bl=pg
 has:1≤ep→ep % 2< k→be=ep
 bnd:be≤1099511627776∧bl.length≤64
 row:∀a,BA=some a→R+1< a.block∧a.block< wr.heap.size
theorem BstJ.grew {w0 wr W:World} {R ep:Nat} {pg:List Nat} {k be:Nat} {bl:List Nat} {BA:Option Addr} {bc:Nat} (h:BstJ w0 wr R ep pg k be bl BA bc) (hg:Grew wr W) (hh:1≤ep→ep % 2=k→be=ep):BstJ w0 W R ep pg (k+1) be bl BA bc:=
 ⟨h.b1.grew hg,h.b2.grew hg,h.sl.grew hg,Grew.trans h.gr hg,h.le,h.eq,fun e1 e2=>by by_cases e:ep % 2=k;exact hh e1 e;exact h.has e1 (by omega),h.bnd,fun a ha=>by have:=h.row a ha;have:=hg.size;omega⟩
theorem load_any (d:Nat) (F:Nat→Prop) (D:Dk) (ep:Nat) (pg:List Nat) (w:World) (h:DS w d F D) (hd:D.down=false) (hn:2≤D.n) (hz:14≤D.sz) (hep:ep≤1099511627776) (hroot:1≤ep→GoodR ep pg∧(bodyL ep pg).length+14≤D.sz∧D.rd ((ep % 2:Nat):Int)=rootL ep pg D.sz)
  (hoth:∀ (i e':Nat) pg',i< 2→GoodR e' pg'→e' % 2=i→D.rd (i:Int)=rootL e' pg' D.sz→e'≤ep∧(e'=ep→pg'=pg)) (hby:∀i:Nat,i< 2→∀x∈D.rd i,0≤x∧x≤255) :
  Calls prog 81 #[.pointer (some ⟨d,0,none⟩)] w fun e w'=>Grew w w'∧((ep=0∧e= .returned (.tuple #[.agg #[.int .i64 0,.slice none 0 0],.int .i64 14]))∨(1≤ep∧∃A c,e= .returned (.tuple #[.agg #[.int .i64 (ep:Nat),.slice A pg.length c],.int .i64 0])∧Sl w' 1 A pg.length (nv pg)∧∀a,A=some a→w.heap.size≤a.block)):=by
 have hsm:=h.sml;have hrl:∀i:Nat,i< 2→(D.rd i).length=D.sz:=fun i hi=>h.rd_len (by omega) (by omega)
 have hrd:∀w',Grew w w'→∀i:Nat,i< 2→Calls prog 113 #[.pointer (some ⟨d,0,none⟩),.int .i64 (i:Int)] w' fun e w2=>OwnOut w' w2 5 1 D.sz (bv (D.rd i)) (fun A c=> .tuple #[.slice A D.sz c,.int .i64 0]) e:=fun w' hg i hi=>dread_ok d i F D w' (h.grew hg) hd (by omega) (by omega)
 have hps:∀ (i:Nat) (A:Option Addr) (c:Nat) (w':World),i< 2→Sl w' 1 A D.sz (bv (D.rd i))→D.sz≤c→Calls prog 114 #[.slice A D.sz c] w' fun e w2=>PsOut w' w2 (D.rd i) e:=fun i A c w' hi hs hc=>by
  have:=parse_any (D.rd i) A c w' (by rw[hrl i hi];exact hz) (by rw[hrl i hi];omega) (by rw[hrl i hi];exact hs) (hby i hi) (by rw[hrl i hi];exact hc);rwa[hrl i hi] at this
 have H:=yH (yA5 h hrd hps hroot (yA hoth hrl));have hmin:min (2:Int) (D.n:Int)=2:=by omega
 have hmn:¬ (D.n:Int)< 2:=by omega
 obtain⟨w0,rfl⟩:∃w0:World,w0=w:=⟨_,rfl⟩;clear h hrd hps hroot hoth hby hrl;go_enter func81,ntmps81
 go_wp2_with (go_at_call 76;(refine(dsectors_any d F D _ (H.out.1.grew (((Chg.refl _ _).alloc _).alloc _))).mono ?_);rintro e w1 ⟨rfl,rfl⟩)
 obtain⟨W2,hW2⟩:∃W,(w0.alloc (.cells #[.int .i64 0,.slice none 0 0] 112)).alloc (.cells #[.int .i64 0,.slice none 0 0] 112)=W:=⟨_,rfl⟩;obtain⟨R,hR⟩:∃R,w0.heap.size=R:=⟨_,rfl⟩
 have hJ0:BstJ w0 W2 R ep pg 0 0 [] none 0:=by
  refine⟨hW2▸hR▸(Blk.new w0 _ _).alloc _,?_,Sl.nil _ _ _,hW2▸((Chg.refl _ _).alloc _).alloc _,Nat.zero_le _,fun e1 e2=>by omega,fun _ e=>by omega,by simp,fun a ha=>by cases ha⟩;subst hW2 hR;have:=Blk.new (w0.alloc (.cells #[.int .i64 0,.slice none 0 0] 112)) 112 #[.int .i64 0,.slice none 0 0];simpa using this
 have HB:=yH hJ0;have HR:=yH hR;rw[hW2,hR];clear hW2 hR hJ0;go_loopg [5,13] 2 (fun q x i wr=>∃ (k be:Nat) (bl:List Nat) (BA:Option Addr) (bc:Nat),q=2 - k∧k≤2∧i= .int .i64 k∧BstJ w0 wr R ep pg k be bl BA bc)
 case atStart=>exact⟨0,0,[],none,0,rfl,by omega,rfl,HB.out⟩
 case round=>
  obtain⟨k,be,bl,BA,bc,rfl,hk,rfl,hJ⟩:=hrel;have HJ:=yH hJ;clear hJ;by_cases hlt:k< 2
  ·have hkI:(k:Int)< 2:=by omega
   go_wp2_with fail
   refine(H.out.2.1 _ HJ.out.gr k hlt).mono ?_;rintro e w3 ⟨A3,c3,rfl,ho3,hg3⟩;have hps:=H.out.2.2.1 k A3 c3 w3 hlt (Sl.of_own (own_base ho3 (Nat.zero_le _))) (by obtain⟨A',c',e,hc⟩:=own_shape ho3;injection e with e1 e2 e3;omega);have H3:=yH (yA hps hg3);clear hps hg3 ho3;go_wp2_with fail
   refine H3.out.1.mono ?_;rintro e w4 (⟨rfl,hg4,hno⟩ | ⟨e',l',A4,c4,hG,hf,hrt,rfl,hg4,hs4,ha4⟩)
   ·have hg5:Grew w4 (w4.alloc (.cells #[.int .i64 0,.slice none 0 0] 112)):=(Chg.refl _ _).alloc _
    have H5:=yH (yA (Grew.trans H3.out.2 (Grew.trans hg4 hg5)) hno);clear hg4 hno hg5;go_wp2_with fail
    go_roundg (2 - (k+1))
    case measure=>omega
    case rel=>
     refine⟨k+1,be,bl,BA,bc,rfl,by omega,by simp,HJ.out.grew H5.out.1 fun e1 e2=>?_⟩;obtain⟨g1,g2,g3⟩:=H.out.2.2.2.1 e1;rw[e2] at g3;exact absurd ⟨ep,pg,g1,by rw[(yP4 H.out).2 k hlt];exact g2,by rw[(yP4 H.out).2 k hlt];exact g3⟩ H5.out.2
   ·rw [(yP4 H.out).2 k hlt] at hf hrt
    obtain⟨W5,hW5⟩:∃W,w4.alloc (.cells #[.int .i64 (e':Nat),.slice A4 l'.length c4] 112)=W:=⟨_,rfl⟩;have hg5:Grew w4 W5:=hW5▸(Chg.refl _ _).alloc _;have hb5:Blk W5 w4.heap.size 112 #[.int .i64 (e':Nat),.slice A4 l'.length c4]:=hW5▸Blk.new _ _ _;have hg15:=Grew.trans H3.out.2 (Grew.trans hg4 hg5);have hel:e'≤1099511627776:=hG.2.1
    have hll:l'.length≤64:=hG.2.2.1
    have huq:1≤ep→ep % 2=k→ep=e'∧pg=l':=fun e1 e2=>by
     obtain⟨g1,g2,g3⟩:=H.out.2.2.2.1 e1;rw[e2,hrt] at g3;obtain⟨q1,q2⟩:=rootL_inj hf hsm.2.2.2 g3;exact⟨q1.symm,q2.symm⟩
    have hsl:∀W,Grew W5 W→Calls prog 105 #[.agg #[.int .i64 (e':Nat),.slice A4 l'.length c4]] W fun e w'=>e= .returned (.int .i64 ((e' % 2:Nat):Int))∧Grew W w':=fun W _=>slot_any e' (e' % 2) A4 l'.length c4 W (by omega) rfl;have ho:=fun e2=>(yP4 H.out).1 k e' l' hlt hG e2 hrt;have hwz:=HJ.out.gr.size;have hz3:=H3.out.2.size
    have H5:=yH (yA5 hsl hg15 huq ho (yA5 (hs4.grew hg5) (fun a (ha:A4=some a)=>(ha4 a ha)) hb5 hg5 hg4));obtain⟨d0,df0,ds0⟩:=hb5.facts;obtain⟨s,hs⟩:∃s,e' % 2=s:=⟨_,rfl⟩;rw[hs] at H5;clear hsl hg15 huq ho hs4 hg5 hb5 hg4 ha4 hG hf hrt;go_wp2_with fail
    refine(H5.out.1 W5 (Chg.refl _ _)).mono ?_;rintro e w6 ⟨rfl,hg6⟩;have hb6:=(yP6 H5.out).1.grew hg6;have hJ6:=HJ.out.grew (Grew.trans H5.out.2.1 hg6);have hB6:=(HJ.out.b2.grew (Grew.trans H5.out.2.1 hg6));clear d0 df0 ds0;obtain⟨d0,df0,ds0⟩:=hb6.facts;obtain⟨x0,xf0,xs0⟩:=hB6.facts;have H6:=yH (yA3 hg6 hJ6 hB6);clear hg6 hJ6 hb6 hB6;by_cases hsk:s=k
    ·subst hsk
     have hle:=(H5.out.2.2.2.1 rfl).1;by_cases hbe:be< e'
     ·have hbeI:(be:Int)< (e':Int):=by omega
      go_wp2_with fail
      obtain⟨W7,hW7⟩:∃W,(w6.setCell ⟨R+1,0,none⟩ (.int .i64 (e':Nat))).setCell ⟨R+1,1,none⟩ (.slice A4 l'.length c4)=W:=⟨_,rfl⟩;have hc7:Chg (fun j=>j=R+1) w6 W7:=hW7▸((Chg.refl (fun j=>j=R+1) w6).setCell (p:=⟨R+1,0,none⟩) (fun _=>rfl) _).setCell (p:=⟨R+1,1,none⟩) (fun _=>rfl) _
      have hb7:Blk W7 (R+1) 112 #[.int .i64 (e':Nat),.slice A4 l'.length c4]:=by
       have:=(H6.out.2.2.put 0 (.int .i64 (e':Nat))).put 1 (.slice A4 l'.length c4);rw[hW7] at this;simpa using this
      go_roundg (2 - (s+1))
      case measure=>omega
      case rel=>
       rw[hW7];obtain⟨g0,g1,g2,g3,g4,g5,g6,g7,g8⟩:=H5.out;obtain⟨q1,q2,q3⟩:=H6.out;have hRR:=HR.out;have hR2:=HJ.out.b2.lt
       have hA4:∀a,A4=some a→R+1< a.block∧a.block< W7.heap.size:=fun a ha=>by
        have h1:=g5 a ha;have h2:=g7.size;have h3:=q1.size;have h4:=hc7.size;omega
       refine⟨s+1,e',l',A4,c4,rfl,by omega,by simp,⟨(HJ.out.b1.grew (Grew.trans g1 q1)).chg hc7 (by omega),hb7,(g4.grew q1).chg hc7 fun a ha e=>by have:=(hA4 a ha).1;omega,Chg.trans (Grew.trans HJ.out.gr (Grew.trans g1 q1)) hc7 fun j hj e=>by omega,(g3 (by trivial)).1,fun e1 _=>(g3 (by trivial)).2 e1,fun e1 e2=>?_,⟨hel,hll⟩,hA4⟩⟩;by_cases e:ep % 2=s
       ·exact(g2 e1 e).1.symm
       ·have h1:=HJ.out.has e1 (by omega)
        have h2:=(g3 (by trivial)).1;omega
     ·have hbeI:¬ (be:Int)< (e':Int):=by omega
      go_wp2_with fail
      go_roundg (2 - (s+1))
      case measure=>omega
      case rel=>
       refine⟨s+1,be,bl,BA,bc,rfl,by omega,by simp,H6.out.2.1 fun e1 e2=>?_⟩;have h1:=(H5.out.2.2.1 e1 e2).1;have h2:=HJ.out.le;omega
    ·have hskI:((s:Int)==(k:Int))=false:=by simpa using (by omega:¬ (s:Int)=(k:Int))
     go_wp2_with fail
     go_roundg (2 - (k+1))
     case measure=>omega
     case rel=>
      refine⟨k+1,be,bl,BA,bc,rfl,by omega,by simp,H6.out.2.1 fun e1 e2=>?_⟩;have h1:=(H5.out.2.2.1 e1 e2).1;omega
  ·obtain rfl:k=2:=by omega
   obtain⟨c0,f0,s0⟩:=HJ.out.b1.facts;obtain⟨x0,xf0,xs0⟩:=HJ.out.b2.facts;have hm2:ep % 2< 2:=Nat.mod_lt _ (by omega);by_cases he0:ep=0
   ·have hbe:be=0:=by have:=HJ.out.le;omega
    subst hbe;go_wp2_with fail
    refine bodyPost_ret (v:= .tuple #[.agg #[.int .i64 0,.slice none 0 0],.int .i64 14]) (by simp[results,results81,go_sem,c0,f0,s0]) rfl ⟨?_,.inl ⟨he0,rfl⟩⟩;exact(HJ.out.gr.setCell (p:=⟨R,0,none⟩) (fun e=>absurd e (by have:=HR.out;simp only;omega)) _).setCell (p:=⟨R,1,none⟩) (fun e=>absurd e (by have:=HR.out;simp only;omega)) _
   ·have he1:1≤ep:=by omega
    have hbe:=HJ.out.has he1 hm2;subst hbe;have hbl:=HJ.out.eq rfl he1;subst hbl;have hb0:((be:Int)==0)=false:=by simpa using he0
    go_wp2_with fail
    obtain⟨W7,hW7⟩:∃W,(wr.setCell ⟨R,0,none⟩ (.int .i64 (be:Nat))).setCell ⟨R,1,none⟩ (.slice BA bl.length bc)=W:=⟨_,rfl⟩;rw[hW7];have hc7:Chg (fun j=>j=R) wr W7:=hW7▸((Chg.refl (fun j=>j=R) wr).setCell (p:=⟨R,0,none⟩) (fun _=>rfl) _).setCell (p:=⟨R,1,none⟩) (fun _=>rfl) _
    have hb7:Blk W7 R 112 #[.int .i64 (be:Nat),.slice BA bl.length bc]:=by
     have:=(HJ.out.b1.put 0 (.int .i64 (be:Nat))).put 1 (.slice BA bl.length bc);rw[hW7] at this;simpa using this
    clear c0 f0 s0;obtain⟨c0,f0,s0⟩:=hb7.facts;refine bodyPost_ret (v:= .tuple #[.agg #[.int .i64 (be:Nat),.slice BA bl.length bc],.int .i64 0]) (by simp[results,results81,go_sem,c0,f0,s0]) rfl ⟨?_,.inr ⟨he1,BA,bc,rfl,HJ.out.sl.chg hc7 fun a ha e=>by have:=(HJ.out.row a ha).1;omega,fun a ha=>by have:=(HJ.out.row a ha).1;have:=HR.out;omega⟩⟩
    exact Chg.trans HJ.out.gr hc7 fun j hj e=>by have:=HR.out;omega
end
section
open Go.RowKit Go.Maps
theorem trn_get {fe:List Bool} {s i:Nat} (h:s< fe.length) (ht:fe.getD s false=true):(trn fe s).getD i false=if i=s then false else fe.getD i false:=by
 unfold trn;rw[getD_set _ _ _ _ h,ht];rfl
theorem gmark_any (p b s:Nat) (cs:Array Value) (fe:List Bool) (A:Option Addr) (c:Nat) (w:World) (hb:Blk w p 101 cs) (h5:cs[5]? =some (.pointer (some ⟨b,0,none⟩))) (hp:PIn w b fe A c) (h2:2≤s) (hs:s< fe.length) (hf:fe.getD s false=true) (hl:fe.length≤65536) :
  Calls prog 115 #[.pointer (some ⟨p,0,none⟩),.int .i64 s] w fun e w'=>e= .returned (.bool true)∧PIn w' b (trn fe s) A c∧Chg (PF b A) w w':=by
 have c5:=(hb.cell 5).trans h5;have hm:=pmark_any b s fe A c w hp hl
 have hto:toL fe (s:Int) false=(trn fe s,0):=by
  unfold toL;rw[if_neg (by omega),Int.toNat_natCast,hf,if_neg (by simp)]
 rw[hto] at hm;have H:=yH hm;have h2I:(2:Int)≤(s:Int):=by omega
 clear hb h5 hp hm hto;go_enter func115,ntmps115
 go_wp2_with fail
 refine H.out.mono ?_;rintro e w1 ⟨rfl,h3,h4⟩;have H1:=yH (yA h3 h4);clear h3 h4;go_wp2_with fail
 go_ret
 exact⟨rfl,H1.out⟩
structure Acc (fe:List Bool) (n:Nat) (pg:List Nat) (kk:Nat) (tb:List Nat) (m:Nat):Prop where
 len:fe.length=n
 iff:∀s,s< n→(fe.getD s false=false↔s< 2∨(∃j,j< kk∧pg[j]? =some s)∨(∃j,j< m∧tb[j]? =some s))
section
variable {fe:List Bool} {n kk m:Nat} {pg tb:List Nat}
theorem Acc.pg_zero (h:Acc fe n pg kk tb m) (hk:pg[kk]? =some 0):Acc fe n pg (kk+1) tb m:=by
 refine⟨h.len,fun s hs=>(h.iff s hs).trans ⟨?_,?_⟩⟩
 ·rintro(e | ⟨j,e1,e2⟩ | e)
  ·exact .inl e
  ·exact .inr (.inl ⟨j,by omega,e2⟩)
  ·exact .inr (.inr e)
 ·rintro(e | ⟨j,e1,e2⟩ | e)
  ·exact .inl e
  ·by_cases ej:j=kk
   ·subst ej
    rw[hk] at e2;injection e2 with e2;exact .inl (by omega)
   ·exact .inr (.inl ⟨j,by omega,e2⟩)
  ·exact .inr (.inr e)
theorem Acc.pg_one (h:Acc fe n pg kk tb m) {s0:Nat} (hk:pg[kk]? =some s0) (h2:2≤s0) (hn:s0< n) (hd:∀j,j< kk→pg[j]? ≠some s0) (hd2:∀j,j< m→tb[j]? ≠some s0):fe.getD s0 false=true∧Acc (trn fe s0) n pg (kk+1) tb m:=by
 have ht:fe.getD s0 false=true:=by
  cases e:fe.getD s0 false with
  | true=>rfl
  | false=>
   rcases(h.iff s0 hn).1 e with e1 | ⟨j,e1,e2⟩ | ⟨j,e1,e2⟩
   ·omega
   ·exact absurd e2 (hd j e1)
   ·exact absurd e2 (hd2 j e1)
 refine⟨ht,by unfold trn;rw[List.length_set];exact h.len,fun s hs=>?_⟩;rw[trn_get (by rw[h.len];exact hn) ht];by_cases es:s=s0
 ·subst es
  rw[if_pos rfl];exact⟨fun _=> .inr (.inl ⟨kk,by omega,hk⟩),fun _=>rfl⟩
 ·rw [if_neg es]
  refine(h.iff s hs).trans ⟨?_,?_⟩
  ·rintro(e | ⟨j,e1,e2⟩ | e)
   ·exact .inl e
   ·exact .inr (.inl ⟨j,by omega,e2⟩)
   ·exact .inr (.inr e)
  ·rintro(e | ⟨j,e1,e2⟩ | e)
   ·exact .inl e
   ·by_cases ej:j=kk
    ·subst ej
     rw[hk] at e2;injection e2 with e2;exact absurd e2.symm es
    ·exact .inr (.inl ⟨j,by omega,e2⟩)
   ·exact .inr (.inr e)
theorem Acc.tb_low (h:Acc fe n pg kk tb m) (hk:∀s,tb[m]? =some s→s< 2):Acc fe n pg kk tb (m+1):=by
 refine⟨h.len,fun s hs=>(h.iff s hs).trans ⟨?_,?_⟩⟩
 ·rintro(e | e | ⟨j,e1,e2⟩)
  ·exact .inl e
  ·exact .inr (.inl e)
  ·exact .inr (.inr ⟨j,by omega,e2⟩)
 ·rintro(e | e | ⟨j,e1,e2⟩)
  ·exact .inl e
  ·exact .inr (.inl e)
  ·by_cases ej:j=m
   ·subst ej
    exact .inl (hk s e2)
   ·exact .inr (.inr ⟨j,by omega,e2⟩)
theorem Acc.tb_one (h:Acc fe n pg kk tb m) {s0:Nat} (hk:tb[m]? =some s0) (h2:2≤s0) (hn:s0< n) (hd:∀j,j< kk→pg[j]? ≠some s0) (hd2:∀j,j< m→tb[j]? ≠some s0):fe.getD s0 false=true∧Acc (trn fe s0) n pg kk tb (m+1):=by
 have ht:fe.getD s0 false=true:=by
  cases e:fe.getD s0 false with
  | true=>rfl
  | false=>
   rcases(h.iff s0 hn).1 e with e1 | ⟨j,e1,e2⟩ | ⟨j,e1,e2⟩
   ·omega
   ·exact absurd e2 (hd j e1)
   ·exact absurd e2 (hd2 j e1)
 refine⟨ht,by unfold trn;rw[List.length_set];exact h.len,fun s hs=>?_⟩;rw[trn_get (by rw[h.len];exact hn) ht];by_cases es:s=s0
 ·subst es
  rw[if_pos rfl];exact⟨fun _=> .inr (.inr ⟨m,by omega,hk⟩),fun _=>rfl⟩
 ·rw [if_neg es]
  refine(h.iff s hs).trans ⟨?_,?_⟩
  ·rintro(e | e | ⟨j,e1,e2⟩)
   ·exact .inl e
   ·exact .inr (.inl e)
   ·exact .inr (.inr ⟨j,by omega,e2⟩)
  ·rintro(e | e | ⟨j,e1,e2⟩)
   ·exact .inl e
   ·exact .inr (.inl e)
   ·by_cases ej:j=m
    ·subst ej
     rw[hk] at e2;injection e2 with e2;exact absurd e2.symm es
    ·exact .inr (.inr ⟨j,by omega,e2⟩)
theorem Acc.more (h:Acc fe n pg kk tb m) {m':Nat} (hm:m≤m') (hk:∀j s,m≤j→j< m'→tb[j]? =some s→s< 2):Acc fe n pg kk tb m':=by
 refine⟨h.len,fun s hs=>(h.iff s hs).trans ⟨?_,?_⟩⟩
 ·rintro(e | e | ⟨j,e1,e2⟩)
  ·exact .inl e
  ·exact .inr (.inl e)
  ·exact .inr (.inr ⟨j,by omega,e2⟩)
 ·rintro(e | e | ⟨j,e1,e2⟩)
  ·exact .inl e
  ·exact .inr (.inl e)
  ·by_cases ej:j< m
   ·exact .inr (.inr ⟨j,ej,e2⟩)
   ·exact .inl (hk j s (by omega) e1 e2)
end
def tblU (tb:List Nat) (C m:Nat):List Nat:=(List.range C).map fun j=>if j< m then tb.getD j 0 else 0
theorem tblU_len (tb:List Nat) (C m:Nat):(tblU tb C m).length=C:=by simp[tblU]
theorem tblU_at {tb:List Nat} {C m j:Nat} (h:j< C):(tblU tb C m)[j]? =some (if j< m then tb.getD j 0 else 0):=by simp[tblU,h]
theorem tblU_set {tb:List Nat} {C m:Nat} (h:m< C):(tblU tb C m).set m (tb.getD m 0)=tblU tb C (m+1):=by
 apply List.ext_getElem?
 intro j;by_cases hj:j< C
 ·rw[List.getElem?_set,tblU_at hj,tblU_at hj,tblU_len]
  by_cases e:m=j
  ·subst e
   rw[if_pos rfl,if_pos h,if_pos (by omega)]
  ·rw[if_neg e]
   by_cases e1:j< m
   ·rw[if_pos e1,if_pos (by omega)]
   ·rw[if_neg e1,if_neg (by omega)]
 ·rw[List.getElem?_eq_none (by rw[List.length_set,tblU_len];omega),List.getElem?_eq_none (by rw[tblU_len];omega)]
theorem tblU_skip {tb:List Nat} {C m m':Nat} (hm:m≤m') (h:∀j,m≤j→j< m'→tb.getD j 0=0):tblU tb C m'=tblU tb C m:=by
 unfold tblU;refine List.map_congr_left fun j _=>?_;by_cases e:j< m
 ·rw[if_pos e,if_pos (by omega)]
 ·rw[if_neg e]
  split
  ·exact h j (by omega) (by assumption)
  ·rfl
theorem tblU_all {tb:List Nat} {C m:Nat} (hl:tb.length=C) (hm:C≤m):tblU tb C m=tb:=by
 apply List.ext_getElem?
 intro j;by_cases hj:j< C
 ·rw[tblU_at hj,if_pos (by omega),List.getD_eq_getElem?_getD,List.getElem?_eq_getElem (by omega)]
  rfl
 ·rw[List.getElem?_eq_none (by rw[tblU_len];omega),List.getElem?_eq_none (by omega)]
end
section
open Go.RowKit Go.Maps
theorem pair_at (f g:Nat→Int):∀ (l:List Nat) (i a:Nat),l[i]? =some a→(l.flatMap fun x=>[f x,g x])[2*i]? =some (f a)∧(l.flatMap fun x=>[f x,g x])[2*i+1]? =some (g a)
 | [],i,a,h=>by simp at h
 | x :: l,0,a,h=>by simp at h;subst h;simp
 | x :: l,i+1,a,h=>by
  have:=pair_at f g l i a (by simpa using h);rw[show 2*(i+1)=2*i+1+1 by omega];simpa using this
theorem tabL_at {tb:List Nat} {row sz k i:Nat} (h:i< row):(tabL tb row sz k)[2*i]? =some ((tb.getD (k*row+i) 0 % 256:Nat):Int)∧(tabL tb row sz k)[2*i+1]? =some ((tb.getD (k*row+i) 0 / 256 % 256:Nat):Int):=by
 have hp:=pair_at (fun i=>((tb.getD (k*row+i) 0 % 256:Nat):Int)) (fun i=>((tb.getD (k*row+i) 0 / 256 % 256:Nat):Int)) (List.range row) i i (by simp[h])
 have hl:∀ (l:List Nat),(l.flatMap fun x=>[((tb.getD (k*row+x) 0 % 256:Nat):Int),((tb.getD (k*row+x) 0 / 256 % 256:Nat):Int)]).length=2*l.length:=fun l=>by
  induction l with
  | nil=>rfl
  | cons a l ih=>simp only[List.flatMap_cons,List.length_append,List.length_cons,List.length_nil];omega
 unfold tabL;rw[List.getElem?_append_left (by rw[hl,List.length_range];omega),List.getElem?_append_left (by rw[hl,List.length_range];omega)];exact hp
theorem tabL_odd {tb:List Nat} {row sz k:Nat} (h:2*row< sz) (h2:sz≤2*row+1):(tabL tb row sz k)[sz - 1]? =some 0:=by
 have hl:∀ (l:List Nat),(l.flatMap fun x=>[((tb.getD (k*row+x) 0 % 256:Nat):Int),((tb.getD (k*row+x) 0 / 256 % 256:Nat):Int)]).length=2*l.length:=fun l=>by
  induction l with
  | nil=>rfl
  | cons a l ih=>simp only[List.flatMap_cons,List.length_append,List.length_cons,List.length_nil];omega
 unfold tabL;rw[List.getElem?_append_right (by rw[hl,List.length_range];omega),hl,List.length_range];rw[show sz - 1 - 2*row=0 by omega,show sz - 2*row=1 by omega];rfl
section
variable {w0 W W':World} {p d row g1 g2 b T C ep c:Nat} {pg tbl:List Nat} {fe fe':List Bool} {A:Option Addr}
theorem LoJ.grew (h:LoJ w0 W p d row g1 g2 b T C ep pg tbl fe A c) (hg:Grew W W'):LoJ w0 W' p d row g1 g2 b T C ep pg tbl fe A c:=
 ⟨h.blk.grew hg,h.t1.grew hg,h.t2.grew hg,h.pool.grew hg,h.ne,h.new,Grew.trans h.gr hg⟩
theorem LoJ.marked (h:LoJ w0 W p d row g1 g2 b T C ep pg tbl fe A c) (hp:PIn W' b fe' A c) (hc:Chg (PF b A) W W'):LoJ w0 W' p d row g1 g2 b T C ep pg tbl fe' A c:=
 ⟨h.blk.chg hc (pf_ne h.pool h.blk (by decide) (by decide)),h.t1.chg hc (pf_ne h.pool h.t1 (by decide) (by decide)),h.t2.chg hc (pf_ne h.pool h.t2 (by decide) (by decide)),hp,h.ne,h.new,Chg.trans h.gr hc fun j hj e=>by have:=h.new.2.2.2 j e;omega⟩
theorem LoJ.entry (h:LoJ w0 W p d row g1 g2 b T C ep pg tbl fe A c) {i s:Nat} (hW:W.setCell ⟨g2,i,none⟩ (.int .i64 (s:Nat))=W'):LoJ w0 W' p d row g1 g2 b T C ep pg (tbl.set i s) fe A c:=by
 have hc:Chg (fun j=>j=g2) W W':=hW▸(Chg.refl (fun j=>j=g2) W).setCell (p:=⟨g2,i,none⟩) (fun _=>rfl) _;have hpn:=pf_ne h.pool h.t2 (by decide) (by decide);refine⟨h.blk.chg hc fun e=>?_,h.t1.chg hc h.ne,?_,h.pool.chg hc fun j hj e=>hpn (e▸hj),h.ne,h.new,Chg.trans h.gr hc fun j hj e=>by have:=h.new.2.2.1;omega⟩
 ·have h1:=h.blk
  rw[e] at h1;have:=h.t2;unfold Blk at h1 this;rw[this] at h1;injection h1 with h1;injection h1 with h1a h1b;exact absurd h1b (by decide)
 ·have:=h.t2.put i (.int .i64 (s:Nat))
  rw[hW] at this;have e:(nv tbl).toArray.setIfInBounds i (.int .i64 (s:Nat))=(nv (tbl.set i s)).toArray:=by simp[nv,List.map_set]
  rw[←e];exact this
end
theorem gload_any (p d g1 g2 b k ep:Nat) (pg tb:List Nat) (fe fe0:List Bool) (A:Option Addr) (c:Nat) (F:Nat→Prop) (D:Dk) (w0 w:World) (hI:Inv D ep pg tb tb fe0 (fun _=>false) [] (fun _=>false)) (hD:DS w0 d F D) (hdn:D.down=false)
  (hJ:LoJ w0 w p d (D.sz / 2) g1 g2 b pg.length tb.length ep pg (tblU tb tb.length (k*(D.sz / 2))) fe A c) (hA:Acc fe D.n pg k tb (k*(D.sz / 2))) (hk:k< pg.length) :
  Calls prog 82 #[.pointer (some ⟨p,0,none⟩),.int .i64 k] w fun e w'=>e= .returned (.int .i64 0)∧∃fe',LoJ w0 w' p d (D.sz / 2) g1 g2 b pg.length tb.length ep pg (tblU tb tb.length ((k+1)*(D.sz / 2))) fe' A c∧Acc fe' D.n pg (k+1) tb ((k+1)*(D.sz / 2)):=by
 obtain⟨z1,z2,z3,z4⟩:=hI.sz;obtain⟨s,hs⟩:∃s,pg[k]? =some s:=⟨_,List.getElem?_eq_getElem hk⟩;obtain⟨row,hrow⟩:∃r,D.sz / 2=r:=⟨_,rfl⟩;rw[hrow] at hJ hA ⊢;have hT64:pg.length≤64:=hI.pg64;have hC:tb.length≤4096:=by rw[hI.lens.2.2.1];unfold capN;split<;>omega
 have hck:w.cell? ⟨g1,k,none⟩=some (.int .i64 (s:Nat)):=by
  have:=hJ.t1.cell k;rw[this];simp[nv,hs]
 obtain⟨c0,f0,s0⟩:=hJ.blk.facts;have hkI:(k:Int)< (pg.length:Int):=by omega
 by_cases hs0:s=0
 ·subst hs0
  have h0:=hI.dur.tab0 k hs;rw[hrow] at h0;have H:=yH (yA4 hJ hA hs h0);clear hJ hA hs h0 hI hD;go_enter func82,ntmps82
  go_wp2_with fail
  go_ret
  obtain⟨hJ,hA,hs,h0⟩:=H.out
  have hz:∀j,k*row≤j→j< (k+1)*row→tb.getD j 0=0:=fun j h1 h2=>by
   have:=h0 (j - k*row) (by rw[Nat.add_mul,Nat.one_mul] at h2;omega);rwa[show k*row+(j - k*row)=j by omega] at this
  have hle:k*row≤(k+1)*row:=Nat.mul_le_mul_right _ (by omega);refine⟨rfl,fe,?_,(hA.pg_zero hs).more hle fun j s' h1 h2 h3=>?_⟩
  ·rw[tblU_skip hle hz]
   exact hJ
  ·have:=hz j h1 h2
   rw[List.getD_eq_getElem?_getD,h3] at this;simp at this
   omega
 ·obtain⟨hs2,hsn⟩:=hI.rP k s hs hs0
  obtain⟨ht,hA1⟩:=hA.pg_one hs hs2 hsn (fun j hj e=>by have:=hI.jP j k s e hs hs0;omega) (fun j hj e=>by have:=hI.dis k j s hs e;omega);have hmk:=gmark_any p b s _ fe A c w hJ.blk rfl hJ.pool hs2 (by rw[hA.len];exact hsn) ht (by rw[hA.len];omega);have htab:=hI.dur.tabs k s hs hs0;rw[hrow] at htab;have hs0I:((s:Int)==0)=false:=by simpa using hs0
  have H:=yH (yA5 hmk hJ hA1 hI (yA3 hD htab hs));clear hmk hJ hA hA1 hI hD htab ht;go_enter func82,ntmps82
  go_wp2_with fail
  refine H.out.1.mono ?_;rintro e w1 ⟨rfl,hp1,hc1⟩;have hJ1:=H.out.2.1.marked hp1 hc1;have hD1:=(yP4 H.out).1.grew hJ1.gr;have hrd:=dread_ok d s F D w1.drew (hD1.grew (Chg.refl NoF _).drew) hdn (by omega) (by omega)
  have hS1:w1.drew.cell? ⟨p,0,none⟩=some (.pointer (some ⟨d,0,none⟩))∧w1.drew.cell? ⟨p,3,none⟩=some (.slice (some ⟨g1,0,none⟩) pg.length pg.length)∧w1.drew.cell? ⟨g1,k,none⟩=some (.int .i64 (s:Nat)):=⟨hJ1.blk.drew.cell 0,hJ1.blk.drew.cell 3,by have:=hJ1.t1.drew.cell k;rw[this];simp[nv,(yP6 H.out)]⟩;have H1:=yH (yA3 hrd hJ1 hD1)
  clear hp1 hc1 hJ1 hD1 hrd c0 f0 s0 hck;go_wp2_with fail
  refine wp_region_held_drew (S:=fun w'=>w'.cell? ⟨p,0,none⟩=some (.pointer (some ⟨d,0,none⟩))∧w'.cell? ⟨p,3,none⟩=some (.slice (some ⟨g1,0,none⟩) pg.length pg.length)∧w'.cell? ⟨g1,k,none⟩=some (.int .i64 (s:Nat))) (by kernel_rfl) hS1 (fun hHeld=>?_);refine Todo.out (is:=[0,1,2,3,4,5,6,7,8,9,10]) ?_
  repeat
   refine tkH (v:=?_) rfl (Or.inl ⟨by rfl,?_⟩) hHeld ?_;rotate_left
   ·(intro w hSw;(try dsimp only at hSw);go_simp)<;>with_reducible rfl
   (try simp only[Act.put,lZ])
  refine Todo.fin ?_;refine rdH (i:=11) (by kernel_rfl) rfl fun K hK=>?_;go_simp;refine H1.out.1.mono ?_;rintro e w2 ⟨A2,c2,rfl,ho2,hg2⟩;have hg12:Grew w1 w2:=Grew.trans ((Chg.refl NoF _).drew) hg2;have hJ2:=H1.out.2.1.grew hg12
  have hS2:w2.cell? ⟨p,0,none⟩=some (.pointer (some ⟨d,0,none⟩))∧w2.cell? ⟨p,3,none⟩=some (.slice (some ⟨g1,0,none⟩) pg.length pg.length)∧w2.cell? ⟨g1,k,none⟩=some (.int .i64 (s:Nat)):=⟨hJ2.blk.cell 0,hJ2.blk.cell 3,by have:=hJ2.t1.cell k;rw[this];simp[nv,(yP6 H.out)]⟩;rw[(yP4 H.out).2.1] at ho2;have hs2l:=Sl.of_own ho2
  have H2:=yH (yA4 hJ2 hs2l (own_rng ho2) hg12.size);clear ho2 hg2 hg12 hJ2 hs2l;refine hK.out _ _ hS2 (fun _=>?_);clear hK K;(try simp only[Act.put,lZ])
  refine Todo.out (is:=[12,13,14,15,16]) ?_
  repeat
   refine tkH (v:=?_) rfl (Or.inl ⟨by rfl,?_⟩) hS2 ?_;rotate_left
   ·(intro w hSw;(try dsimp only at hSw);go_simp)<;>with_reducible rfl
   (try simp only[Act.put,lZ])
  refine Todo.fin ?_;refine wpAnyH_done (by kernel_rfl) ?_ _;clear hHeld hS1 hS2;obtain⟨c0,f0,s0⟩:=H2.out.1.blk.facts;go_wp2_with fail
  clear c0 f0 s0;obtain⟨ga,oa,rfl,hga, -⟩:=H2.out.2.1.2 (by omega);have hgn:=H2.out.2.2.1 ⟨ga,oa,none⟩ rfl;have HG:=yH (yA hgn hga);have hrr:2*row≤D.sz:=by omega
  clear hgn hga;go_loopg [50] row (fun n iv wr=>∃ (i:Nat) (fe':List Bool),n=row - i∧i≤row∧iv= .int .i64 i∧LoJ w0 wr p d row g1 g2 b pg.length tb.length ep pg (tblU tb tb.length (k*row+i)) fe' A c∧Acc fe' D.n pg (k+1) tb (k*row+i)∧Sl wr 1 (some ⟨ga,oa,none⟩) D.sz (bv (tabL tb row D.sz k)))
  case atStart=>exact⟨0,trn fe s,rfl,Nat.zero_le _,rfl,H2.out.1,H.out.2.2.1,H2.out.2.1⟩
  case round=>
   obtain⟨i,fe',rfl,hi,rfl,hJ,hA,hsl⟩:=hrel;obtain⟨c0,f0,s0⟩:=hJ.blk.facts;by_cases hlt:i< row
   ·obtain⟨v,hv⟩:∃v,tb.getD (k*row+i) 0=v:=⟨_,rfl⟩
    have hv4:v< 4096:=by
     rw[List.getD_eq_getElem?_getD] at hv
     cases e:tb[k*row+i]? with
     | none=>rw[e] at hv;simp at hv;omega
     | some q=>rw[e] at hv;simp at hv;have:=H.out.2.2.2.1.rO _ _ e;omega
    obtain⟨t0,t1⟩:=tabL_at (tb:=tb) (sz:=D.sz) (k:=k) hlt;rw[hv] at t0 t1;obtain⟨gb,ob,eA, -,hx⟩:=hsl.2 (by omega);simp only[Option.some.injEq,Addr.mk.injEq,and_true] at eA;obtain⟨rfl,rfl⟩:=eA;have d0:wr.cell? ⟨ga,oa+2*i,none⟩=some (.int .u8 ((v % 256:Nat):Int)):=hx (2*i) _ (by simp[bv,t0])
    have d1:wr.cell? ⟨ga,oa+(2*i+1),none⟩=some (.int .u8 ((v / 256 % 256:Nat):Int)):=hx (2*i+1) _ (by simp[bv,t1]);have hor:=or_le2 (v % 256) (v / 256 % 256) (by omega) (by omega);rw[show v % 256+256*(v / 256 % 256)=v by omega] at hor;have hor':bits BinOp.or IntKind.i64 ((v:Int) % 256) ((v:Int) / 256 % 256*256)=(v:Int):=by simpa using hor
    obtain⟨kr,hkr⟩:∃r,k*row=r:=⟨_,rfl⟩;have hkrI:(k:Int)*(row:Int)=(kr:Int):=by rw[←hkr];simp
    have hkr9:kr≤131072:=by rw[←hkr];exact Nat.le_trans (Nat.mul_le_mul (show k≤64 by omega) (show row≤2048 by omega)) (by omega)
    rw[hkr] at hJ hA hv;have hiI:(i:Int)< (row:Int):=by omega
    have hi9:(i:Int)≤4096:=by omega
    have hk9:(k:Int)≤64:=by omega
    have hr9:(row:Int)≤4096:=by omega
    have i1:2*(i:Int)< (D.sz:Int):=by omega
    have i2:2*(i:Int)+1< (D.sz:Int):=by omega
    have HJ:=yH (yA4 hJ hA hsl hv);clear hJ hA hsl hx t0 t1 hv;go_wp2_with fail
    go_quiet (fail)
    try simp only[hor']
    have hJq:=HJ.out.1.grew ((Chg.refl NoF wr).drewN nq);have hslq:=HJ.out.2.2.1.grew ((Chg.refl NoF wr).drewN nq);clear c0 f0 s0 d0 d1 hor hor';obtain⟨W3,hW3⟩:∃W,wr.drewN nq=W:=⟨_,rfl⟩;rw[hW3] at hJq hslq ⊢;obtain⟨c0,f0,s0⟩:=hJq.blk.facts;have HQ:=yH (yA hJq hslq);clear hJq hslq hW3;by_cases hv0:v=0
    ·subst hv0
     go_wp2_with fail
     go_roundg (row - (i+1))
     case measure=>omega
     case rel=>
      refine⟨i+1,fe',rfl,by omega,by simp,?_,?_,HQ.out.2⟩
      ·rw[hkr,←Nat.add_assoc,tblU_skip (Nat.le_succ _) fun j h1 h2=>by rw[show j=kr+i by omega];exact HJ.out.2.2.2]
       exact HQ.out.1
      ·rw[hkr,←Nat.add_assoc]
       exact HJ.out.2.1.tb_low fun q hq=>by have:=HJ.out.2.2.2;rw[List.getD_eq_getElem?_getD,hq] at this;simp at this;omega
    ·have hvat:tb[kr+i]? =some v:=by
      have:=HJ.out.2.2.2;rw[List.getD_eq_getElem?_getD] at this
      cases e:tb[kr+i]? with
      | none=>rw[e] at this;simp at this;omega
      | some q=>rw[e] at this;simp at this;rw[this]
     have hlt2:kr+i< tb.length:=(List.getElem?_eq_some_iff.1 hvat).1;have hv0I:((v:Int)==0)=false:=by simpa using hv0
     have hgeI:¬ (tb.length:Int)≤(kr:Int)+(i:Int):=by omega
     have hltI:(kr:Int)+(i:Int)< (tb.length:Int):=by omega
     by_cases hv1:v=1
     ·subst hv1
      have hce:W3.cell? ⟨g2,kr+i,none⟩=some (.int .i64 0):=by
       have:=HQ.out.1.t2.cell (kr+i);rw[this];simp[nv,tblU_at hlt2,hkr]
      have hcf:=HQ.out.1.t2.frozen (kr+i);go_wp2_with fail
      go_roundg (row - (i+1))
      case measure=>omega
      case rel=>
       have hJ4:=HQ.out.1.entry (i:=kr+i) (s:=1) rfl;have e1:=tblU_set (tb:=tb) (C:=tb.length) hlt2;rw[HJ.out.2.2.2] at e1;rw[e1] at hJ4;refine⟨i+1,fe',rfl,by omega,by simp,?_,?_,HQ.out.2.chg ((Chg.refl (fun j=>j=g2) W3).setCell (p:=⟨g2,kr+i,none⟩) (fun _=>rfl) _) fun a ha e=>?_⟩
       ·rw[hkr,←Nat.add_assoc]
        exact hJ4
       ·rw[hkr,←Nat.add_assoc]
        exact HJ.out.2.1.tb_low fun q hq=>by rw[hvat] at hq;injection hq with hq;omega
       ·injection ha with ha
        have h1:=HG.out.1.1;have h2:=H1.out.2.1.t2.lt;have h3:=congrArg Addr.block ha;simp at h1 h3
        omega
     ·have hv2:2≤v:=by omega
      have hvn:v< D.n:=H.out.2.2.2.1.rO _ _ hvat;have hv1I:((v:Int)==1)=false:=by simpa using (by omega:¬ (v:Int)=1)
      have hv1N:((v:Int) !=1)=true:=by simpa using (by omega:¬ (v:Int)=1)
      obtain⟨ht,hA2⟩:=HJ.out.2.1.tb_one hvat hv2 hvn (fun j hj e=>by have:=H.out.2.2.2.1.dis j _ v e hvat;omega) (fun j hj e=>by have:=H.out.2.2.2.1.jO j _ v e hvat hv2;omega);have hmk:=gmark_any p b v _ fe' A c W3 HQ.out.1.blk rfl HQ.out.1.pool hv2 (by rw[HJ.out.2.1.len];exact hvn) ht (by rw[HJ.out.2.1.len];omega);have HM:=yH (yA hmk hA2);clear hmk ht hA2
      go_wp2_with fail
      refine HM.out.1.mono ?_;rintro e w4 ⟨rfl,hp4,hc4⟩;have hJ4:=HQ.out.1.marked hp4 hc4
      have hce:w4.cell? ⟨g2,kr+i,none⟩=some (.int .i64 0):=by
       have:=hJ4.t2.cell (kr+i);rw[this];simp[nv,tblU_at hlt2,hkr]
      have hcf:=hJ4.t2.frozen (kr+i);have H4:=yH (yA3 hJ4 hc4 hp4);clear c0 f0 s0;obtain⟨c0,f0,s0⟩:=hJ4.blk.facts;clear hJ4 hc4 hp4;go_wp2_with fail
      go_roundg (row - (i+1))
      case measure=>omega
      case rel=>
       have hJ5:=H4.out.1.entry (i:=kr+i) (s:=v) rfl;have e1:=tblU_set (tb:=tb) (C:=tb.length) hlt2;rw[HJ.out.2.2.2] at e1;rw[e1] at hJ5;have hga2:w1.heap.size≤ga:=by have:=HG.out.1.1;simpa using this
       have hpl:=H1.out.2.1.pool;refine⟨i+1,trn fe' v,rfl,by omega,by simp,?_,?_,(HQ.out.2.chg H4.out.2.1 fun a ha e=>?_).chg ((Chg.refl (fun j=>j=g2) w4).setCell (p:=⟨g2,kr+i,none⟩) (fun _=>rfl) _) fun a ha e=>?_⟩
       ·rw[hkr,←Nat.add_assoc]
        exact hJ5
       ·rw[hkr,←Nat.add_assoc]
        exact HM.out.2
       ·injection ha with ha
        have h3:=congrArg Addr.block ha;simp only at h3;rcases e with e | ⟨a',ea,e⟩
        ·have:=hpl.blk.lt;omega
        ·have:=(own_rng hpl.own a' ea).2;omega
       ·injection ha with ha
        have h2:=H1.out.2.1.t2.lt;have h3:=congrArg Addr.block ha;simp only at h3;omega
   ·obtain rfl:i=row:=by omega
    have hsz:=dsize_any d F D wr ((yP4 H.out).1.grew hJ.gr);obtain⟨gb,ob,eA, -,hx⟩:=hsl.2 (by omega);simp only[Option.some.injEq,Addr.mk.injEq,and_true] at eA;obtain⟨rfl,rfl⟩:=eA
    have hodd:D.sz=2*i∨(D.sz=2*i+1∧wr.cell? ⟨ga,oa+(D.sz - 1),none⟩=some (.int .u8 0)):=by
     by_cases e:D.sz=2*i
     ·exact .inl e
     ·refine .inr ⟨by omega,hx (D.sz - 1) _ ?_⟩
      have:=tabL_odd (tb:=tb) (row:=i) (sz:=D.sz) (k:=k) (by omega) (by omega);simp[bv,this]
    have HJ:=yH (yA3 hsz hJ hA);clear hsz hJ hA hsl hx hlt hi;have hr0:∀r:Nat,D.sz % 2=r→((D.sz:Int).tmod 2=(r:Int)∧(D.sz:Int) % 2=(r:Int)):=fun r hr=>⟨by rw[Int.tmod_eq_emod_of_nonneg (by omega)];omega,by omega⟩;rcases hodd with h0 | ⟨h1,hcl⟩
    case' _=>
     obtain⟨q1,q2⟩:=hr0 0 (by omega)
    rotate_left
    case' _=>
     obtain⟨q1,q2⟩:=hr0 1 (by omega);rw[show D.sz - 1=2*i by omega] at hcl;have q3:((D.sz:Int) - 1).toNat=2*i:=by omega
     have q4:(0:Int)≤(D.sz:Int) - 1:=by omega
    rotate_left
    all_goals
     clear hr0;go_wp2_with fail
     refine HJ.out.1.mono ?_;rintro e w5 ⟨rfl,rfl⟩;go_wp2_with fail
     go_ret
     rw[show(k+1)*i=k*i+i by rw[Nat.add_mul,Nat.one_mul]];exact⟨rfl,fe',HJ.out.2⟩
end
section
open Go.RowKit Go.Maps
theorem acc_start {n:Nat} (hn:2≤n) (pg tb:List Nat):Acc (mkd n 2) n pg 0 tb 0:=by
 refine⟨mkd_len n 2,fun s hs=>?_⟩;rw[mkd_at n 2 s hn];simp[hs]
theorem tblU_none (tb:List Nat) (C:Nat):tblU tb C 0=List.replicate C 0:=by
 apply List.ext_getElem?
 intro j;by_cases hj:j< C
 ·rw[tblU_at hj,if_neg (by omega),List.getElem?_replicate,if_pos hj]
 ·rw[List.getElem?_eq_none (by rw[tblU_len];omega),List.getElem?_eq_none (by simp;omega)]
theorem gopen_known (d ep:Nat) (pg tb:List Nat) (fe0:List Bool) (F:Nat→Prop) (D:Dk) (w:World) (hI:Inv D ep pg tb tb fe0 (fun _=>false) [] (fun _=>false)) (h:DS w d F D) (hd:D.down=false) (hT:TabAt 0 tab w) (h0:¬F 0) (he:1≤ep) (hpos:0< pg.length) :
  Calls prog 33 #[.pointer (some ⟨d,0,none⟩)] w fun e w'=>∃p F',e= .returned (.tuple #[.pointer (some ⟨p,0,none⟩),.int .i64 0])∧(∃fe,Acc fe D.n pg pg.length tb tb.length∧GS w' p F' ⟨D,ep,D.sz / 2,pg,tb,fe,none,false⟩)∧Grew w w'∧∀j,F' j→F j∨w.heap.size≤j:=by
 obtain⟨z1,z2,z3,z4⟩:=hI.sz;have hC:=hI.lens.2.2.1;have hTl:=hI.lens.2.1
 have hG:GoodR ep pg:=⟨he,hI.epo,hI.pg64,fun s hs=>by
  obtain⟨k,hk⟩:=List.mem_iff_getElem?.1 hs;by_cases e:s=0
  ·omega
  ·have:=(hI.rP k s hk e).2
   omega⟩
 have hfit:(bodyL ep pg).length+14≤D.sz:=body_fits (by rw[hTl];exact tabN_fit (by rw[←hTl];exact hpos)) hI.epo hG.2.2.2
 have hcov:tb.length≤pg.length*(D.sz / 2):=by
  by_cases e:tb.length≤pg.length*(D.sz / 2)
  ·exact e
  ·have h1:=hI.part (i:=pg.length*(D.sz / 2)) (by omega)
   rw[Nat.mul_div_cancel _ (by omega)] at h1;omega
 refine(gopen_gen d F D w (fun k tbl fe=>tbl=tblU tb tb.length (k*(D.sz / 2))∧Acc fe D.n pg k tb (k*(D.sz / 2))) ep pg h hd hT h0 z1 z3 (fun W hW=>load_any d F D ep pg W hW hd (by omega) (by omega) hI.epo (fun e=>⟨hG,hfit,hI.dur.root e⟩) hI.dur.other (fun i hi=>hI.byt i (by omega))) (fun _=>⟨hTl,hpos,?_,?_⟩) hI.epo (fun p g1 g2 b A c k tbl fe w0 W hJ hD hq hk=>?_) (fun k tbl fe hq=>?_)).mono ?_
 ·rw[Nat.zero_mul,tblU_none,hC]
 ·rw[Nat.zero_mul]
  exact acc_start (by omega) pg tb
 ·obtain⟨rfl,hA⟩:=hq
  rw[←hC] at hJ;refine(gload_any p d g1 g2 b k ep pg tb fe fe0 A c F D w0 W hI hD hd hJ hA hk).mono ?_;rintro e w' ⟨rfl,fe',h1,h2⟩;rw[←hC];exact⟨rfl,_,fe',h1,rfl,h2⟩
 ·rw[hq.1,tblU_len,hC]
 ·rintro e w' ⟨p,F',rfl,⟨e0, -⟩ | ⟨-,tbl,fe,⟨rfl,hA⟩,hS⟩,hg,hnw⟩
  ·omega
  ·rw[tblU_all rfl hcov] at hS
   refine⟨p,F',rfl,⟨fe,⟨hA.len,fun s hs=>(hA.iff s hs).trans ⟨?_,?_⟩⟩,hS⟩,hg,hnw⟩
   ·rintro(e | e | ⟨j,e1,e2⟩)
    ·exact .inl e
    ·exact .inr (.inl e)
    ·exact .inr (.inr ⟨j,(List.getElem?_eq_some_iff.1 e2).1,e2⟩)
   ·rintro(e | e | ⟨j,e1,e2⟩)
    ·exact .inl e
    ·exact .inr (.inl e)
    ·exact .inr (.inr ⟨j,by omega,e2⟩)
end
section
open Go.RowKit Go.Maps
open Go.ChangeMaps (setBlock)
def Dk.crashed (D:Dk):Dk:= { D with cache:=fun _=>none,armed:=false,left:= -1,down:=false }
theorem Dk.crashed_rd (D:Dk) (i:Nat):D.crashed.rd (i:Int)=D.data i:=by
 unfold Dk.crashed;rw[Dk.rd_none rfl];simp
theorem Dk.crashed_same (D:Dk) (i:Nat) (h:D.cache (i:Int)=none):D.crashed.rd (i:Int)=D.rd (i:Int):=by
 rw[D.crashed_rd,Dk.rd_none h];simp
theorem darm_no (d:Nat) (cs:Array Value) (w:World) (hb:Blk w d 120 cs) (hs:7≤cs.size) :
  Calls prog 75 #[.pointer (some ⟨d,0,none⟩),.int .i64 (-1)] w fun e w'=>e= .returned (.tuple #[])∧Blk w' d 120 ((cs.set! 3 (.bool false)).set! 4 (.int .i64 (-1)))∧Chg (fun j=>j=d) w w':=by
 obtain⟨c0,f0,s0⟩:=hb.facts;have k3:∃v,cs[3]? =some v:=⟨_,Array.getElem?_eq_getElem (by omega)⟩;have k4:∃v,cs[4]? =some v:=⟨_,Array.getElem?_eq_getElem (by omega)⟩;obtain⟨v3,k3⟩:=k3;obtain⟨v4,k4⟩:=k4;have c3:=(c0 3).trans k3;have c4:=(c0 4).trans k4;have H:=yH hb;clear hb c0 k3 k4;go_enter func75,ntmps75
 go_wp2
 refine bodyPost_end (results_none rfl _ _ _) rfl ?_;obtain⟨W1,hW1⟩:∃W,(w.setCell ⟨d,3,none⟩ (.bool false)).setCell ⟨d,4,none⟩ (.int .i64 (-1))=W:=⟨_,rfl⟩;rw[hW1];refine⟨rfl,?_,hW1▸((Chg.refl (fun j=>j=d) w).setCell (p:=⟨d,3,none⟩) (fun _=>rfl) _).setCell (p:=⟨d,4,none⟩) (fun _=>rfl) _⟩;have:=(H.out.put 3 (.bool false)).put 4 (.int .i64 (-1))
 rw[hW1] at this;exact this
structure CrJ (w W:World) (M it s q:Nat) (cm:Int→Option Value) (left:Int→Bool):Prop where
 it_:IIt prog 3 W M it cm s left q
 gr:Grew w W
theorem dcrash_ok (d:Nat) (cut:Int) (F:Nat→Prop) (D:Dk) (w:World) (h:DS w d F D) :
  Calls prog 32 #[.pointer (some ⟨d,0,none⟩),.agg #[.slice none 0 0,.int .i64 (-1),.int .i64 cut]] w fun e w'=>e= .returned (.tuple #[])∧DTo w w' d F D.crashed:=by
 obtain⟨⟨A,c,M,s,vs,cm,hiw⟩,hl0⟩:=h;obtain⟨W0,hW0⟩:∃W,w.alloc (.cells #[.slice none 0 0,.int .i64 (-1),.int .i64 cut] 62)=W:=⟨_,rfl⟩;have hg0:Grew w W0:=hW0▸(Chg.refl _ _).alloc _;have hx0:Blk W0 w.heap.size 62 #[.slice none 0 0,.int .i64 (-1),.int .i64 cut]:=hW0▸Blk.new _ _ _;have hi:=hiw.chg hg0 fun _ _=>id
 obtain⟨w2,hrg,hI2,hg2,hz2⟩:=hi.map.range_ (t:=118) kInt underlying118;obtain⟨it,hit⟩:∃it,W0.heap.size=it:=⟨_,rfl⟩;rw[hit] at hrg hI2;have hsm:=hi.sml;obtain⟨c0,f0,s0⟩:=hi.blk.facts;have HJ0:=yH (show CrJ W0 w2 M it s s cm (fun i=>(cm i).isSome) from⟨hI2,hg2⟩);have hdl:=hl0 d hi.inF.1;have H:=yH (yA5 hi hl0 hW0 hg0 (yA3 hx0 hit hdl))
 clear hi hl0 hg0 hx0 hg2 hI2 hiw hz2;go_enter func32,ntmps32
 go_wp2_with fail
 clear hrg c0 f0;go_loopg [] s (fun q wr=>∃left:Int→Bool,CrJ W0 wr M it s q cm left)
 case atStart=>exact⟨_,HJ0.out⟩
 case round=>
  obtain⟨left,hJ⟩:=hrel;obtain⟨ob,hob⟩:=hJ.it_.has;rcases hJ.it_.next kInt underlying3 0 with ⟨h0,hl,hrun⟩ | ⟨i,v,w3,q',hli,hmi,hrun,hI3,hq,hk3,hz3,hen⟩
  ·have hbk:=H.out.1.blk.grew hJ.gr
   obtain⟨c1,f1,s1⟩:=hbk.facts;obtain⟨w4,hcl,hm4,hc4⟩:=imap_clear hJ.it_.imap (t:=118) underlying118 0;have hMd:=imap_ne H.out.1.map H.out.1.blk;have hb4:=hbk.chg hc4 (by simpa using Ne.symm hMd)
   have hcb:∀W,Blk W d 120 #[.int .i64 D.sz,.slice A D.n c,.map (some M),.bool D.armed,.int .i64 D.left,.bool false,.int .i64 D.done]→Calls prog 75 #[.pointer (some ⟨d,0,none⟩),.int .i64 (-1)] W fun e w'=>e= .returned (.tuple #[])∧Blk w' d 120 #[.int .i64 D.sz,.slice A D.n c,.map (some M),.bool false,.int .i64 (-1),.bool false,.int .i64 D.done]∧Chg (fun j=>j=d) W w':=fun W hb=>by
    have:=darm_no d _ W hb (by simp);simpa using this
   obtain⟨d4,df4,ds4⟩:=hb4.facts;obtain⟨W5,hW5⟩:∃W,w4.setCell ⟨d,5,none⟩ (.bool false)=W:=⟨_,rfl⟩;have hc5:Chg (fun j=>j=d) w4 W5:=hW5▸(Chg.refl (fun j=>j=d) w4).setCell (p:=⟨d,5,none⟩) (fun _=>rfl) _;have hb5:=hb4.put 5 (.bool false);rw[hW5] at hb5;have hcc:=hcb W5 (by simpa using hb5);have HD:=yH (yA5 hcc hJ hm4 hc4 (yA hMd hc5))
   clear hJ hl hob hbk hm4 hc4 hb4 hMd hcb hcc hc5 hb5;go_wp2_with fail
   refine HD.out.1.mono ?_;rintro e w6 ⟨rfl,hb6,hc6⟩;have H6:=yH (yA hb6 hc6);clear hb6 hc6 c1 f1 s1 d4 df4 ds4;go_wp2_with fail
   refine bodyPost_end (results_none rfl _ _ _) rfl ?_;obtain⟨-,hJ,hm4,hc4,hMd,hc5⟩:=HD.out;obtain⟨hi,hl0, -,hg0, -, -, -⟩:=H.out;refine⟨rfl,F,⟨⟨A,c,M,0,vs,fun _=>none,?_⟩,?_⟩,?_,fun j e=> .inl e⟩
   ·have hcr:Chg (fun j=>j=d∨j=M) W0 w6:=Chg.trans (Chg.trans (hJ.gr.chg (F:=fun j=>j=d∨j=M)) hc4 fun j _ e=> .inr e) (Chg.trans hc5 H6.out.2 fun _ _ e=>e) fun j _ e=> .inl e
    have hnb:∀j,(j=d∨j=M)→NotB W0 j:=by
     rintro j (rfl | rfl)
     ·exact hi.blk.notB (by decide)
     ·exact map_notB hi.map
    refine⟨H6.out.1,own_chg hi.row hcr (fun g hg e=>?_),?_,fun i hin=>?_,fun _ _=>rfl,(fun i bs hb=>by cases hb),hi.inF,⟨hsm.1,hsm.2.1,hsm.2.2.1,hsm.2.2.2.1,Nat.zero_le _⟩,hi.id⟩
    ·rcases e with e | e
     ·exact own_blk_ne hi.row hi.blk (by decide) (hg.trans (congrArg some e))
     ·exact own_noMap hi.row hi.map (hg.trans (congrArg some e))
    ·exact(hm4.chg hc5 (by simpa using hMd)).chg H6.out.2 (by simpa using hMd)
    ·obtain⟨v,e1,e2,e3⟩:=hi.dat i hin
     exact⟨v,e1,e2.past hcr hnb,e3⟩
   ·intro j hj
    have h1:=hl0 j hj;have h2:=hg0.size;have h3:=hJ.gr.size;have h4:=hc4.size;have h5:=hc5.size;have h6:=H6.out.2.size;omega
   ·have hcr:Chg F w w6:=Chg.trans (Chg.trans (Grew.trans hg0 hJ.gr).chg hc4 fun j _ e=>e▸hi.inF.2.1) (Chg.trans hc5 H6.out.2 fun _ _ e=>e) fun j _ e=>e▸hi.inF.1
    exact hcr
  ·have hin:∃k:Nat,i=(k:Int)∧∃A' n' c',v= .slice A' n' c':=by
    cases hca:D.cache i with
    | none=>have:=H.out.1.no i hca;rw[hmi] at this;cases this
    | some bs=>
     obtain⟨v',e1,e2,e3,e4,e5⟩:=H.out.1.has i bs hca;rw[hmi] at e1
     cases e1
     obtain⟨A',c',e6, -⟩:=own_shape e2.1;exact⟨i.toNat,by omega,A',_,c',e6⟩
   obtain⟨k,rfl,A',n',c',rfl⟩:=hin;have hgr3:Grew W0 w3:=hJ.gr.kept hk3 (by have:=(yP4 H.out).2.1;omega);obtain⟨x0,xf0,xs0⟩:=((yP4 H.out).1.grew hgr3).facts;have hcn:=bcontains_no [] (k:Int) none 0 w3 (Sl.nil _ _ _) (by simp) (by simp);have HR:=yH (yA3 hcn hI3 hgr3);have hk1:((k:Int)== -1)=false:=by simp
   clear hJ hob hI3 hk3 hcn hgr3 hli hmi hz3;go_wp2_with fail
   refine HR.out.1.mono ?_;rintro e w4 ⟨rfl,rfl⟩;go_wp2_with fail
   go_roundg q'
   case measure=>exact hq
   case rel=>exact⟨_,HR.out.2.1,HR.out.2.2⟩
end
section
open Go.RowKit Go.Maps
section
variable {D:Dk} {ep:Nat} {pg tb:List Nat} {fe fe0:List Bool}
theorem Inv.crashed (h:Inv D ep pg tb tb fe (fun _=>false) [] (fun _=>false)):Inv D.crashed ep pg tb tb fe (fun _=>false) [] (fun _=>false):=by
 refine⟨h.sz,h.lens,h.rO,h.rP,h.jO,h.jP,h.dis,h.acct,h.frr,h.cur,h.jT,h.lf,h.tcd,h.tc6,h.room,fun _ _ _=>rfl,h.dur.congr rfl fun s hs=>D.crashed_same s ?_,fun s hs x hx=>h.byd s hs x (by rw[D.crashed_rd] at hx;exact hx),h.epo,h.byd⟩;rcases hs with e | ⟨e,k,hk⟩
 ·exact h.cln s (by have:=h.sz;omega) (.inl e)
 ·exact h.cln s (h.rP k s hk e).2 (.inr (.inl ⟨k,hk⟩))
theorem Inv.acc (h:Inv D ep pg tb tb fe0 (fun _=>false) [] (fun _=>false)) (ha:Acc fe D.n pg pg.length tb tb.length):Inv D ep pg tb tb fe (fun _=>false) [] (fun _=>false):=by
 refine⟨h.sz,⟨ha.len,h.lens.2⟩,h.rO,h.rP,h.jO,h.jP,h.dis,fun s hs=>(ha.iff s hs).trans ⟨?_,?_⟩,h.frr,h.cur,h.jT,h.lf,h.tcd,h.tc6,?_,h.cln,h.dur,h.byt,h.epo,h.byd⟩
 ·rintro(e | ⟨j, -,e⟩ | ⟨j, -,e⟩)
  ·exact .inl e
  ·exact .inr (.inl ⟨j,e⟩)
  ·exact .inr (.inr (.inl ⟨j,e⟩))
 ·rintro(e | ⟨j,e⟩ | ⟨j,e⟩ | e)
  ·exact .inl e
  ·exact .inr (.inl ⟨j,(List.getElem?_eq_some_iff.1 e).1,e⟩)
  ·exact .inr (.inr ⟨j,(List.getElem?_eq_some_iff.1 e).1,e⟩)
  ·cases e
 ·rw[show cntN (fun _=>false) 64=0 from cntN_false fun _ _=>rfl]
  exact Nat.zero_le _
end
def Cr (w:World) (F:Nat→Prop) (x:Rp):Prop:=
 ∃D ep pg tb fe,Inv D ep pg tb tb fe (fun _=>false) [] (fun _=>false)∧DS w D.id F D∧D.down=false∧D.armed=false∧1≤ep∧TabAt 0 tab w∧¬F 0∧(⟨D.n,D.sz,tb.map (pk D fun _=>false),none,fun _=>false,ep,D.id⟩:Rp)=x
theorem cr_open (F:Nat→Prop) (x:Rp) (w:World) (h:Cr w F x) (hp:0< tabN x.n x.sz) :
  Calls prog 33 #[.pointer (some ⟨x.d,0,none⟩)] w fun e w'=>∃p F',e= .returned (.tuple #[.pointer (some ⟨p,0,none⟩),.int .i64 0])∧GP w' p F' x∧Grew w w'∧∀j,F' j→F j∨w.heap.size≤j:=by
 obtain⟨D,ep,pg,tb,fe0,hI,hD,hd,ha,he,hT,h0,rfl⟩:=h;refine(gopen_known D.id ep pg tb fe0 F D w hI hD hd hT h0 he (by rw[hI.lens.2.1];exact hp)).mono ?_;rintro e w' ⟨p,F',rfl,⟨fe,hA,hS⟩,hg,hn⟩;exact⟨p,F',rfl,⟨_,hS,⟨hI.acc hA,rfl,rfl,hd,ha⟩,rfl⟩,hg,hn⟩
theorem gp_crash (p:Nat) (cut:Int) (F:Nat→Prop) (x:Rp) (w:World) (h:GP w p F x) (hx:x.was≠none) (he:1≤x.epoch) :
  Calls prog 32 #[.pointer (some ⟨x.d,0,none⟩),.agg #[.slice none 0 0,.int .i64 (-1),.int .i64 cut]] w fun e w'=>e= .returned (.tuple #[])∧∃F',Cr w' F' x.abort∧Chg F w w'∧∀j,F' j→F j∨w.heap.size≤j:=by
 obtain⟨X,h1,h2,rfl⟩:=h;obtain⟨o,ho⟩:=Gp.view_op hx;obtain⟨L,d,b,A,ca,vp,vt,vo,hi,hF⟩:=h1;have hid:=hi.dsk.id;subst hid;have hv:=h2.inv;simp only[Gp.old,Gp.fr,Gp.lf,Gp.tc,ho] at hv;have hI:=hv.abort;refine(dcrash_ok X.D.id cut (fun j=>L j=2) X.D w hi.dsk).mono ?_;rintro e w' ⟨rfl,F',hd',hc,hn⟩
 have h20:∀j,L j=2→F j:=fun j e=>(hF j).2 (by omega);have hc':Chg F w w':=hc.mono fun j _ e=>h20 j e;refine⟨rfl,F',⟨X.D.crashed,X.epoch,X.pages,o.was,_,hI.crashed,hd',rfl,rfl,he,tab_chg hi.tab hc' (fun e=>(hF 0).1 e hi.l0),fun e=>?_,?_⟩,hc',fun j hj=>(hn j hj).imp (h20 j) id⟩
 ·rcases hn 0 e with e1 | e1
  ·have:=hi.l0;omega
  ·have:=tab_pos hi.tab;omega
 ·unfold Rp.abort
  rw[Gp.view_was ho]
  have e1:o.was.map (pk X.D.crashed fun _=>false)=o.was.map (pk X.D fun _=>false):=List.map_congr_left fun s hs=>by
   obtain⟨i,hi⟩:=List.mem_iff_getElem?.1 hs;unfold pk;rw[X.D.crashed_same s (hI.cln s (hI.rO i s hi) (.inr (.inr ⟨i,hi⟩)))]
  rw[e1];rfl
theorem GP.touched {w:World} {p:Nat} {F:Nat→Prop} {x:Rp} {b:List Pk} {i:Nat} (h:GP w p F x) (hx:x.was=some b) {c1 c2:Pk} (h1:x.now[i]? =some c1) (h2:b[i]? =some c2) (hu:c1.used≠c2.used):cntN x.touched 64≠0:=by
 obtain⟨X,hS,ho,rfl⟩:=h;obtain⟨o,hop⟩:=Gp.view_op (by rw[hx];simp);have hw:=Gp.view_was hop;rw[hx] at hw;obtain rfl:=Option.some.inj hw;have hv:=ho.inv;have e1:X.view.touched=X.tc:=rfl;rw[e1];intro h0
 have hne:X.table[i]? ≠X.old[i]? :=fun e=>hu (by
  have e3:X.old=o.was:=by simp only[Gp.old,hop]
  have e4:X.view.now=X.table.map (pk X.D X.fr):=rfl;rw[e4,List.getElem?_map] at h1;rw[List.getElem?_map] at h2;rw[e,e3] at h1
  cases hs:o.was[i]? with
  | none=>rw[hs] at h1;cases h1
  | some s=>
   rw[hs] at h1 h2;simp only[Option.map_some,Option.some.injEq] at h1 h2;subst h1 h2;rw[Bool.eq_iff_iff,pk_used,pk_used])
 have ht:=hv.tcd i hne;have hk:i / (X.D.sz / 2)< 64:=Nat.lt_of_lt_of_le (hv.tc6 _ ht) hv.pg64;have hm:i / (X.D.sz / 2)∈keysL X.tc 64:=mem_keysL.2 ⟨hk,ht⟩;have hl:=keysL_len X.tc 64;rw[h0] at hl;rw[List.eq_nil_of_length_eq_zero hl] at hm
 cases hm
end
section
open Go.RowKit Go.Maps
theorem opened200:(Rp.opened 200 64).slack=191∧capN 200 64=198∧tabN 200 64=7∧(Rp.opened 200 64).now.countP Pk.isNew=0:=⟨by kernel_rfl,by kernel_rfl,by kernel_rfl,by kernel_rfl⟩
theorem roomy200 {d:Nat}:(Rp.opened 200 64 d).roomy 180:=show(Rp.opened 200 64).roomy 180 from⟨by simp[Rp.opened,Rp.begun],by rw[opened200.1,opened200.2.2.2];omega,by rw[opened_len,opened200.2.1];omega⟩
theorem kept_old (c:Pk):c.kept.isOld=true→c.used=true:=by cases c<;>simp[Pk.kept,Pk.isOld,Pk.used]
theorem kept_new (c:Pk):c.kept.isNew=false:=by cases c<;>rfl
theorem comm_roomy {d:Nat} {y:Rp} (hl:(Rp.opened 200 64 d).like y) (hu:y.now.countP Pk.used≤61):y.comm.begun.roomy 122:=by
 have hn:y.n=200:=hl.n;have hz:y.sz=64:=hl.sz;have hlen:y.now.length=198:=hl.len.trans ((opened_len 200 64).trans opened200.2.1)
 have h1:(y.now.map Pk.kept).countP Pk.isOld≤61:=by
  rw[List.countP_map];exact Nat.le_trans (List.countP_mono_left fun c _ h=>kept_old c h) hu
 have h2:(y.now.map Pk.kept).countP Pk.isNew=0:=by
  rw[List.countP_map,List.countP_eq_zero];intro c _;simp[kept_new]
 have h3:tabsUsed 200 64 (y.now.map Pk.kept)≤7:=by
  unfold tabsUsed;have:=List.countP_le_length (p:=partUsed (64 / 2) (y.now.map Pk.kept)) (l:=List.range (tabN 200 64));rw[List.length_range,opened200.2.2.1] at this;rw[opened200.2.2.1];exact this
 have e:y.comm.begun.slack=(y.n:Int) - 2 - (tabsUsed y.n y.sz (y.now.map Pk.kept):Nat) - ((y.now.map Pk.kept).countP Pk.isOld:Nat) - ((y.now.map Pk.kept).countP Pk.isNew:Nat) - (tabN y.n y.sz:Nat):=rfl;have e2:y.comm.begun.now=y.now.map Pk.kept:=rfl;refine⟨by simp[Rp.begun],?_,?_⟩
 ·rw[e,e2,hn,hz,opened200.2.2.1,h2]
  omega
 ·rw[e2,List.length_map,hlen]
  omega
structure PlK (w W:World) (t p r:Nat) (x0:Rp) (L:List KV) (F:Nat→Prop) (y:Rp) (D:Nat) (P:List Nat) (A A1:Option Addr) (L1:List KV):Prop where
 j:PlJ w W t p r x0 L F y D P A
 sl:Sl W 2 A1 L1.length (kvs2 L1)
 af:∀a,A1=some a→¬F a.block∧a.block< W.heap.size
section
variable {w W W1 W2:World} {t p r:Nat} {x0:Rp} {L R L1:List KV} {F F':Nat→Prop} {y:Rp} {D:Nat} {P:List Nat} {A A1:Option Addr}
theorem PlK.grew (h:PlK w W t p r x0 L F y D P A A1 L1) (hg:Grew W W1):PlK w W1 t p r x0 L F y D P A A1 L1:=
 ⟨h.j.grew hg,h.sl.grew hg,fun a ha=>by have h1:=h.af a ha;have:=hg.size;exact⟨h1.1,by omega⟩⟩
theorem PlK.kept (h:PlK w W t p r x0 L F y D P A A1 L1) (hb:BT W1 t p r F y) (hc:Chg F W W1):PlK w W1 t p r x0 L F y D P A A1 L1:=
 ⟨h.j.kept hb hc,h.sl.chg hc fun a ha=>(h.af a ha).1,fun a ha=>by have h1:=h.af a ha;have:=hc.size;exact⟨h1.1,by omega⟩⟩
theorem PlK.step {e:Ending} (h:PlK w W t p r x0 L F y D P A A1 L1) (hs:StpOut W W1 t p r F x0 A R e) :
  ∃A' c' F' y' D' P',e= .returned (.tuple #[.slice A' R.length c',.bool true])∧PlK w W1 t p r x0 R F' y' D' P' A' A1 L1:=by
 obtain⟨A',c',y',F',D',P',rfl,h1,h2,h3,h4,h5,h6⟩:=hs;have hz:=h.j.gr.size
 exact⟨A',c',F',y',D',P',rfl,⟨h1,h4,h3,Chg.trans h.j.gr h2.chg fun j hj e=>by have:=h.j.fn j e;omega,fun j hj=>(h2.new j hj).elim (h.j.fn j) fun e=>by omega,h5,fun a ha=>⟨(h6 a ha).1,(h6 a ha).2.1⟩⟩,
  h.sl.chg h2.chg fun a ha=>(h.af a ha).1,fun a ha=>by
   have k1:=h.af a ha;have k2:=h2.chg.size;exact⟨fun e=>(h2.new _ e).elim k1.1 fun e=>by omega,by omega⟩⟩
end
structure EnQ (w W:World) (t p0 p r:Nat) (F:Nat→Prop) (x:Rp) (D:Nat) (P:List Nat) (A1:Option Addr) (L1:List KV):Prop where
 gp:GP W p F x
 blk:Blk W t 78 #[.pointer (some ⟨p0,0,none⟩),.int .i64 r]
 ts:TS x D r L1 P
 gr:Grew w W
 fn:∀j,F j→w.heap.size≤j
 sl:Sl W 2 A1 L1.length (kvs2 L1)
 af:∀a,A1=some a→¬F a.block∧a.block< W.heap.size
theorem broot_blk (t root:Nat) (v:Value) (w:World) (hb:Blk w t 78 #[v,.int .i64 root]) :
  Calls prog 17 #[.pointer (some ⟨t,0,none⟩)] w fun e w'=>e= .returned (.int .i64 root)∧w'=w:=by
 obtain⟨c0,f0,s0⟩:=hb.facts;clear hb;go_enter func17,ntmps17
 go_wp2_with fail
 go_ret
 exact⟨rfl,rfl⟩
theorem commits_out (w:World) (hT:TabAt 0 tab w) (A A2:Option Addr) (c c2:Nat) (l l2:List Trop) (crash:Bool) (hm:l.length≤9223372036854775807) (hm2:l2.length≤9223372036854775807) (ho:60< l.length∨60< l2.length) :
  Calls prog 8 #[.slice A l.length c,.slice A2 l2.length c2,.bool crash] w fun e w'=>e= .returned (.bool true)∧Grew w w':=by
 have hfr:=bfresh_any 200 64 w hT (by omega) (by omega) (by omega) (by omega) (by rw[opened200.1];omega) (by rw[opened200.2.1];omega)
 have t0:(decide ((60:Int)< (l.length:Int))=true)∨(decide ((60:Int)< (l.length:Int))=false∧decide ((60:Int)< (l2.length:Int))=true):=by
  by_cases a:60< l.length
  ·exact .inl (decide_eq_true (by omega))
  ·exact .inr ⟨decide_eq_false (by omega),decide_eq_true (by omega)⟩
 have H:=yH (yA hfr hT);clear ho hT hfr;rcases t0 with t1 | ⟨t1,t2⟩
 all_goals
  go_enter func8,ntmps8
  go_wp2_with fail
  refine H.out.1.mono ?_;rintro e w1 ⟨t,p,d,r,F,rfl,hr,hb,hg,hF,ht⟩;have H1:=yH (yA (bawake_any w1 (tab_chg H.out.2 hg id)) hg);clear hr hb hg hF ht;go_wp2_with fail
  refine H1.out.1.mono ?_;rintro e w2 ⟨rfl,hg⟩;have HG:=yH (Grew.trans H1.out.2 hg);clear hg;go_wp2_with fail
  go_ret
  exact⟨rfl,HG.out⟩
theorem commits_in (w:World) (hT:TabAt 0 tab w) (A0 B0:Option Addr) (c0' c1':Nat) (l l2:List Trop) (crash:Bool) (hl:l.length≤60) (hl2:l2.length≤60) (hs:Sl w 3 A0 l.length (l.flatMap Trop.vals)) (ok:∀o∈l,o.ok) (hs2:Sl w 3 B0 l2.length (l2.flatMap Trop.vals)) (ok2:∀o∈l2,o.ok) :
  Calls prog 8 #[.slice A0 l.length c0',.slice B0 l2.length c1',.bool crash] w fun e w'=>e= .returned (.bool true)∧Grew w w':=by
 have t1:decide ((60:Int)< (l.length:Int))=false:=decide_eq_false (by omega);have t2:decide ((60:Int)< (l2.length:Int))=false:=decide_eq_false (by omega);have hfr:=bfresh_any 200 64 w hT (by omega) (by omega) (by omega) (by omega) (by rw[opened200.1];omega) (by rw[opened200.2.1];omega);have H:=yH (yA5 hfr hT hs ok (yA hs2 ok2));clear hfr hT hs ok hs2 ok2
 go_enter func8,ntmps8
 go_wp2_with fail
 refine H.out.1.mono ?_;rintro e w1 ⟨t,p,d,r,F,rfl,hr,hb,hg,hF,ht⟩
 have hJ0:PlJ w w1 t p r (Rp.opened 200 64 d) (stsL (l.take 0)) F (Rp.tree0 200 64 r d) 0 [r] none:=
  ⟨hb,tree0_ts hr (by omega),tree0_like,hg,hF,Sl.nil _ _ _,fun a ha=>by cases ha⟩
 have H1:=yH (yA hr hJ0);clear hJ0 hr hb hg hF ht;go_wp2_with fail
 go_loopg [10,44] (l.length) (fun n xv iv wr=>∃ (k:Nat) (F:Nat→Prop) (y:Rp) (D:Nat) (P:List Nat) (A:Option Addr) (c:Nat),n=l.length - k∧k≤l.length∧iv= .int .i64 k∧xv= .slice A (stsL (l.take k)).length c∧PlJ w wr t p r (Rp.opened 200 64 d) (stsL (l.take k)) F y D P A)
 case atStart=>exact⟨0,_,_,0,_,none,0,by simp,Nat.zero_le _,rfl,rfl,H1.out.2⟩
 case round=>
  obtain⟨k,F,y,D,P,A,c,rfl,hk,rfl,rfl,hJ⟩:=hrel;have hll:=stsL_len (l.take k);rw[List.length_take] at hll;have hyz:=hJ.bt.gp.szs;have hh:=half_two hyz.2.2.1;have hD:=hJ.ts.depth hh (by omega);have hP:=hJ.ts.tr.pages hh;by_cases hlt:k< l.length
  ·obtain⟨o,ho⟩:∃o,l[k]? =some o:=⟨_,List.getElem?_eq_getElem hlt⟩
   obtain⟨g,off,rfl,hb,d0,d1,d2⟩:=(H.out.2.2.1.grew hJ.gr).atTrop ho;have hgo:Grew wr (wr.alloc (.cells #[.int .i64 o.kind,.int .i64 o.key,.int .i64 o.val] 37)):=(Chg.refl _ wr).alloc _;have hJ1:=hJ.grew hgo
   have hst:=bstep_any t p r D 180 c (stsL (l.take k)) P F (Rp.opened 200 64 d) y A o _ hJ1.bt roomy200 hJ.like hJ.ts (by omega) (by omega) (H.out.2.2.2.1 o (List.mem_of_getElem? ho)) hJ1.sl hJ1.af;have htk:stsL (l.take (k+1))=stL (stsL (l.take k)) o:=by rw[List.take_add_one,ho];exact stsL_snoc _ _
   have HJ1:=yH (yA3 hst hJ1 htk);have hkI:(k:Int)< (l.length:Int):=by omega
   clear hst hJ1 ho hJ htk hgo hb;go_wp2_with fail
   refine HJ1.out.1.mono ?_;intro e w3 hst;obtain⟨A',c',F',y',D',P',rfl,hJ3⟩:=HJ1.out.2.1.step hst;have HJ3:=yH hJ3;clear hst hJ3 d0 d1 d2;go_wp2_with fail
   go_roundg (l.length - (k+1))
   case measure=>omega
   case rel=>exact⟨k+1,F',y',D',P',A',c',rfl,by omega,by simp,by rw[HJ1.out.2.2],by rw[HJ1.out.2.2];exact HJ3.out⟩
  ·obtain rfl:k=l.length:=by omega
   rw[List.take_length] at hJ hll hP ⊢;obtain⟨L1,hL1⟩:∃L1,stsL l=L1:=⟨_,rfl⟩;rw[hL1] at hJ hll hP ⊢;have hL60:L1.length≤60:=by omega
   have hwas:y.was=some (List.replicate 198 Pk.no):=by rw[hJ.like.was];simp[Rp.opened,Rp.begun,Rp.fresh,opened200.2.1]
   have hep0:y.epoch=0:=hJ.like.epoch;have hyd:y.d=d:=hJ.like.d
   have hto:cntN y.touched 64≠0:=by
    have hrP:r∈P:=by
     obtain⟨nd,P',hn,rfl,hkp⟩:=hJ.ts.tr.kp;simp
    obtain⟨cc,hc1,hc2⟩:=hJ.ts.pgs r hrP;have hr198:r< 198:=by have:=H1.out.1;rw[opened200.2.1] at this;exact this
    exact hJ.bt.gp.touched hwas hc1 (c2:= .no) (by rw[List.getElem?_replicate,if_pos hr198]) (by rw[hc2];simp[Pk.used])
   have hep:y.comm.epoch=1:=by
    show(if cntN y.touched 64=0 then y.epoch else y.epoch+1)=1;rw[if_neg hto,hep0]
   have hrm:=comm_roomy hJ.like (by rw[hJ.ts.used];omega);have hcm:=hJ.commit (by rw[hwas];simp) (by omega);have H2:=yH (yA5 hcm hyd hep hrm (yA hJ.ts.comm (show y.n=200∧y.sz=64 from⟨hJ.like.n,hJ.like.sz⟩)));clear hcm hyd hep hrm hJ hwas hep0 hto hyz hh hD hP hll hlt hk;go_wp2_with fail
   refine H2.out.1.mono ?_;rintro e w2 ⟨rfl,F2,hJ2⟩;have H3:=yH (hJ2.begin rfl);clear hJ2;go_wp2_with fail
   refine H3.out.mono ?_;rintro e w3 ⟨rfl,F3, -,hJ3⟩;obtain⟨x1,hx1⟩:∃x1,y.comm.begun=x1:=⟨_,rfl⟩;have hX:x1.was=some y.comm.now∧x1.d=d∧x1.epoch=1∧x1.roomy 122∧x1.n=200∧x1.sz=64:=⟨hx1▸rfl,hx1▸H2.out.2.1,hx1▸H2.out.2.2.1,hx1▸H2.out.2.2.2.1,hx1▸(yP4 H2.out).2.1,hx1▸(yP6 H2.out)⟩
   have hK3:PlK w w3 t p r x1 (List.foldl stL L1 (l2.take 0)) F3 x1 D P A A L1:=⟨hx1▸hJ3,hJ3.sl,hJ3.af⟩;have HX:=yH hX;have HY:=yH hx1;have H4:=yH hK3;clear hX hx1 hJ3 hK3;go_wp2_with fail
   go_loopg [13,67] (l2.length) (fun n xv iv wr=>∃ (k:Nat) (F:Nat→Prop) (z:Rp) (D2:Nat) (P2:List Nat) (A2:Option Addr) (c:Nat),n=l2.length - k∧k≤l2.length∧iv= .int .i64 k∧xv= .slice A2 (List.foldl stL L1 (l2.take k)).length c∧PlK w wr t p r x1 (List.foldl stL L1 (l2.take k)) F z D2 P2 A2 A L1)
   case atStart=>exact⟨0,_,_,D,P,A,_,by simp,Nat.zero_le _,rfl,rfl,H4.out⟩
   case round=>
    obtain⟨k,F,z,D2,P2,A2,c2,rfl,hk,rfl,rfl,hJ⟩:=hrel;have hll:=stsL_le (l2.take k) L1;rw[List.length_take] at hll;have hyz:=hJ.j.bt.gp.szs;have hh:=half_two hyz.2.2.1;have hD:=hJ.j.ts.depth hh (by omega);have hP:=hJ.j.ts.tr.pages hh;by_cases hlt:k< l2.length
    ·obtain⟨o,ho⟩:∃o,l2[k]? =some o:=⟨_,List.getElem?_eq_getElem hlt⟩
     obtain⟨g,off,rfl,hb,d0,d1,d2⟩:=((yP4 H.out).1.grew hJ.j.gr).atTrop ho;have hgo:Grew wr (wr.alloc (.cells #[.int .i64 o.kind,.int .i64 o.key,.int .i64 o.val] 37)):=(Chg.refl _ wr).alloc _;have hJ1:=hJ.grew hgo
     have hst:=bstep_any t p r D2 122 c2 (List.foldl stL L1 (l2.take k)) P2 F x1 z A2 o _ hJ1.j.bt HX.out.2.2.2.1 hJ.j.like hJ.j.ts (by omega) (by omega) ((yP4 H.out).2 o (List.mem_of_getElem? ho)) hJ1.j.sl hJ1.j.af;have htk:List.foldl stL L1 (l2.take (k+1))=stL (List.foldl stL L1 (l2.take k)) o:=by rw[List.take_add_one,ho];simp[List.foldl_append]
     have HJ1:=yH (yA3 hst hJ1 htk);have hkI:(k:Int)< (l2.length:Int):=by omega
     clear hst hJ1 ho hJ htk hgo hb;go_wp2_with fail
     refine HJ1.out.1.mono ?_;intro e w4 hst;obtain⟨A',c',F',y',D',P',rfl,hJ3⟩:=HJ1.out.2.1.step hst;have HJ3:=yH hJ3;clear hst hJ3 d0 d1 d2;go_wp2_with fail
     go_roundg (l2.length - (k+1))
     case measure=>omega
     case rel=>exact⟨k+1,F',y',D',P',A',c',rfl,by omega,by simp,by rw[HJ1.out.2.2],by rw[HJ1.out.2.2];exact HJ3.out⟩
    ·obtain rfl:k=l2.length:=by omega
     rw[List.take_length] at hJ hll hP ⊢;have hsa:=bsame_any t p r D2 _ P2 F z A2 c2 wr hJ.j.bt hJ.j.ts (by omega) (by omega) hJ.j.sl hJ.j.af;have H5:=yH (yA hsa hJ);clear hsa hJ hlt hk;go_wp2_with fail
     refine H5.out.1.mono ?_;rintro e w5 ⟨rfl,hb5,hc5⟩;have hJ5:=H5.out.2.kept hb5 hc5;have hch:=bcheck_any t p r D2 _ P2 F z w5 hb5 hJ5.j.ts (by omega) (by omega);have H6:=yH (yA hch hJ5);clear hb5 hc5 hJ5 hch;go_wp2_with fail
     refine H6.out.1.mono ?_;rintro e w6 ⟨rfl,hb6,hc6⟩;have hJ6:=H6.out.2.kept hb6 hc6;have hzl:=hJ6.j.like;have hzw:z.was=some y.comm.now:=hzl.was.trans HX.out.1;have hzd:z.d=d:=hzl.d.trans HX.out.2.1;have hze:z.epoch=1:=hzl.epoch.trans HX.out.2.2.1;have hzn:z.n=200∧z.sz=64:=⟨hzl.n.trans (yP4 HX.out).1,hzl.sz.trans (yP4 HX.out).2⟩
     have hta:TS z.abort D r L1 P:=(yP4 H2.out).1.abort (by rw[HY.out];exact hzl);have hyP:=hta.tr.pages (by show 2≤halfN z.sz;rw[hzn.2];decide);have hyD:=hta.depth (by show 2≤halfN z.sz;rw[hzn.2];decide) (by omega);have hcr:=gp_crash p 0 F z w6 hJ6.j.bt.gp (by rw[hzw];simp) (by omega);rw[hzd] at hcr;have hab:=gp_abort p F z w6 hJ6.j.bt.gp (by rw[hzw];simp)
     have H7:=yH (yA5 hcr hab hJ6 hzd (yA hzn hta));clear hcr hab hJ6 hzl hzw hzd hze hzn hta hb6 hc6
     cases crash
     case' true=>
      go_wp2_with fail
      refine H7.out.1.mono ?_;rintro e w7 ⟨rfl,F7,hCr,hc7,hn7⟩;have hop:=cr_open F7 z.abort w7 hCr (by show 0< tabN z.n z.sz;rw[(yP4 H7.out).1.1,(yP4 H7.out).1.2,opened200.2.2.1];omega);rw[show z.abort.d=d from H7.out.2.2.2.1] at hop;have H8:=yH (yA3 hop hc7 hn7);clear hop hc7 hn7 hCr;go_wp2_with fail
      refine H8.out.1.mono ?_;rintro e w8 ⟨p2,F8,rfl,hg8,hgr8,hn8⟩
      have hEn:EnQ w w8 t p p2 r F8 z.abort D P A L1:=by
       have hJ:=H7.out.2.2.1;have hgr:=hJ.j.gr;have hz1:=hgr.size;have hz2:=H8.out.2.1.size;have hz3:=hgr8.size;have hsub:∀j,F8 j→F j∨w6.heap.size≤j:=fun j hj=>(hn8 j hj).elim (H8.out.2.2 j) fun e=> .inr (by omega)
       refine⟨hg8,(hJ.j.bt.blk.chg H8.out.2.1 hJ.j.bt.nf).grew hgr8,(yP4 H7.out).2,Grew.trans (Chg.trans hgr H8.out.2.1 fun j hj e=>by have:=hJ.j.fn j e;omega) hgr8,fun j hj=>(hsub j hj).elim (hJ.j.fn j) fun e=>by omega,(hJ.sl.chg H8.out.2.1 fun a ha=>(hJ.af a ha).1).grew hgr8,fun a ha=>?_⟩;have h1:=hJ.af a ha
       exact⟨fun e=>(hsub _ e).elim h1.1 fun e=>by omega,by omega⟩
      have HE:=yH hEn;clear hEn hg8 hgr8 hn8 H8;go_wp2_with fail
     case' false=>
      go_wp2_with fail
      refine H7.out.2.1.mono ?_;rintro e w8 ⟨rfl,F8,hg8,hc8,hn8⟩
      have hEn:EnQ w w8 t p p r F8 z.abort D P A L1:=by
       have hJ:=H7.out.2.2.1;have hgr:=hJ.j.gr;have hz1:=hgr.size;have hz2:=hc8.size;refine⟨hg8,hJ.j.bt.blk.chg hc8 hJ.j.bt.nf,(yP4 H7.out).2,Chg.trans hgr hc8 fun j hj e=>by have:=hJ.j.fn j e;omega,fun j hj=>(hn8 j hj).elim (hJ.j.fn j) fun e=>by omega,hJ.sl.chg hc8 fun a ha=>(hJ.af a ha).1,fun a ha=>?_⟩;have h1:=hJ.af a ha
       exact⟨fun e=>(hn8 _ e).elim h1.1 fun e=>by omega,by omega⟩
      have HE:=yH hEn;clear hEn hg8 hc8 hn8;obtain⟨p2,rfl⟩:∃p2,p2=p:=⟨_,rfl⟩;go_wp2_with fail
     all_goals
      refine(broot_blk t r _ w8 HE.out.blk).mono ?_;rintro e w9 ⟨rfl,hw⟩;rw[hw];clear hw w9;obtain⟨W9,hW9⟩:∃W,w8.alloc (.cells #[.pointer (some ⟨p2,0,none⟩),.int .i64 r] 78)=W:=⟨_,rfl⟩;have hg9:Grew w8 W9:=hW9▸(Chg.refl _ _).alloc _;have hat:=bat_any p2 r w8 W9 hW9;have hz9:W9.heap.size=w8.heap.size+1:=by subst hW9;simp
      have hJ9:PlJ w W9 w8.heap.size p2 r z.abort L1 F8 z.abort D P A:=
       ⟨⟨HE.out.gp.grew hg9,hW9▸Blk.new _ _ _,fun e=>by have:=HE.out.gp.lt _ e;omega⟩,HE.out.ts,.refl _,Grew.trans HE.out.gr hg9,HE.out.fn,HE.out.sl.grew hg9,fun a ha=>by have h1:=HE.out.af a ha;exact⟨h1.1,by omega⟩⟩
      obtain⟨u,hu⟩:∃u,w8.heap.size=u:=⟨_,rfl⟩;rw[hu] at hat hJ9;have H9:=yH (yA hat hJ9);clear hg9 hat hz9 hJ9 hW9 hu;go_wp2_with fail
      refine H9.out.1.mono ?_;rintro e wA ⟨rfl,hw⟩;rw[←hw];clear hw wA;have hch:=bcheck_any u p2 r D L1 P F8 z.abort W9 H9.out.2.bt H9.out.2.ts (by omega) (by omega);have HA:=yH hch;clear hch;go_wp2_with fail
      refine HA.out.mono ?_;rintro e wB ⟨rfl,hbB,hcB⟩;have hJB:=H9.out.2.kept hbB hcB;have hsa:=bsame_any u p2 r D L1 P F8 z.abort A c wB hbB hJB.ts (by omega) (by omega) hJB.sl hJB.af;have HB:=yH (yA hsa hJB);clear hbB hcB hJB hsa;go_wp2_with fail
      refine HB.out.1.mono ?_;rintro e wC ⟨rfl,hbC,hcC⟩;have hJC:=HB.out.2.kept hbC hcC;have hus:=gp_used p2 F8 z.abort wC hbC.gp;rw[hJC.ts.used] at hus;have HC:=yH (yA hus hJC);clear hbC hcC hJC hus;go_wp2_with fail
      refine HC.out.1.mono ?_;rintro e wD ⟨rfl,hgD⟩;have hJD:=HC.out.2.grew hgD;have hpg:=bpages_any u p2 r D L1 P F8 z.abort wD hJD.bt hJD.ts.tr hJD.ts.nd (by omega) (by omega);have HD:=yH (yA hpg hJD);clear hgD hJD hpg;go_wp2_with fail
      refine HD.out.1.mono ?_;rintro e wE ⟨A8,c8,Q,hQ,rfl,hbE,hoE,hcE⟩;have hJE:=HD.out.2.kept hbE hcE;have haw:=bawake_any wE (tab_chg H.out.2.1 hJE.gr id);have HF:=yH (yA haw hJE.gr);clear hQ hbE hoE hcE hJE haw;go_wp2_with fail
      refine HF.out.1.mono ?_;rintro e wF ⟨rfl,hgF⟩;have HG:=yH (Grew.trans HF.out.2 hgF);clear hgF;go_wp2_with fail
      go_ret
      exact⟨rfl,HG.out⟩
end
section
open Go.RowKit
def tabI:List Int:=tab.map Int.ofNat
def laidName:String:=Rows.btreeOrdersRow.named.headD (toString 0)
theorem tab_of_laid {W:World} (h:laidMetH prog Rows.btreeOrdersRow.laid W):TabAt 0 tab W:=by
 have h':laidMet prog [(laidName,Lib.tabData .u8 tabI)] W:=h;have hg:prog.globalNamed laidName=some 0:=by kernel_rfl
 have ht:=Lib.tabIs_of_head (t:=190) (e:=5) (n:=64) hg (by kernel_rfl) underlying190 underlying5 (by kernel_rfl) (by kernel_rfl) h';intro j hj;have:=ht.cell hg j (by simpa [tabI] using hj);rw[this];congr 2
 unfold tabI;rw[List.getD_eq_getElem?_getD,List.getElem?_map,List.getD_eq_getElem?_getD]
 cases tab[j]? <;>rfl
noncomputable def laidWorld (os:Os):World:=
 { World.holding prog os ⟨#[], #[],[]⟩ with heap:=(World.holding prog os ⟨#[], #[],[]⟩).heap.modify 0 fun
   | .cells _ t frozen=> .cells (tabI.map fun z=>Value.int .u8 z).toArray t frozen
   | o=>o }
theorem laidWorld_met (os:Os) (args:Array Value):laidMetH prog Rows.btreeOrdersRow.laid ((laidWorld os).forCall (fun _ _=>0) ⟨#[],args,[]⟩).memory:=
 laidMetH_of_parts (laidMet_of_run' 8 (by kernel_rfl) (by kernel_rfl)) (by kernel_rfl)
end
section
open Go.ChangeShapes Go.WideShapes Go.ChangeAt Go.RowKit Go.Deep
theorem choose_list {α:Type} (P:Nat→α→Prop):∀ (n:Nat),(∀i,i< n→∃x,P i x)→∃l:List α,l.length=n∧∀i x,l[i]? =some x→P i x
 | 0,_=>⟨[],rfl,fun i x h=>by simp at h⟩
 | n+1,h=>by
  obtain⟨l,hl,hp⟩:=choose_list P n (fun i hi=>h i (by omega));obtain⟨x,hx⟩:=h n (by omega);refine⟨l++[x],by simp[hl],fun i y hy=>?_⟩;by_cases hi:i< l.length
  ·rw[List.getElem?_append_left hi] at hy
   exact hp i y hy
  ·rw[List.getElem?_append_right (by omega)] at hy
   have h0:i - l.length=0:=by
    rcases Nat.eq_zero_or_pos (i - l.length) with h0 | h0
    ·exact h0
    ·rw[List.getElem?_eq_none (by simp;omega)] at hy;cases hy
   rw[h0] at hy;simp at hy
   subst hy;obtain rfl:i=n:=by omega
   exact hx
theorem wf_bounds {n:Int} (h:(Lit.int .i64 n).wf=true): -9223372036854775808≤n∧n≤9223372036854775807:=by
 simpa [Lit.wf,IntKind.min,IntKind.max,IntKind.signed,IntKind.bits] using h
section
variable {H:Type} {enc:TypeId×Value→H} {P:Program} {w:World} {base:Nat} {spare:Nat→Bool} {held:Bool}
theorem open_elems {t e:TypeId} {fuel s len cap:Nat} {A:Option Addr} {x:DataW H×List MemPlace} (ht:P.underlying t=some (.slice e)) (hC:P.cellsOf e=s) (hs:0< s)
  (h:DataW.trod enc P w base spare held fuel t [.slice A len cap]=some x) :
  len≤maxLen∧(len=0∨∃b off,A=some ⟨b,off,none⟩∧b< w.heap.size∧∀i,i< len→∃ (cs:List Value) (n:Nat) (y:DataW H×List MemPlace),cs.length=s∧(∀j,j< s→w.cell? ⟨b,off+(i*s+j),none⟩=cs[j]?)∧DataW.trod enc P w base spare held n e cs=some y):=by
 rcases open_slice ht h with ⟨hcs,_⟩ | ⟨a,len',cap',m,n,D,Pl,hcs,hb,hl,hm,hmm,hx,hi⟩
 ·simp at hcs
  obtain⟨rfl,rfl,rfl⟩:=hcs;exact⟨Nat.zero_le _,.inl rfl⟩
 ·simp at hcs
  obtain⟨rfl,rfl,rfl⟩:=hcs;refine⟨Nat.le_trans hl hm,?_⟩;rcases Nat.eq_zero_or_pos len with h0 | h0
  ·exact .inl h0
  right
  have hlm:len≤m:=by rw[hmm];split<;>omega
  obtain⟨b,off,spot⟩:=a
  have cellAt:∀i,i< len→∃cs' y,cs'.length=s∧(∀j,j< s→w.cell? (Addr.add ⟨b,off,spot⟩ (i*s+j))=cs'[j]?)∧DataW.trod enc P w base spare held n e cs'=some y:=by
   intro i hil;obtain⟨cs',hc,ht'⟩:=hi i (by omega);rw[hC] at hc;obtain⟨_,hcl,hat⟩:=World.cells?_some hc;refine⟨cs',_,hcl,fun j hj=>?_,ht'⟩;rw[←hat j hj];congr 1
   unfold Addr.add;by_cases h1:i*s=0<;>by_cases h2:j=0<;>simp[h1,h2,Nat.add_assoc]
  have hspot:spot=none:=by
   obtain⟨cs',y,hcl,hat,_⟩:=cellAt 0 h0;have:=hat 0 hs;have h0':cs'[0]? =some (cs'[0]'(by omega)):=List.getElem?_eq_getElem (by omega);rw[h0'] at this;simpa [Addr.add] using World.cell?_spot this
  subst hspot;refine⟨b,off,rfl,?_,fun i hil=>?_⟩
  ·obtain⟨cs',y,hcl,hat,_⟩:=cellAt 0 h0
   have:=hat 0 hs;have h0':cs'[0]? =some (cs'[0]'(by omega)):=List.getElem?_eq_getElem (by omega);rw[h0'] at this;simpa [Addr.add] using World.block_lt_of_cell? w _ this
  ·obtain⟨cs',y,hcl,hat,ht'⟩:=cellAt i hil
   refine⟨cs',n,y,hcl,fun j hj=>?_,ht'⟩;have:=hat j hj;rw[Addr.add_lit] at this;exact this
end
end
section
open Go.ChangeShapes Go.WideShapes Go.RowKit
theorem open_bool {H:Type} {enc:TypeId×Value→H} {P:Program} {w:World} {base:Nat} {spare:Nat→Bool} {held:Bool} {r:Reach} {b0:Nat} {t:TypeId} {v:Value} {d:DataW H} {ps:List MemPlace} (ht:P.underlying t=some .bool) (hval:Value.okWide P w r b0 t v) (hd:DataW.Trod enc P w base spare held t v d ps) :
  ∃b,v= .bool b∧d= .lit (.bool b)∧ps=[]:=by
 obtain⟨b,rfl⟩:=okWide_bool ht hval;obtain⟨fuel,hf⟩:=hd;obtain⟨b',h,hx⟩:=DataW.trod_bool ht hf;simp[Value.cells] at h
 subst h;simp only[Prod.mk.injEq] at hx;exact⟨b,rfl,hx.1,hx.2⟩
end
section
open Go.ChangeShapes Go.WideShapes Go.ChangeAt Go.RowKit
set_option linter.unusedVariables false
theorem Trop.of_trod {H:Type} {enc:TypeId×Value→H} {w:World} {base n:Nat} {spare:Nat→Bool} {held:Bool} {cs:List Value} {y:DataW H×List MemPlace} (hl:cs.length=3) (h:DataW.trod enc prog w base spare held n 37 cs=some y):∃r:Trop,cs=r.vals∧r.ok:=by
 obtain⟨xs,n,_,_,_,hlen,hf⟩:=DataW.trod_struct underlying37 h
 match cs,hl with
 | [c0,c1,c2],_=>
  match xs,hlen with
  | [y0,y1,y2],_=>
   have f0:DataW.trod enc prog w base spare held n 3 (([c0,c1,c2].drop 0).take (prog.cellsOf 3))=some y0:=hf 0 _ rfl;rw[show prog.cellsOf 3=1 from by kernel_rfl] at f0;have f1:DataW.trod enc prog w base spare held n 3 (([c0,c1,c2].drop 1).take (prog.cellsOf 3))=some y1:=hf 1 _ rfl;rw[show prog.cellsOf 3=1 from by kernel_rfl] at f1
   have f2:DataW.trod enc prog w base spare held n 3 (([c0,c1,c2].drop 2).take (prog.cellsOf 3))=some y2:=hf 2 _ rfl;rw[show prog.cellsOf 3=1 from by kernel_rfl] at f2;obtain⟨n0,e0, -,w0⟩:=DataW.trod_int underlying3 f0;simp at e0
   subst e0;obtain⟨n1,e1, -,w1⟩:=DataW.trod_int underlying3 f1;simp at e1
   subst e1;obtain⟨n2,e2, -,w2⟩:=DataW.trod_int underlying3 f2;simp at e2
   subst e2;exact⟨⟨n0,n1,n2⟩,rfl,(wf_bounds w0).1,(wf_bounds w0).2,(wf_bounds w1).1,(wf_bounds w1).2,(wf_bounds w2).1,(wf_bounds w2).2⟩
theorem Trop.opened {H:Type} {enc:TypeId×Value→H} {w:World} {base fuel len cap:Nat} {spare:Nat→Bool} {held:Bool} {A:Option Addr} {x:DataW H×List MemPlace} (h:DataW.trod enc prog w base spare held fuel 35 [.slice A len cap]=some x) :
  ∃l:List Trop,len=l.length∧len≤maxLen∧Sl w 3 A l.length (l.flatMap Trop.vals)∧∀r∈l,r.ok:=by
 obtain⟨hm,hc⟩:=open_elems underlying35 (s:=3) (by kernel_rfl) (by omega) h;rcases hc with rfl | ⟨b,off,rfl,hb,hi⟩
 ·exact⟨[],rfl,hm,Sl.nil _ _ _,fun r hr=>by cases hr⟩
 ·obtain⟨l,hl,hp⟩:=choose_list (fun i (r:Trop)=>r.ok∧∀j u,r.vals[j]? =some u→w.cell? ⟨b,off+(i*3+j),none⟩=some u) len (fun i hil=>by
   obtain⟨cs,n,y,hcl,hat,ht⟩:=hi i hil;obtain⟨r,rfl,hok⟩:=Trop.of_trod hcl ht;refine⟨r,hok,fun j u hu=>?_⟩;have hj:j< 3:=by rw[←hcl];exact(List.getElem?_eq_some_iff.1 hu).1
   rw[hat j hj,hu])
  refine⟨l,hl.symm,hm,Trop.sl_mk hb (fun i r hr=>(hp i r hr).2),fun r hr=>?_⟩;obtain⟨i,hi,rfl⟩:=List.getElem_of_mem hr;exact(hp i _ (List.getElem?_eq_getElem hi)).1
theorem commits_walk (w:World) (hT:TabAt 0 tab w) (A:Option Addr) (c:Nat) (l:List Trop) (hm:l.length≤maxLen) (hs:Sl w 3 A l.length (l.flatMap Trop.vals)) (ok:∀r∈l,r.ok) (A2:Option Addr) (c2:Nat) (l2:List Trop) (hm2:l2.length≤maxLen) (hs2:Sl w 3 A2 l2.length (l2.flatMap Trop.vals)) (ok2:∀r∈l2,r.ok) (crash:Bool) :
  Calls prog 8 #[.slice A l.length c,.slice A2 l2.length c2,.bool crash] w fun e w'=>e= .returned (.bool true)∧Grew w w':=by
 unfold maxLen at hm hm2;by_cases h:60< l.length∨60< l2.length
 ·exact commits_out w hT A A2 c c2 l l2 crash (by omega) (by omega) h
 ·exact commits_in w hT A A2 c c2 l l2 crash (by omega) (by omega) hs ok hs2 ok2
namespace lawBtreeCommits
theorem own:ownKnob prog.godebug=none:=by kernel_rfl
theorem laidOut:laidOutB prog=true:=by kernel_rfl
theorem lifted (os:Os) (started:os.Started) (H:Type) (enc:TypeId×Value→H) :
  ReturnsInHanded {} Tryz.checked os 8 .any (fun w args=>(Rows.btreeCommitsSpec.pre enc prog Tryz.f8 [] false w args∧laidMetH prog Rows.btreeCommitsRow.laid w)∧sizedMet enc prog Tryz.f8 (OpenSpec.ofChange Rows.btreeCommitsSpec) false w args) (Rows.btreeCommitsSpec.post enc prog Tryz.f8 false true false false):=by
 refine returnsInHanded_of_change_and (C:=Tryz.checked) (X:=fun w _=>laidMetH prog Rows.btreeCommitsRow.laid w) (fun _ _ _ hh h=>h.of_heap hh) own started (by kernel_rfl) func8
  (ChangeSpec.witness_at (enc:=enc) (C:=Tryz.checked) (os:=os) (X:=fun w _=>laidMetH prog Rows.btreeCommitsRow.laid w) false (laidWorld os) #[.slice none 0 0,.slice none 0 0,.bool false] 8 rfl (by kernel_rfl) (by kernel_rfl) (by kernel_rfl) (by kernel_rfl) (by kernel_rfl) (laidWorld_met os _)) ?_
 intro W base args ds gs before hval0 hW _ _ hL0 _;have hL:laidMetH prog Rows.btreeCommitsRow.laid W:=hL0;have hT0:=tab_of_laid hL;have hval:∀ (j:Nat) t v,Tryz.f8.params[j]? =some t→args[j]? =some v→Value.okWide prog W .any base t v:=hval0;have hW1:=hW;obtain⟨p,q,hA0,hV,rfl,hfz,hnd⟩:=hW
 have hA:DataW.TrodAll enc prog W 0 (fun _=>true) true Tryz.f8.params.toList args.toList ds p:=hA0;rw[Tryz.params8] at hA hval;obtain⟨v0,vs0,d0,ds0,p0,q0,hargs,rfl,rfl,h0,r0⟩:=trodAll_cons hA;obtain⟨v1,vs1,d1,ds1,p1,q1,rfl,rfl,rfl,h1,r1⟩:=trodAll_cons r0;obtain⟨v2,vs2,d2,ds2,p2,q2,rfl,rfl,rfl,h2,r2⟩:=trodAll_cons r1
 obtain⟨rfl,rfl,rfl⟩:=trodAll_nil r2;obtain rfl:args= #[v0,v1,v2]:=by cases args;simp_all
 obtain⟨rfl,rfl⟩:=trodVars_none hV;obtain⟨A0,n0,c0,rfl⟩:=okWide_slice underlying35 (hval 0 35 v0 rfl rfl);have k0:=h0;have lt0:∀x∈p0,x.block< W.heap.size:=by obtain⟨m,hm⟩:=k0;exact DataW.trod_lt m _ _ _ hm
 obtain⟨fu0,hf0⟩:=h0;obtain⟨l0,rfl,hm0,hs0,ok0⟩:=Trop.opened (by simpa [Value.cells] using hf0);obtain⟨A1,n1,c1,rfl⟩:=okWide_slice underlying35 (hval 1 35 v1 rfl rfl);have k1:=h1;have lt1:∀x∈p1,x.block< W.heap.size:=by obtain⟨m,hm⟩:=k1;exact DataW.trod_lt m _ _ _ hm
 obtain⟨fu1,hf1⟩:=h1;obtain⟨l1,rfl,hm1,hs1,ok1⟩:=Trop.opened (by simpa [Value.cells] using hf1);obtain⟨a2,rfl,rfl,rfl⟩:=open_bool underlying4 (hval 2 4 v2 rfl rfl) h2;clear hA0 hval0;refine(commits_walk W hT0 A0 c0 l0 hm0 hs0 ok0 A1 c1 l1 hm1 hs1 ok1 a2).mono fun e W1 ⟨he,hg⟩=>?_;subst he;have bel:=hg.below
 exact⟨_,rfl,_,_,_,[],_,[],hW1,trodAll_mk1 (shut_bool underlying4 _),(trodAll_cons_mk (Below.trod laidOut (by kernel_rfl) (of_decide_eq_true (by kernel_rfl)) k0 bel lt0) (trodAll_cons_mk (Below.trod laidOut (by kernel_rfl) (of_decide_eq_true (by kernel_rfl)) k1 bel lt1) (trodAll_cons_mk (shut_bool underlying4 _) trodAll_mk0))),rfl,bel.frame _,fun h=>by cases h⟩
theorem over:Rows.btreeCommitsRow.holds Tryz.pinned (OpenSpec.ofChange Rows.btreeCommitsSpec):=
 OpenClaim.holds_of_wide 8 Tryz.f8 rfl rfl rfl rfl rfl rfl rfl ⟨rfl,rfl,rfl,rfl,rfl⟩ rfl rfl rfl rfl rfl (by kernel_rfl) func8 (by kernel_rfl)
  (of_decide_eq_true (by kernel_rfl)) (by unfold Func.isWrapper;first | (rw[if_pos (by decide+kernel)];kernel_rfl) | (rw[if_neg (by decide+kernel)];exact⟨rfl,rfl⟩))
  (fun os started H enc _=>lifted os started H enc)
theorem proved:Rows.BtreeCommitsCardSaid:=
 Claim7.holds_tied_plain_at .later [] [.data] true Rows.btreeCommitsCard.stood.harness false over (fun _ h=>by cases h) (by kernel_rfl) (fun _ h=>by cases h) btreeCommits_row_tie rfl ⟨rfl,rfl⟩ (by kernel_rfl) rfl
  (fun f fn hf hfn=>by
   obtain rfl:f=8:=Option.some.inj ((show prog.funcNamed Rows.btreeCommitsRow.func=some 8 by kernel_rfl).symm.trans hf) |>.symm;obtain rfl:fn=Tryz.f8:=(Option.some.inj (func8.symm.trans hfn)).symm;refine⟨by kernel_rfl,fun j t ht=>?_⟩
   have hall:∀t∈Tryz.f8.params.toList,prog.wantsStandIn t=false:=by
    rw[Tryz.params8];intro t ht;simp only[List.mem_cons,List.not_mem_nil,or_false] at ht;rcases ht with rfl | rfl | rfl<;>kernel_rfl
   exact hall t (by rw[Array.mem_toList_iff];exact Array.mem_of_getElem? ht))
  (by kernel_rfl)
#print axioms proved
end lawBtreeCommits
end
end Go.Proofs.YtpkkcicaeldodaaGreatDoor
