/- Texts 3 of 8 that the proof of Commits stands on. -/
import Derived.Test.YtpkkcicaeldodaaGreatDoorMgCommits2
import Derived.Lib.AppendZerosOnto
import Derived.Test.YtpkkcicaeldodaaGreatDoorRows
import Derived.Shelf.Slices.SearchI
import Derived.Shelf.Spec.SlicesInsertGrow
import Derived.Shelf.Slices.Delete
import Derived.Sort.LoopGhostIn
import Derived.Shelf.Slices.Empties
set_option linter.unusedSimpArgs false
set_option linter.unusedVariables false
set_option maxRecDepth 100000
set_option maxHeartbeats 6400000
open Go.Proofs.Tryz
namespace Go.Proofs.YtpkkcicaeldodaaGreatDoor
section
open Go.RowKit Go.Maps
def Rp.slack (x:Rp):Int:=x.free - tabN x.n x.sz
theorem countP_set' {α:Type} (p:α→Bool) (a b:α):∀ (l:List α) (i:Nat),l[i]? =some b→(l.set i a).countP p+(if p b then 1 else 0)=l.countP p+(if p a then 1 else 0)
 | [],i,h=>by simp at h
 | c :: t,0,h=>by
  simp only[List.getElem?_cons_zero,Option.some.injEq] at h;subst h;simp only[List.set_cons_zero,List.countP_cons]
  omega
 | c :: t,i+1,h=>by
  simp only[List.getElem?_cons_succ] at h;have:=countP_set' p a b t i h;simp only[List.set_cons_succ,List.countP_cons];omega
theorem Rp.put_slack {x:Rp} {i:Nat} {c c0:Pk} (hw:x.was≠none) (hi:x.now[i]? =some c0):(x.put i c).slack+(if c.isNew then 1 else 0)=x.slack+(if c0.isNew then 1 else 0):=by
 have h1:=countP_set' Pk.isNew c c0 x.now i hi
 have hb:(x.put i c).base=x.base:=by
  unfold Rp.base Rp.put
  cases hx:x.was with
  | none=>exact absurd hx hw
  | some b=>rfl
 unfold Rp.slack Rp.free;rw[hb,show(x.put i c).n=x.n from rfl,show(x.put i c).sz=x.sz from rfl,show(x.put i c).now=x.now.set i c from rfl];split at h1<;>split at h1<;>simp_all<;>omega
theorem Rp.put_used {x:Rp} {i:Nat} {c c0:Pk} (hi:x.now[i]? =some c0):(x.put i c).now.countP Pk.used+(if c0.used then 1 else 0)=x.now.countP Pk.used+(if c.used then 1 else 0):=countP_set' Pk.used c c0 x.now i hi
theorem Rp.put_at {x:Rp} {i k:Nat} {c:Pk} (hi:i< x.now.length):(x.put i c).now[k]? =if k=i then some c else x.now[k]? :=set_at hi
theorem Rp.put_len (x:Rp) (i:Nat) (c:Pk):(x.put i c).now.length=x.now.length:=List.length_set
structure Rp.like (x y:Rp):Prop where
 n:y.n=x.n
 sz:y.sz=x.sz
 was:y.was=x.was
 epoch:y.epoch=x.epoch
 len:y.now.length=x.now.length
 d:y.d=x.d
theorem Rp.like.refl (x:Rp):x.like x:=⟨rfl,rfl,rfl,rfl,rfl,rfl⟩
theorem Rp.like.trans {x y z:Rp} (h:x.like y) (k:y.like z):x.like z:=⟨k.n.trans h.n,k.sz.trans h.sz,k.was.trans h.was,k.epoch.trans h.epoch,k.len.trans h.len,k.d.trans h.d⟩
theorem Rp.put_like (x:Rp) (i:Nat) (c:Pk):x.like (x.put i c):=⟨rfl,rfl,rfl,rfl,List.length_set,rfl⟩
theorem cntN_bnd {f:Nat→Bool} {T:Nat} (h:∀k,f k=true→k< T):∀n,cntN f n≤T
 | 0=>Nat.zero_le _
 | n+1=>by
  rw[cntN_succ];by_cases hn:n< T
  ·have:=cntN_le f n;split<;>omega
  ·have:f n=false:=by cases e:f n with | false=>rfl | true=>exact absurd (h n e) hn
   rw[this];simpa using cntN_bnd h n
section
variable {w w':World} {p i:Nat} {F:Nat→Prop} {x:Rp}
theorem GP.part (h:GP w p F x) (hi:i< x.now.length):i / x.row< tabN x.n x.sz:=by
 obtain⟨X, -,h2,rfl⟩:=h;have:=h2.inv.part (i:=i) (by simpa [Gp.view] using hi);rw[h2.inv.lens.2.1] at this;exact this
theorem GP.need (h:GP w p F x) {k m:Nat} (hk:k< tabN x.n x.sz) (hm:(m:Int)≤x.slack):(x.need k m:Int)≤x.room:=by
 obtain⟨X, -,h2,rfl⟩:=h;have h3:∀q,X.tc q=true→q< tabN X.D.n X.D.sz:=fun q hq=>by have:=h2.inv.tc6 q hq;rw[h2.inv.lens.2.1] at this;exact this
 have h64:tabN X.D.n X.D.sz≤64:=by have:=h2.inv.pg64;rw[h2.inv.lens.2.1] at this;exact this
 have hk':k< tabN X.D.n X.D.sz:=hk;unfold Rp.room Rp.need;have e1:X.view.touched=X.tc:=rfl;have e2:X.view.slack=X.view.free - tabN X.D.n X.D.sz:=rfl;rw[e1]
 cases ht:X.tc k with
 | true=>have:=cntN_bnd h3 64;simp;omega
 | false=>
  have h4:=cntN_bnd (f:=setB X.tc k true) (T:=tabN X.D.n X.D.sz) (fun q hq=>by
   unfold setB at hq;split at hq
   ·omega
   ·exact h3 q hq) 64
  rw[cntN_yes X.tc (by omega) ht] at h4;simp
  omega
end
theorem least_no:∀ (l:List Pk),Pk.no∈l→∃i,l[i]? =some .no∧∀ (k:Nat) c,k< i→l[k]? =some c→c≠ .no
 | [],h=>by simp at h
 | c :: t,h=>by
  by_cases hc:c= .no
  ·subst hc;exact⟨0,rfl,fun k c hk=>by omega⟩
  ·obtain⟨i,h1,h2⟩:=least_no t ((List.mem_cons.1 h).resolve_left (Ne.symm hc))
   refine⟨i+1,by simpa using h1,fun k c' hk hk2=>?_⟩
   cases k with
   | zero=>simp at hk2;subst hk2;exact hc
   | succ k=>exact h2 k c' (by omega) (by simpa using hk2)
section
variable (p:Nat) (F:Nat→Prop) (x:Rp) (w:World)
theorem gp_alloc_any (h:GP w p F x) (ho:x.was≠none) :
  Calls prog 20 #[.pointer (some ⟨p,0,none⟩)] w fun e' w'=>
   (∃i:Nat,x.now[i]? =some .no∧(∀ (k:Nat) c,k< i→x.now[k]? =some c→c≠ .no)∧e'= .returned (.tuple #[.int .i64 i,.int .i64 0])∧GPTo w w' p F (x.put i .zero))∨
   (¬ (0≤x.slack∧Pk.no∈x.now)∧e'= .returned (.tuple #[.int .i64 0,.int .i64 21])∧Grew w w'):=by
 by_cases hn:Pk.no∈x.now
 ·obtain⟨i,h1,h2⟩:=least_no x.now hn
  by_cases hm:(x.need (i / x.row) 0:Nat)≤x.room
  ·refine(gp_alloc_ok p i F x w h ho h1 h2 hm).mono ?_
   rintro e w' ⟨rfl,h3⟩;exact .inl ⟨i,h1,h2,rfl,h3⟩
  ·refine(gp_alloc_full p i F x w h ho h1 h2 (by omega)).mono ?_
   rintro e w' ⟨rfl,h3⟩;refine .inr ⟨fun hs=>hm (h.need (h.part (List.getElem?_eq_some_iff.1 h1).1) (by simpa using hs.1)),rfl,h3⟩
 ·refine(gp_alloc_none p F x w h ho fun c hc e=>hn (e▸hc)).mono ?_
  rintro e w' ⟨rfl,rfl⟩;exact .inr ⟨fun hs=>hn hs.2,rfl,Chg.refl _ _⟩
theorem gp_write_any (i:Nat) (bs:List Int) (Ab:Option Addr) (cb:Nat) (c:Pk) (h:GP w p F x) (ho:x.was≠none) (hi:x.now[i]? =some c) (hu:c.used=true)
  (hb:bs.length=x.sz) (hby:∀q∈bs,0≤q∧q≤255) (hA:Ab≠none) (hsl:Sl w 1 Ab bs.length (bv bs)) (hsF:∀a,Ab=some a→¬F a.block) :
  Calls prog 21 #[.pointer (some ⟨p,0,none⟩),.int .i64 i,.slice Ab bs.length cb] w fun e' w'=>
   (e'= .returned (.int .i64 0)∧GPTo w w' p F (x.put i (.new bs)))∨(¬ (1≤x.slack)∧c.isNew=false∧e'= .returned (.int .i64 21)∧Grew w w'):=by
 by_cases hm:c.isNew=true∨(x.need (i / x.row) 1:Nat)≤x.room
 ·exact(gp_write p i F x w bs Ab cb c h ho hi hu hm hb hby hA hsl hsF).mono fun e w' k=> .inl k
 ·have hn:c.isNew=false:=by cases e:c.isNew with | false=>rfl | true=>exact absurd (.inl e) hm
  have hr:x.room< (x.need (i / x.row) 1:Nat):=by
   have:¬ ((x.need (i / x.row) 1:Nat):Int)≤x.room:=fun e=>hm (.inr e);omega
  refine(gp_write_full p i F x w Ab cb bs.length c h ho hi hu hn hr hb).mono ?_;rintro e w' ⟨rfl,h3⟩;exact .inr ⟨fun hs=>by have:=h.need (h.part (List.getElem?_eq_some_iff.1 hi).1) (m:=1) (by simpa using hs);omega,hn,rfl,h3⟩
end
end
section
open Go.RowKit Go.Maps
section
variable (p i:Nat) (F:Nat→Prop) (x:Rp) (w:World)
theorem gp_size (h:GP w p F x) :
  Calls prog 58 #[.pointer (some ⟨p,0,none⟩)] w fun e' w'=>e'= .returned (.int .i64 x.sz)∧w=w':=by
 obtain⟨X,h1,h2,rfl⟩:=h;exact gsize_any p F X w h1
end
end
section
open Go.RowKit Go.Maps
structure BT (W:World) (t p root:Nat) (F:Nat→Prop) (x:Rp):Prop where
 gp:GP W p F x
 blk:Blk W t 78 #[.pointer (some ⟨p,0,none⟩),.int .i64 root]
 nf:¬F t
def BTTo (w w':World) (t p root:Nat) (F:Nat→Prop) (x:Rp):Prop:=To (fun w F=>BT w t p root F x) w w' F
def NdAt (W:World) (N:Nat→Prop) (b q:Nat) (nd:Nd):Prop:=
 ∃Ak ck Av cv Ac cc,Blk W b 73 #[.int .i64 q,.slice Ak nd.keys.length ck,.slice Av nd.vals.length cv,.slice Ac nd.kids.length cc]∧
  Sl W 1 Ak nd.keys.length (iv nd.keys)∧Sl W 1 Av nd.vals.length (iv nd.vals)∧Sl W 1 Ac nd.kids.length (nv nd.kids)∧
  N b∧(∀a,Ak=some a→N a.block)∧(∀a,Av=some a→N a.block)∧(∀a,Ac=some a→N a.block)∧(∀j,N j→j< W.heap.size)
def NdOwn (W:World) (N:Nat→Prop) (b q:Nat) (nd:Nd):Prop:=
 ∃Ak ck Av cv Ac cc,Blk W b 73 #[.int .i64 q,.slice Ak nd.keys.length ck,.slice Av nd.vals.length cv,.slice Ac nd.kids.length cc]∧
  W.ownsRow 1 3 1 (.slice Ak nd.keys.length ck) nd.keys.length (iv nd.keys)∧W.ownsRow 1 3 1 (.slice Av nd.vals.length cv) nd.vals.length (iv nd.vals)∧W.ownsRow 1 3 1 (.slice Ac nd.kids.length cc) nd.kids.length (nv nd.kids)∧
  N b∧(∀a,Ak=some a→N a.block)∧(∀a,Av=some a→N a.block)∧(∀a,Ac=some a→N a.block)∧(∀j,N j→j< W.heap.size)∧
  (∀a a',Ak=some a→Av=some a'→a.block≠a'.block)∧(∀a a',Ak=some a→Ac=some a'→a.block≠a'.block)∧(∀a a',Av=some a→Ac=some a'→a.block≠a'.block)
section
variable {w w' W W':World} {t p root b q:Nat} {F F' G N:Nat→Prop} {x y:Rp} {nd:Nd}
theorem NdOwn.at (h:NdOwn W N b q nd):NdAt W N b q nd:=by
 obtain⟨Ak,ck,Av,cv,Ac,cc,h1,h2,h3,h4,h5,h6,h7,h8,h9, -⟩:=h;exact⟨Ak,ck,Av,cv,Ac,cc,h1,Sl.of_own h2,Sl.of_own h3,Sl.of_own h4,h5,h6,h7,h8,h9⟩
theorem NdAt.chg (h:NdAt W N b q nd) (hc:Chg G W W') (hG:∀j,N j→¬G j):NdAt W' N b q nd:=by
 obtain⟨Ak,ck,Av,cv,Ac,cc,h1,h2,h3,h4,h5,h6,h7,h8,h9⟩:=h;exact⟨Ak,ck,Av,cv,Ac,cc,h1.chg hc (hG _ h5),h2.chg hc fun a ha=>hG _ (h6 a ha),h3.chg hc fun a ha=>hG _ (h7 a ha),h4.chg hc fun a ha=>hG _ (h8 a ha),h5,h6,h7,h8,fun j hj=>Nat.lt_of_lt_of_le (h9 j hj) hc.size⟩
theorem own_at {A:Option Addr} {n c g:Nat} (h:(Value.slice A n c).ownBlock=some g):∃a,A=some a∧a.block=g:=by
 cases A with
 | none=>simp[Value.ownBlock] at h
 | some a=>simp[Value.ownBlock] at h;exact⟨a,rfl,by first | exact h | (obtain⟨h, -⟩:=h;exact h)⟩
theorem NdOwn.chg (h:NdOwn W N b q nd) (hc:Chg G W W') (hG:∀j,N j→¬G j):NdOwn W' N b q nd:=by
 obtain⟨Ak,ck,Av,cv,Ac,cc,h1,h2,h3,h4,h5,h6,h7,h8,h9,h10⟩:=h;refine⟨Ak,ck,Av,cv,Ac,cc,h1.chg hc (hG _ h5),own_chg h2 hc fun g hg=>?_,own_chg h3 hc fun g hg=>?_,own_chg h4 hc fun g hg=>?_,h5,h6,h7,h8,fun j hj=>Nat.lt_of_lt_of_le (h9 j hj) hc.size,h10⟩
 ·obtain⟨a,ha,rfl⟩:=own_at hg;exact hG _ (h6 a ha)
 ·obtain⟨a,ha,rfl⟩:=own_at hg;exact hG _ (h7 a ha)
 ·obtain⟨a,ha,rfl⟩:=own_at hg;exact hG _ (h8 a ha)
theorem NdAt.grew (h:NdAt W N b q nd) (hc:Grew W W'):NdAt W' N b q nd:=h.chg hc fun _ _=>id
theorem NdOwn.grew (h:NdOwn W N b q nd) (hc:Grew W W'):NdOwn W' N b q nd:=h.chg hc fun _ _=>id
theorem NdAt.lt (h:NdAt W N b q nd):∀j,N j→j< W.heap.size:=by obtain⟨_,_,_,_,_,_, -, -, -, -, -, -, -, -,h⟩:=h;exact h
theorem BT.chg (h:BT W t p root F x) (hc:Chg G W W') (hG:∀j,F j→¬G j) (hG0:¬G 0) (hGt:¬G t):BT W' t p root F x:=⟨h.gp.chg hc hG hG0,h.blk.chg hc hGt,h.nf⟩
theorem BT.grew (h:BT W t p root F x) (hc:Grew W W'):BT W' t p root F x:=h.chg hc (fun _ _=>id) id id
theorem BT.far (h:BT W t p root F x) (hc:Chg F W W') (hg:GP W' p F x):BT W' t p root F x:=⟨hg,h.blk.chg hc h.nf,h.nf⟩
theorem BT.to (h:BT W t p root F x) (hg:GPTo W W' p F y):BTTo W W' t p root F y:=by
 obtain⟨F',h1,h2,h3⟩:=hg;exact⟨F',⟨h1,h.blk.chg h2 h.nf,fun e=>(h3 t e).elim h.nf fun e=>by have:=h.blk.lt;omega⟩,h2,h3⟩
end
theorem leaf_val (n:Nat):((n:Int)==0)=decide (n=0):=by
 by_cases h:n=0
 ·simp[h]
 ·simp[h]
theorem leaf_any (b q:Nat) (nd:Nd) (N:Nat→Prop) (w:World) (h:NdAt w N b q nd) :
  Calls prog 41 #[.pointer (some ⟨b,0,none⟩)] w fun e w'=>e= .returned (.bool (decide (nd.kids.length=0)))∧w=w':=by
 obtain⟨Ak,ck,Av,cv,Ac,cc,h1, -⟩:=h;obtain⟨c0,f0,s0⟩:=h1.facts;have hv:=leaf_val nd.kids.length;go_enter func41,ntmps41
 go_wp2
 go_ret
 exact⟨by simp[←hv],rfl⟩
theorem most_val (sz:Nat) (h:64≤sz):((sz:Int) - 2 - 2).tdiv 18=(mostN sz:Nat):=by
 unfold mostN;rw[Int.tdiv_eq_ediv_of_nonneg (by omega)];omega
theorem bmost_any (t p root:Nat) (F:Nat→Prop) (x:Rp) (w:World) (h:BT w t p root F x) :
  Calls prog 85 #[.pointer (some ⟨t,0,none⟩)] w fun e w'=>e= .returned (.int .i64 (mostN x.sz:Nat))∧w=w':=by
 obtain⟨c0,f0,s0⟩:=h.blk.facts;have hz:=h.gp.szs;have H:=yH h;have hm:=most_val x.sz hz.2.2.1;have hm2:mostN x.sz≤300:=by unfold mostN;omega
 obtain⟨z1,z2,z3,z4, -⟩:=hz;clear h;go_enter func85,ntmps85
 go_wp2_with (go_at_call 58;(refine(gp_size p F x w H.out.gp).mono ?_);rintro e w1 ⟨rfl,rfl⟩)
 go_ret
 exact⟨rfl,rfl⟩
theorem half_val (sz:Nat):((mostN sz:Int)+1).tdiv 2=(halfN sz:Nat):=by
 unfold halfN;rw[Int.tdiv_eq_ediv_of_nonneg (by omega)];omega
theorem bhalf_any (t p root:Nat) (F:Nat→Prop) (x:Rp) (w:World) (h:BT w t p root F x) :
  Calls prog 71 #[.pointer (some ⟨t,0,none⟩)] w fun e w'=>e= .returned (.int .i64 (halfN x.sz:Nat))∧w=w':=by
 have hz:=h.gp.szs;have H:=yH h;have hm:=half_val x.sz;have hm2:mostN x.sz≤300:=by unfold mostN;omega
 have hm3:halfN x.sz≤300:=by unfold halfN;omega
 clear h hz;go_enter func71,ntmps71
 go_wp2_with (go_at_call 85;(refine(bmost_any t p root F x w H.out).mono ?_);rintro e w1 ⟨rfl,rfl⟩)
 go_ret
 exact⟨rfl,rfl⟩
theorem bfull_any (t p root b q:Nat) (F N:Nat→Prop) (x:Rp) (nd:Nd) (w:World) (h:BT w t p root F x) (hn:NdAt w N b q nd) (hl:nd.keys.length≤300) :
  Calls prog 39 #[.pointer (some ⟨t,0,none⟩),.pointer (some ⟨b,0,none⟩)] w fun e w'=>e= .returned (.bool (decide (2*halfN x.sz - 1≤nd.keys.length)))∧Grew w w':=by
 obtain⟨Ak,ck,Av,cv,Ac,cc,h1, -⟩:=hn;obtain⟨c0,f0,s0⟩:=h1.facts;have hz:=h.gp.szs;have H:=yH h;have hm2:mostN x.sz≤300:=by unfold mostN;omega
 have hm3:halfN x.sz≤300:=by unfold halfN;omega
 have hm4:1≤halfN x.sz:=by unfold halfN mostN;omega
 have hv:decide ((2:Int)*(halfN x.sz:Nat) - 1≤(nd.keys.length:Nat))=decide (2*halfN x.sz - 1≤nd.keys.length):=by
  by_cases e:2*halfN x.sz - 1≤nd.keys.length
  ·rw[decide_eq_true e,decide_eq_true (by omega)]
  ·rw[decide_eq_false e,decide_eq_false (by omega)]
 have HV:=yH hv;clear h hz h1 hv;go_enter func39,ntmps39
 go_wp2_with fail
 go_quiet ((go_at_call 71;exact Calls.quiet_of_same ((bhalf_any t p root F x _ (H.out.grew ((Chg.refl _ _).drewN _))).mono fun _ _ h=>⟨h.1,h.2.symm⟩)))
 go_wp2_with fail
 go_ret
 exact⟨by rw[←HV.out];rfl,(Chg.refl _ _).drewN _⟩
end
section
open Go.RowKit Go.Maps
theorem own_rng {w:World} {base:Nat} {e:TypeId} {s n c:Nat} {A:Option Addr} {xs:List Value} (h:w.ownsRow base e s (.slice A n c) n xs):∀a,A=some a→base≤a.block∧a.block< w.heap.size:=by
 rintro a rfl;obtain⟨g,rfl, -⟩:=own_some h;exact h.lt g rfl
theorem nd_mk {W:World} {b q s1 s2 s3 s4 s5:Nat} {nd:Nd} {A1 A2 A3:Option Addr} {c1 c2 c3:Nat} (hb:Blk W b 73 #[.int .i64 q,.slice A1 nd.keys.length c1,.slice A2 nd.vals.length c2,.slice A3 nd.kids.length c3])
  (h1:W.ownsRow 1 3 1 (.slice A1 nd.keys.length c1) nd.keys.length (iv nd.keys)) (h2:W.ownsRow 1 3 1 (.slice A2 nd.vals.length c2) nd.vals.length (iv nd.vals)) (h3:W.ownsRow 1 3 1 (.slice A3 nd.kids.length c3) nd.kids.length (nv nd.kids))
  (r1:∀a,A1=some a→s1≤a.block∧a.block< s2) (r2:∀a,A2=some a→s2≤a.block∧a.block< s3) (r3:∀a,A3=some a→s4≤a.block∧a.block< s5) (hbr:s3≤b∧b< s4) (hs:s1≤s2∧s2≤s3∧s4≤s5∧s5≤W.heap.size) :
  NdOwn W (fun j=>s1≤j∧j< s5) b q nd:=
 ⟨A1,c1,A2,c2,A3,c3,hb,h1,h2,h3,by omega,fun a ha=>by have:=r1 a ha;omega,fun a ha=>by have:=r2 a ha;omega,fun a ha=>by have:=r3 a ha;omega,fun j hj=>by omega,
  fun a a' ha ha'=>by have:=r1 a ha;have:=r2 a' ha';omega,fun a a' ha ha'=>by have:=r1 a ha;have:=r3 a' ha';omega,fun a a' ha ha'=>by have:=r2 a ha;have:=r3 a' ha';omega⟩
theorem nv_toNat {l:List Int} (h:∀a∈l,0≤a):nv (l.map Int.toNat)=iv l:=by
 unfold nv iv;rw[List.map_map];refine List.map_congr_left fun a ha=>?_;have:=h a ha;simp only[Function.comp];congr 1
 omega
def LdOut (w w':World) (t p root q:Nat) (F:Nat→Prop) (x:Rp) (nd:Nd) (e:Ending):Prop:=
 ∃b N,e= .returned (.tuple #[.pointer (some ⟨b,0,none⟩),.int .i64 0])∧NdOwn w' N b q nd∧(∀j,N j→w.heap.size≤j)∧BT w' t p root F x∧Chg F w w'
theorem bload_any (t p root q:Nat) (F:Nat→Prop) (x:Rp) (c:Pk) (nd:Nd) (w:World) (h:BT w t p root F x) (hi:x.now[q]? =some c) (hu:c.used=true) (hd:decN (c.bytes x.sz) x.sz=some nd) :
  Calls prog 38 #[.pointer (some ⟨t,0,none⟩),.int .i64 q] w fun e w'=>LdOut w w' t p root q F x nd e:=by
 obtain⟨c0,f0,s0⟩:=h.blk.facts;have hz:=h.gp.szs;have HR:=yH (gp_read p q F x w c h.gp hi hu);obtain⟨bs,hbs⟩:∃bs,c.bytes x.sz=bs:=⟨_,rfl⟩;rw[hbs] at HR hd;have H:=yH (yA h hd);obtain⟨z1,z2,z3,z4, -⟩:=hz;have hq4:q< 4096:=by have:=(List.getElem?_eq_some_iff.1 hi).1;have:=h.gp.szs;omega
 clear h hi hu hd hbs;go_enter func38,ntmps38
 go_wp2_with fail
 refine HR.out.mono ?_;rintro e w1 ⟨A,cA,rfl,ho,hbl,hby,hg,hc,hF⟩;clear c0 f0 s0;obtain⟨g,rfl,hgl⟩:=own_block ho (by omega);have hB1:=H.out.1.far hc hg;obtain⟨m,hm⟩:∃m,(bs.getD 1 0).toNat=m:=⟨_,rfl⟩;obtain⟨k0,hk0⟩:∃k,bs.getD 0 0=k:=⟨_,rfl⟩;have hcA:x.sz≤cA∧cA≤maxLen:=by obtain⟨cur, -, -,h1,h2, -⟩:=own_row ho;exact⟨h1,h2⟩
 have hb0:bs[0]? =some k0:=by rw[←hk0,List.getD_eq_getElem?_getD,List.getElem?_eq_getElem (by omega)];rfl
 have hb1:bs[1]? =some (m:Int):=by
  have h1:bs[1]? =some bs[1]:=List.getElem?_eq_getElem (by omega);have h2:=hby _ (List.mem_of_getElem? h1);have h3:bs.getD 1 0=bs[1]:=by rw[List.getD_eq_getElem?_getD,h1];rfl
  rw[h1,←hm,h3];congr 1
  omega
 have hk0b:=hby _ (List.mem_of_getElem? hb0);have hm255:m≤255:=by have:=hby _ (List.mem_of_getElem? hb1);omega
 have hc0:w1.cell? ⟨g,0,none⟩=some (.int .u8 k0):=by
  have:=ho.cells (g:=g) rfl 0 (.int .u8 k0) (by simp[bv,hb0]);rwa[Addr.add_lit,Nat.zero_add] at this
 have hc1:w1.cell? ⟨g,1,none⟩=some (.int .u8 m):=by
  have:=ho.cells (g:=g) rfl 1 (.int .u8 m) (by simp[bv,hb1]);rwa[Addr.add_lit,Nat.zero_add] at this
 have hmost:mostN x.sz≤300:=by unfold mostN;omega
 have hd:=H.out.2;unfold decN at hd;rw[hm,hk0] at hd
 have hcnd:(k0=1∨k0=2)∧m≤mostN x.sz:=by
  split at hd
  ·cases hd
  ·rename_i hc
   simp only[not_or,not_and,Decidable.not_not,Nat.not_lt] at hc;refine⟨?_,hc.2⟩;by_cases e:k0=1
   ·exact .inl e
   ·exact .inr (hc.1 e)
 rw[if_neg (by rintro(⟨e1,e2⟩ | e1);rcases hcnd.1 with e | e;exact e1 e;exact e2 e;omega)] at hd
 injection hd with hd;have H1:=yH (yA5 hB1 hc ho hby hd);obtain⟨hk12,hmm⟩:=hcnd;have t1:decide ((mostN x.sz:Int)< (m:Int))=false:=decide_eq_false (by omega);clear hB1 hc ho hby hd hg hF hm hk0 hb0 hb1 hgl;have h18:18*m+4≤x.sz:=by unfold mostN at hmm;omega
 have hnum:∀ (o mm kk:Nat) (w':World),Grew w1 w'→1≤kk→kk≤8→o+kk*mm≤x.sz→Calls prog 86 #[.slice (some ⟨g,o,none⟩) (x.sz - o) (cA - o),.int .i64 mm,.int .i64 kk] w' fun e w2=>OwnOut w' w2 3 1 mm (iv (numsL (bs.drop o) mm kk)) (fun A c=> .slice A mm c) e:=by
  intro o mm kk w' hg' h1 h2 h3;have hsub:=Sl.sub (i:=o) (m:=x.sz - o) ((hbl▸Sl.of_own H1.out.2.2.1:Sl w1 1 (some ⟨g,0,none⟩) bs.length (bv bs)).grew hg') (by omega) (bs.drop o) (by rw[List.take_of_length_le];rw[List.length_drop];omega);rw[Nat.zero_add] at hsub;have hln:(bs.drop o).length=x.sz - o:=by rw[List.length_drop,hbl]
  have:=bnumbers_any g o (cA - o) (bs.drop o) mm kk w' ⟨h1,h2⟩ (by omega) (by omega) (by omega) (by simp only[maxLen] at hcA;omega) (fun q hq=>H1.out.2.2.2.1 q (List.mem_of_mem_drop hq)) hsub;rw[hln] at this;exact this
 obtain⟨hcA1,hcA2⟩:=hcA;simp only[maxLen] at hcA2;have HN:=yH hnum;have s1:(2:Int)≤(x.sz:Int):=by omega
 have s2:¬cA=2:=by omega
 obtain⟨o1,ho1⟩:∃o,2+8*m=o:=⟨_,rfl⟩;obtain⟨o2,ho2⟩:∃o,2+16*m=o:=⟨_,rfl⟩
 have s3:IntKind.i64.wrap (2+IntKind.i64.wrap (8*(m:Int)))=(o1:Int):=by
  rw[IntWalk.i64_in (8*(m:Int)) ⟨by omega,by omega⟩,IntWalk.i64_in _ ⟨by omega,by omega⟩];omega
 have s4:(o1:Int)≤(x.sz:Int):=by omega
 have s5:¬cA=o1:=by omega
 have s6:IntKind.i64.wrap (2+IntKind.i64.wrap (16*(m:Int)))=(o2:Int):=by
  rw[IntWalk.i64_in (16*(m:Int)) ⟨by omega,by omega⟩,IntWalk.i64_in _ ⟨by omega,by omega⟩];omega
 have s6':(2:Int)+16*(m:Int)=(o2:Int):=by omega
 have s7:(o2:Int)≤(x.sz:Int):=by omega
 have s8:¬cA=o2:=by omega
 have HO:=yH (yA ho1 ho2);clear hnum hbl ho1 ho2;rcases hk12 with rfl | rfl
 ·go_wp2_with (go_at_call 85;(refine(bmost_any t p root F x w1 H1.out.1).mono ?_);rintro e w3 ⟨rfl,rfl⟩)
  refine wp_region_held_drew (S:=fun _=>True) (by kernel_rfl) trivial (fun hHeld=>?_);refine Todo.out (is:=[0,1,2,3,5,6,7,8,9,10]) ?_
  repeat
   refine tkH (v:=?_) rfl (Or.inl ⟨by rfl,?_⟩) hHeld ?_;rotate_left
   ·(intro w hSw;(try dsimp only at hSw);go_simp)<;>with_reducible rfl
   (try simp only[Act.put,lZ])
  refine Todo.fin ?_;refine rdH (i:=4) (by kernel_rfl) rfl fun K hK=>?_;go_simp;refine(HN.out 2 m 8 _ ((Chg.refl _ _).drew) (by omega) (by omega) (by omega)).mono ?_;rintro e w4 ⟨A4,c4,rfl,ho4,hg4⟩;refine hK.out _ _ trivial (fun _=>?_);clear hK K;(try simp only[Act.put,lZ])
  refine rdH (i:=11) (by kernel_rfl) rfl fun K hK=>?_;go_simp;refine(HN.out o1 m 8 w4 (Grew.trans ((Chg.refl _ _).drew) hg4) (by omega) (by omega) (by have:=HO.out.1;omega)).mono ?_;rintro e w5 ⟨A5,c5,rfl,ho5,hg5⟩;refine hK.out _ _ trivial (fun _=>?_);clear hK K;(try simp only[Act.put,lZ])
  have H5:=yH (yA4 ho4 hg4 ho5 hg5);clear ho4 hg4 ho5 hg5;refine tkH1 (i:=12) (v:=?_) rfl (Or.inl ⟨by rfl,?_⟩) hHeld ?_;rotate_left
  ·(intro w hSw;(try dsimp only at hSw);go_simp)<;>with_reducible rfl
  (try simp only[Act.put,lZ])
  refine rdH (i:=13) (by kernel_rfl) rfl fun K hK=>?_;go_simp;refine hK.out _ _ trivial (fun _=>?_);clear hK K;(try simp only[Act.put,lZ])
  refine rdH (i:=14) (by kernel_rfl) rfl fun K hK=>?_;go_simp;refine hK.out _ _ trivial (fun _=>?_);clear hK K;(try simp only[Act.put,lZ])
  refine wpAnyH_done (by kernel_rfl) ?_ _;clear hHeld;obtain⟨W6,hW6⟩:∃W,w5.alloc (.cells #[.int .i64 q,.slice A4 m c4,.slice A5 m c5,.slice none 0 0] 73)=W:=⟨_,rfl⟩;rw[hW6];have hg14:Grew w1 w4:=Grew.trans ((Chg.refl _ _).drew) H5.out.2.1;have hg56:Grew w5 W6:=hW6▸(Chg.refl _ _).alloc _;have hg16:Grew w1 W6:=Grew.trans hg14 (Grew.trans H5.out.2.2.2 hg56)
  have hc6:W6.cell? ⟨g,0,none⟩=some (.int .u8 1):=(hg16.cell (p:=⟨g,0,none⟩) (H1.out.2.2.1.lt g rfl).2 id).trans hc0;have hb6:Blk W6 w5.heap.size 73 #[.int .i64 q,.slice A4 m c4,.slice A5 m c5,.slice none 0 0]:=hW6▸Blk.new _ _ _;have hz6:W6.heap.size=w5.heap.size+1:=by subst hW6;simp
  have H6:=yH (yA5 hg14 hg16 hb6 (Grew.trans H5.out.2.2.2 hg56) (yA hg56 hz6));have hgl1:=hg14.size;have hgl2:=H5.out.2.2.2.size;clear hW6 hg14 hg16 hg56 hc0 hc1 hz6;clear hb6;go_wp2_with fail
  go_ret2
  have hp1:1≤w1.heap.size:=by have:=tab_pos H1.out.1.gp.tab;exact this
  have hz6:=(yP4 H6.out).2;have hnd:=(yP4 H1.out);rw[if_neg (by decide),HO.out.1] at hnd;subst hnd
  refine⟨w5.heap.size,_,rfl,nd_mk (s1:=w1.heap.size) (s2:=w4.heap.size) (s3:=w5.heap.size) (s4:=W6.heap.size) (s5:=W6.heap.size) (A1:=A4) (A2:=A5) (A3:=none) (c1:=c4) (c2:=c5) (c3:=0) ?_ ?_ ?_ (World.ownsRow_nil _ _ _ _) (own_rng H5.out.1) (own_rng H5.out.2.2.1) (fun a ha=>by cases ha) (by omega) (by omega),fun j hj=>?_,H1.out.1.grew H6.out.2.1,H1.out.2.1.grew H6.out.2.1⟩
  ·have:=H6.out.2.2.1
   simpa [numsL_len] using this
  ·have:=own_base (own_grew H5.out.1 H6.out.2.2.2.1) hp1
   simpa [numsL_len] using this
  ·have:=own_base (own_grew H5.out.2.2.1 (yP4 H6.out).1) (show 1≤w4.heap.size by omega)
   simpa [numsL_len] using this
  ·have:=H1.out.2.1.size;omega
 ·go_wp2_with (go_at_call 85;(refine(bmost_any t p root F x w1 H1.out.1).mono ?_);rintro e w3 ⟨rfl,rfl⟩)
  refine wp_region_held_drew (S:=fun _=>True) (by kernel_rfl) trivial (fun hHeld=>?_);refine Todo.out (is:=[0,1,2,3,5,6,7,8,9,10]) ?_
  repeat
   refine tkH (v:=?_) rfl (Or.inl ⟨by rfl,?_⟩) hHeld ?_;rotate_left
   ·(intro w hSw;(try dsimp only at hSw);go_simp)<;>with_reducible rfl
   (try simp only[Act.put,lZ])
  refine Todo.fin ?_;refine rdH (i:=4) (by kernel_rfl) rfl fun K hK=>?_;go_simp;refine(HN.out 2 m 8 _ ((Chg.refl _ _).drew) (by omega) (by omega) (by omega)).mono ?_;rintro e w4 ⟨A4,c4,rfl,ho4,hg4⟩;refine hK.out _ _ trivial (fun _=>?_);clear hK K;(try simp only[Act.put,lZ])
  refine rdH (i:=11) (by kernel_rfl) rfl fun K hK=>?_;go_simp;refine(HN.out o1 m 8 w4 (Grew.trans ((Chg.refl _ _).drew) hg4) (by omega) (by omega) (by have:=HO.out.1;omega)).mono ?_;rintro e w5 ⟨A5,c5,rfl,ho5,hg5⟩;refine hK.out _ _ trivial (fun _=>?_);clear hK K;(try simp only[Act.put,lZ])
  have H5:=yH (yA4 ho4 hg4 ho5 hg5);clear ho4 hg4 ho5 hg5;refine tkH1 (i:=12) (v:=?_) rfl (Or.inl ⟨by rfl,?_⟩) hHeld ?_;rotate_left
  ·(intro w hSw;(try dsimp only at hSw);go_simp)<;>with_reducible rfl
  (try simp only[Act.put,lZ])
  refine rdH (i:=13) (by kernel_rfl) rfl fun K hK=>?_;go_simp;refine hK.out _ _ trivial (fun _=>?_);clear hK K;(try simp only[Act.put,lZ])
  refine rdH (i:=14) (by kernel_rfl) rfl fun K hK=>?_;go_simp;refine hK.out _ _ trivial (fun _=>?_);clear hK K;(try simp only[Act.put,lZ])
  refine wpAnyH_done (by kernel_rfl) ?_ _;clear hHeld;obtain⟨W6,hW6⟩:∃W,w5.alloc (.cells #[.int .i64 q,.slice A4 m c4,.slice A5 m c5,.slice none 0 0] 73)=W:=⟨_,rfl⟩;rw[hW6];have hg14:Grew w1 w4:=Grew.trans ((Chg.refl _ _).drew) H5.out.2.1;have hg56:Grew w5 W6:=hW6▸(Chg.refl _ _).alloc _;have hg16:Grew w1 W6:=Grew.trans hg14 (Grew.trans H5.out.2.2.2 hg56)
  have hc6:W6.cell? ⟨g,0,none⟩=some (.int .u8 2):=(hg16.cell (p:=⟨g,0,none⟩) (H1.out.2.2.1.lt g rfl).2 id).trans hc0;have hb6:Blk W6 w5.heap.size 73 #[.int .i64 q,.slice A4 m c4,.slice A5 m c5,.slice none 0 0]:=hW6▸Blk.new _ _ _;have hz6:W6.heap.size=w5.heap.size+1:=by subst hW6;simp
  have H6:=yH (yA5 hg14 hg16 hb6 (Grew.trans H5.out.2.2.2 hg56) (yA hg56 hz6));have hgl1:=hg14.size;have hgl2:=H5.out.2.2.2.size;clear hW6 hg14 hg16 hg56 hc0 hc1 hz6;obtain⟨d0,e0,l0⟩:=hb6.facts;clear hb6;go_wp2_with fail
  refine(HN.out o2 (m+1) 2 W6 H6.out.2.1 (by omega) (by omega) (by have:=HO.out.2;omega)).mono ?_;rintro e w7 ⟨A7,c7,rfl,ho7,hg7⟩;have hb7:=H6.out.2.2.1.grew hg7;clear d0 e0 l0 hc6;obtain⟨d0,e0,l0⟩:=hb7.facts;have H7:=yH (yA3 hb7 ho7 hg7);clear hb7 ho7 hg7;go_wp2_with fail
  go_ret2
  obtain⟨W8,hW8⟩:∃W,w7.setCell ⟨w5.heap.size,3,none⟩ (.slice A7 (m+1) c7)=W:=⟨_,rfl⟩;have hc8:Chg (fun j=>j=w5.heap.size) w7 W8:=hW8▸(Chg.refl (fun j=>j=w5.heap.size) w7).setCell (p:=⟨w5.heap.size,3,none⟩) (fun _=>rfl) _;have hz6:=(yP4 H6.out).2;have hz7:=H7.out.2.2.size;have hz8:=hc8.size;have hb8:=H7.out.1.put 3 (.slice A7 (m+1) c7)
  rw[hW8] at hb8 ⊢;have hp1:1≤w1.heap.size:=by have:=tab_pos H1.out.1.gp.tab;exact this
  have hG8:Grew w1 W8:=Chg.trans (Grew.trans H6.out.2.1 H7.out.2.2) hc8 fun i hi e=>by omega
  have hnd:=(yP4 H1.out);rw[if_pos trivial,HO.out.1,HO.out.2] at hnd;have hr4:=own_rng H5.out.1;have hr5:=own_rng H5.out.2.2.1;have hr7:=own_rng H7.out.2.1
  have hpos:∀a∈numsL (bs.drop o2) (m+1) 2,0≤a:=fun a ha=>by
   obtain⟨i,hi,rfl⟩:=List.mem_map.1 ha;have hi':=List.mem_range.1 hi
   exact(getL_2 (fun q hq=>H1.out.2.2.2.1 q (List.mem_of_mem_drop (List.mem_of_mem_drop (List.mem_of_mem_take hq)))) (by
    have h1:=H1.out.2.2.1.1;rw[bv_len] at h1;have h2:=HO.out.2;simp only[List.length_take,List.length_drop];omega)).1
  subst hnd;refine⟨w5.heap.size,_,rfl,nd_mk (s1:=w1.heap.size) (s2:=w4.heap.size) (s3:=w5.heap.size) (s4:=W6.heap.size) (s5:=w7.heap.size) (A1:=A4) (A2:=A5) (A3:=A7) (c1:=c4) (c2:=c5) (c3:=c7) ?_ ?_ ?_ ?_ hr4 hr5 hr7 (by omega) (by omega),fun j hj=>?_,H1.out.1.grew hG8,H1.out.2.1.grew hG8⟩
  ·simpa [numsL_len] using hb8
  ·have:=own_base (own_chg (own_grew H5.out.1 (Grew.trans H6.out.2.2.2.1 H7.out.2.2)) hc8 fun g hg e=>by obtain⟨a,ha,rfl⟩:=own_at hg;have:=hr4 a ha;omega) hp1
   simpa [numsL_len] using this
  ·have:=own_base (own_chg (own_grew H5.out.2.2.1 (Grew.trans (yP4 H6.out).1 H7.out.2.2)) hc8 fun g hg e=>by obtain⟨a,ha,rfl⟩:=own_at hg;have:=hr5 a ha;omega) (show 1≤w4.heap.size by omega)
   simpa [numsL_len] using this
  ·have:=own_base (own_chg H7.out.2.1 hc8 fun g hg e=>by obtain⟨a,ha,rfl⟩:=own_at hg;have:=hr7 a ha;omega) (show 1≤W6.heap.size by omega)
   simp only[nv_toNat hpos];simpa [numsL_len] using this
  ·have:=H1.out.2.1.size;omega
end
section
open Go.RowKit
theorem zeroCells_list (z:Value) (hz:z.cells= #[z]) (k:Nat):(Builtin.zeroCells z.cells k).toList=List.replicate k z:=by
 rw[hz];refine List.eq_replicate_iff.2 ⟨by simp[Builtin.zeroCells],fun b hb=>?_⟩;simp only[Builtin.zeroCells,Array.toList_map,List.mem_map] at hb;obtain⟨m, -,rfl⟩:=hb;have:m % 1=0:=Nat.mod_one m;simp[this]
theorem run_append_zeros_own {P:Program} (w:World) (base:Nat) (t tn ty e:TypeId) (i:TypeInfo) (z:Value) (kq kn:IntKind) (ht:P.underlying t=some (.slice e)) (htn:P.underlying tn=some (.int kn)) (hi:P.info? e=some i) (hz:i.zero=some z)
  (hsz:i.size=1) (hby:i.bytes≤8) (hzc:z.cells= #[z]) (hz1:z.oneCell'=true) (g n c:Nat) (xs:List Value) (hown:w.ownsRow base e 1 (.slice (some ⟨g,0,none⟩) n c) n xs) (k:Nat) (hk:n+k≤1000000) (hb:base≤w.heap.size) :
  ∃v' w',(Builtin.append_ #[t,tn] ty #[.slice (some ⟨g,0,none⟩) n c,.int kq k]).run P w= .ok v' w'∧w'.ownsRow base e 1 v' (n+k) (xs++List.replicate k z)∧w.grownBy w' (some g)∧(v'.ownBlock=some g∨v'.ownBlock=some w.heap.size):=by
 obtain⟨cur,hbg,hg,hnc,hcm,hcs,htake,hxl⟩:=own_row hown;have hw:IntKind.i64.wrap (k:Int)=k:=by rw[IntKind.wrap_i64];omega
 have hneg:¬ ((k:Int)< 0):=by omega
 have h48i:¬ (281474976710656< (k:Int)*(i.bytes:Int)):=by
  rw[←Int.natCast_mul];have:k*i.bytes≤k*8:=Nat.mul_le_mul_left _ hby
  omega
 have hlen:(xs++List.replicate k z).length=(n+k)*1:=by simp;omega
 by_cases hroom:n+k≤c
 ·have hst:=run_storeCells_at P g (n*i.size) e (List.replicate k z) 0 cur w hg (by simp[hsz];omega) (fun v hv=>by rw[(List.mem_replicate.1 hv).2];exact hz1)
  simp only[Nat.add_zero] at hst;have hzl:=zeroCells_list z hzc k;refine⟨.slice (some ⟨g,0,none⟩) (n+k) c,_,?_,⟨hlen,.inr ⟨g,c,_,rfl,hbg,setRow_heap w g cur (cur.toList.take n++List.replicate k z++cur.toList.drop (n+k)).toArray e _ hg,hroom,hcm,?_,?_⟩⟩,⟨rfl,rfl,rfl,by simp,fun j _ hj=>setRow_other w g j _ (fun e=>hj (by simp[e]))⟩,.inl rfl⟩
  ·by_cases h0:k=0
   ·subst h0
    have hself:=setRow_self w g cur e (0,0) hg;simp only[List.replicate_zero,List.append_nil,Nat.add_zero,List.take_append_drop,Array.toArray_toList,hself];have hw0:IntKind.i64.wrap 0=0:=by decide
    simp[Builtin.append_,run_underlying ht,run_underlying htn,sizeOf,typeInfo,zeroValue,hi,hz,hsz,asInt,asIntOf,hw0,hnc,Addr.add_lit,storeCells]
   ·have hns:¬ (k*1=0):=by omega
    rw[hsz,Nat.mul_one] at hst;simp only[List.length_replicate] at hst;simp[Builtin.append_,run_underlying ht,run_underlying htn,sizeOf,typeInfo,zeroValue,hi,hz,hsz,asInt,asIntOf,hw,hneg,h48i,hroom,h0,Addr.add_lit,hzl,hst]
  ·simp only[List.size_toArray,List.length_append,List.length_take,List.length_drop,Array.length_toList,List.length_replicate]
   omega
  ·rw[←hlen]
   have:cur.toList.take n=xs:=by rw[←htake,Nat.mul_one]
   rw[this];simp only[List.append_assoc];rw[←List.append_assoc];exact List.take_left
 ·have hr:=Lib.run_append_grow_zeros (P:=P) w t tn ty e i z kq kn ht htn hi hz (some ⟨g,0,none⟩) n c xs
   (by rw[hsz];exact run_firstCells_some (P:=P) w.drew 1 n ⟨g,0,none⟩ n c xs (by omega) (hown.cells (g:=g) rfl)) k (by omega) (by omega) (by omega) (by omega)
   (by have:k*i.bytes≤k*8:=Nat.mul_le_mul_left _ hby;omega) (growslice_fits (by omega) (by have:(n+k)*i.bytes≤(n+k)*8:=Nat.mul_le_mul_left _ hby;omega))
  have hge:=grownCap_ge w (n+k) c e;have hcm':grownCap w (n+k) c e≤maxLen:=grownCap_le_maxLen w (n+k) c e (by simp only[maxLen];omega);refine⟨_,_,hr,⟨hlen,.inr ⟨w.heap.size,_,_,rfl,hb,heap_alloc_new w.drew _,hge,hcm',?_,?_⟩⟩,⟨rfl,rfl,rfl,by simp,fun j hj _=>heap_alloc_old w.drew _ hj⟩,.inr rfl⟩
  ·simp only[Array.size_append,List.size_toArray,size_zeroCells,hzc]
   simp
   omega
  ·rw[←hlen]
   simp only[Array.toList_append,zeroCells_list z hzc];exact List.take_left
end
section
open Go.RowKit Go.Maps
theorem step_append_run2 {P:Program} {w:World} {ops:Array Oper} {o:Oper} {a:Act} {K:Act→World→Prop} {Q:Exit→Act→World→Prop} {E:Prop} (hgd:o.guard=none) (s x:Operand) (t t':TypeId)
  (ho:o.op= .call { callee:= .builtin .append,args:= #[s,x],argTypes:= #[t,t'] }) {sv xv v:Value} {w':World} (hs:a.eval s=sv) (hx:a.eval x=xv)
  (hrun:(Builtin.append_ #[t,t'] o.type #[sv,xv]).run P w= .ok v w') (h:K (a.put o.dst v) w'):if Region.wanted o (yielded ops a.tmps)=true then Oper.wp P o a w K Q else E:=by
 have hw:Region.wanted o (yielded ops a.tmps)=true:=by simp[Region.wanted,hgd]
 rw[if_pos hw];unfold Oper.wp execOp;simp only[ho,resolve,invoke,builtin,Sem.run_bind,Sem.run_pure,Result.andThen_ok,List.map_toArray,List.map_cons,List.map_nil,hs,hx,hrun];exact h
theorem enc8_snoc (l:List Int) (k:Nat) (a:Int) (h:l[k]? =some a):enc8 (l.take (k+1))=enc8 (l.take k)++encL a 8:=by
 rw[List.take_add_one,h];simp[enc8]
theorem enc2_snoc (l:List Nat) (k a:Nat) (h:l[k]? =some a):enc2 (l.take (k+1))=enc2 (l.take k)++encL a 2:=by
 rw[List.take_add_one,h];simp[enc2]
theorem bv_append (a b:List Int):bv (a++b)=bv a++bv b:=by simp[bv]
def ndHd (nd:Nd):List Int:=[if nd.kids.length=0 then 1 else 2,((nd.keys.length % 256:Nat):Int)]
def ndSeg (nd:Nd) (j:Nat):List Int:=ndHd nd++(if 1≤j then enc8 nd.keys else [])++(if 2≤j then enc8 nd.vals else [])
theorem ndSeg_len (nd:Nd) (j:Nat):(ndSeg nd j).length≤2+8*nd.keys.length+8*nd.vals.length:=by
 unfold ndSeg;split<;>split<;>simp[ndHd,enc8_len]<;>omega
structure SavJ (w W:World) (t p root b q:Nat) (F N:Nat→Prop) (x:Rp) (nd:Nd) (lit:Nat) (Ak:Option Addr) (ck:Nat) (Av:Option Addr) (cv:Nat) (v:Value) (xs:List Int):Prop where
 bt:BT W t p root F x
 na:NdAt W N b q nd
 gr:Grew w W
 row:W.ownsRow w.heap.size 5 1 v xs.length (bv xs)
 fl:Blk W lit 22 #[.slice Ak nd.keys.length ck,.slice Av nd.keys.length cv]
 ks:Sl W 1 Ak nd.keys.length (iv nd.keys)
 vs:Sl W 1 Av nd.keys.length (iv nd.vals)
 lt:(∀a,Ak=some a→a.block< w.heap.size)∧(∀a,Av=some a→a.block< w.heap.size)∧w.heap.size≤lit
section
variable {w W W':World} {t p root b q lit:Nat} {F N:Nat→Prop} {x:Rp} {nd:Nd} {Ak Av:Option Addr} {ck cv:Nat} {v v':Value} {xs ys:List Int}
theorem SavJ.ap (h:SavJ w W t p root b q F N x nd lit Ak ck Av cv v xs) (ha:Ap W W' v v') (ho:W'.ownsRow w.heap.size 5 1 v' ys.length (bv ys)) (hbt:∀j,F j→j< w.heap.size) (hN:∀j,N j→j< w.heap.size) (ht:t< w.heap.size) (h0:0< w.heap.size):SavJ w W' t p root b q F N x nd lit Ak ck Av cv v' ys:=by
 have hge:∀j,v.ownBlock=some j→w.heap.size≤j:=fun j hj=>(h.row.lt j hj).1;have hne:=own_blk_ne h.row h.fl (by decide);obtain⟨l1,l2,l3⟩:=h.lt
 exact⟨h.bt.chg ha.chg (fun j hj e=>by have:=hge j e;have:=hbt j hj;omega) (fun e=>by have:=hge _ e;omega) (fun e=>by have:=hge _ e;omega),h.na.chg ha.chg fun j hj e=>by have:=hge j e;have:=hN j hj;omega,ha.grow h.gr hge,ho,h.fl.chg ha.chg hne,h.ks.chg ha.chg fun a e e2=>by have:=l1 a e;have:=hge _ e2;omega,h.vs.chg ha.chg fun a e e2=>by have:=l2 a e;have:=hge _ e2;omega,h.lt⟩
end
theorem SavJ.put {w W W':World} {t p root b q lit:Nat} {F N:Nat→Prop} {x:Rp} {nd:Nd} {Ak Av:Option Addr} {ck cv k:Nat} {v v':Value} {xs:List Int} {n:Int} (h:SavJ w W t p root b q F N x nd lit Ak ck Av cv v xs) (ha:Ap W W' v v') (ho:W'.ownsRow w.heap.size 5 1 v' (xs.length+k) (bv xs++bv (encL n k))) (hbt:∀j,F j→j< w.heap.size) (hN:∀j,N j→j< w.heap.size) (ht:t< w.heap.size) (h0:0< w.heap.size):SavJ w W' t p root b q F N x nd lit Ak ck Av cv v' (xs++encL n k):=by
 refine h.ap ha ?_ hbt hN ht h0;rw[List.length_append,encL_len,bv_append];exact ho
theorem SavJ.sel {w W:World} {t p root b q lit:Nat} {F N:Nat→Prop} {x:Rp} {nd:Nd} {Ak Av:Option Addr} {ck cv:Nat} {v:Value} {xs:List Int} (h:SavJ w W t p root b q F N x nd lit Ak ck Av cv v xs) (hv:nd.vals.length=nd.keys.length) (hk0:Sl w 1 Ak nd.keys.length (iv nd.keys)) (hv0:Sl w 1 Av nd.keys.length (iv nd.vals)) {j:Nat} (hj:j< 2) :
  ∃A c l,W.cell? ⟨lit,j,none⟩=some (.slice A nd.keys.length c)∧(∀W',Grew w W'→Sl W' 1 A nd.keys.length (iv l))∧ndSeg nd (j+1)=ndSeg nd j++enc8 l∧l.length=nd.keys.length:=by
 have hj2:j=0∨j=1:=by omega
 rcases hj2 with rfl | rfl
 ·exact⟨Ak,ck,nd.keys,h.fl.cell 0,fun W' hg=>hk0.grew hg,by simp[ndSeg],rfl⟩
 ·exact⟨Av,cv,nd.vals,h.fl.cell 1,fun W' hg=>hv0.grew hg,by simp[ndSeg],hv⟩
def SvOut (w w':World) (t p root q:Nat) (F:Nat→Prop) (x:Rp) (c:Pk) (nd:Nd) (e:Ending):Prop:=
 (e= .returned (.int .i64 0)∧BTTo w w' t p root F (x.put q (.new (ndL nd x.sz))))∨(¬ (1≤x.slack)∧c.isNew=false∧e= .returned (.int .i64 21)∧Grew w w')
theorem bsave_any (t p root b q0:Nat) (F N:Nat→Prop) (x:Rp) (c:Pk) (nd:Nd) (w:World) (h:BT w t p root F x) (hn:NdAt w N b q0 nd) (hfit:nd.Fit x.sz) (ho:x.was≠none) (hi:x.now[q0]? =some c) (hu:c.used=true) (hbF0:¬F b) :
  Calls prog 37 #[.pointer (some ⟨t,0,none⟩),.pointer (some ⟨b,0,none⟩)] w fun e w'=>SvOut w w' t p root q0 F x c nd e:=by
 obtain⟨Ak,ck,Av,cv,Ac,cc,h1,h2,h3,h4,h5,h6,h7,h8,h9⟩:=hn;have hz:=h.gp.szs;have hkl:nd.keys.length≤227:=by have:=hfit.most;unfold mostN at this;omega
 have hvl:=hfit.vals;have hcl:nd.kids.length≤228:=by have:=hfit.kids;omega
 have HN:=yH (yA5 (show NdAt w N b q0 nd from⟨Ak,ck,Av,cv,Ac,cc,h1,h2,h3,h4,h5,h6,h7,h8,h9⟩) h6 h7 h8 (yA4 h9 h2 (hfit.vals▸h3:Sl w 1 Av nd.keys.length (iv nd.vals)) h4));have H:=yH (yA5 h hfit ho hi hu);rw[hvl] at h1 h3;have h3':=h3;obtain⟨d0,f0,s0⟩:=h1.facts;have HVl:=yH hvl;clear h h2 h3 h4 h5 h6 h7 h8 h9 hfit ho hi hu hvl
 have hlf:∀u,Grew w u→Calls prog 41 #[.pointer (some ⟨b,0,none⟩)] u fun e w'=>e= .returned (.bool (decide (nd.kids.length=0)))∧u=w':=fun u hg=>leaf_any b q0 nd N u (HN.out.1.grew hg);have HLf:=yH hlf;have hmod:nd.keys.length % 256=nd.keys.length:=Nat.mod_eq_of_lt (by omega);have hw0:1≤w.heap.size:=tab_pos H.out.1.gp.tab
 obtain⟨W0,hW0⟩:∃W,w=W:=⟨_,rfl⟩;have HW0:=yH hW0;clear hlf hW0;by_cases hl0:nd.kids.length=0
 ·have t1:decide (nd.kids.length=0)=true:=decide_eq_true hl0
  have hhd:ndHd nd=[1,(nd.keys.length:Int)]:=by unfold ndHd;rw[hmod];simp[hl0]
  have HHd:=yH hhd;clear hhd;go_enter func37,ntmps37
  go_wp2_with (go_at_call 41;(refine(HLf.out w (Chg.refl _ _)).mono ?_);rintro e w1 ⟨rfl,rfl⟩)
  obtain⟨W1,hW1⟩:∃W,w.alloc (.cells #[.int .u8 1,.int .u8 nd.keys.length] 5)=W:=⟨_,rfl⟩;rw[hW1];have hg1:Grew w W1:=hW1▸(Chg.refl _ _).alloc _
  have hr1:W1.ownsRow w.heap.size 5 1 (.slice (some ⟨w.heap.size,0,none⟩) 2 2) 2 (bv (ndSeg nd 0)):=by
   subst hW1;have:=World.ownsRow_lit w #[.int .u8 1,.int .u8 nd.keys.length] 2 (Nat.le_refl _) (by simp[maxLen]) (by simp) (e:=5) (size:=1) (base:=w.heap.size);have e:bv (ndSeg nd 0)=[.int .u8 1,.int .u8 nd.keys.length]:=by simp[ndSeg,HHd.out,bv]
   rw[e];simpa using this
  have hd1:W1.drew.cell? ⟨b,1,none⟩=some (.slice Ak nd.keys.length ck)∧W1.drew.cell? ⟨b,2,none⟩=some (.slice Av nd.keys.length cv):=⟨(hg1.cell (p:=⟨b,1,none⟩) s0 id).trans (d0 1),(hg1.cell (p:=⟨b,2,none⟩) s0 id).trans (d0 2)⟩;have hs1:W1.heap.size=w.heap.size+1:=by subst hW1;simp
  refine wp_region_held_drew (S:=fun w'=>w'.cell? ⟨b,1,none⟩=some (.slice Ak nd.keys.length ck)∧w'.cell? ⟨b,2,none⟩=some (.slice Av nd.keys.length cv)) (by kernel_rfl) hd1 (fun hHeld=>?_);refine Todo.out (is:=[0,1,2,3,4,5,6,7,10]) ?_
  repeat
   refine tkH (v:=?_) rfl (Or.inl ⟨by rfl,?_⟩) hHeld ?_;rotate_left
   ·(intro w hSw;(try dsimp only at hSw);go_simp)<;>with_reducible rfl
   (try simp only[Act.put,lZ])
  refine Todo.fin ?_;refine rdH (i:=8) (by kernel_rfl) rfl fun K hK=>?_;go_simp;obtain⟨W2,hW2⟩:∃W,(W1.alloc (.cells #[.slice Ak nd.keys.length ck,.slice Av nd.keys.length cv] 22)).drew=W:=⟨_,rfl⟩;rw[hW2];have hg2:Grew W1 W2:=hW2▸((Chg.refl _ _).alloc _).drew
  have hd2:W2.cell? ⟨b,1,none⟩=some (.slice Ak nd.keys.length ck)∧W2.cell? ⟨b,2,none⟩=some (.slice Av nd.keys.length cv):=⟨(hg2.cell (p:=⟨b,1,none⟩) (Nat.lt_of_lt_of_le s0 hg1.size) id).trans hd1.1,(hg2.cell (p:=⟨b,2,none⟩) (Nat.lt_of_lt_of_le s0 hg1.size) id).trans hd1.2⟩
  have hbl:Blk W2 W1.heap.size 22 #[.slice Ak nd.keys.length ck,.slice Av nd.keys.length cv]:=hW2▸Blk.new _ _ _;have hg12:=Grew.trans hg1 hg2
  have hJ:SavJ w W2 t p root b q0 F N x nd W1.heap.size Ak ck Av cv (.slice (some ⟨w.heap.size,0,none⟩) 2 2) (ndSeg nd 0):=⟨H.out.1.grew hg12,HN.out.1.grew hg12,hg12,by simpa [ndSeg,ndHd] using own_grew hr1 hg2,hbl,(yP4 HN.out).2.1.grew hg12,(yP6 HN.out).1.grew hg12,⟨fun a ha=>(yP4 HN.out).1 _ (HN.out.2.1 a ha),fun a ha=>(yP4 HN.out).1 _ (HN.out.2.2.1 a ha),by omega⟩⟩
  have HJ:=yH hJ;refine hK.out _ _ hd2 (fun _=>?_);clear hK K;(try simp only[Act.put,lZ])
  refine tkH1 (i:=9) (v:=?_) rfl (Or.inl ⟨by rfl,?_⟩) hd2 ?_;rotate_left
  ·(intro w hSw;(try dsimp only at hSw);go_simp)<;>with_reducible rfl
  (try simp only[Act.put,lZ])
  refine wpAnyH_done (by kernel_rfl) ?_ _;clear hHeld hd1 hd2 hW2 hW1 hbl hJ hr1 hg1 hg2 hg12 d0 f0 s0;obtain⟨lit,hlit⟩:∃l,w.heap.size+1=l:=⟨_,rfl⟩;rw[hs1,hlit] at HJ;rw[hlit];have hbF:∀j,F j→j< w.heap.size:=H.out.1.gp.lt;have hbt:=H.out.1.blk.lt;have HB:=yH (yA hbF hbt);clear hlit hs1 hbF hbt;go_wp2_with fail
  go_loopg [6,33] 2 (fun q v i wr=>∃ (j:Nat),q=2 - j∧j≤2∧i= .int .i64 j∧SavJ w wr t p root b q0 F N x nd lit Ak ck Av cv v (ndSeg nd j))
  case atStart=>exact⟨0,rfl,by omega,rfl,HJ.out⟩
  case round=>
   clear HJ;obtain⟨j,rfl,hj,rfl,hJ⟩:=hrel;have HJ:=yH hJ;clear hJ;by_cases hlt:j< 2
   ·obtain⟨Al,cl,lst,q1,q2,q3,q4⟩:=HJ.out.sel HVl.out (yP4 HN.out).2.1 (yP6 HN.out).1 hlt
    have HL:=yH (yA3 q2 q3 q4);clear q2 q3 q4;have t2:decide ((j:Int)< 2)=true:=decide_eq_true (by omega);go_wp2_with fail
    have Hlt:=yH (yA hlt hj);clear q1 hlt hj t2;go_loopg [6,39] nd.keys.length (fun q v i wr=>∃ (k:Nat),q=nd.keys.length - k∧k≤nd.keys.length∧i= .int .i64 k∧SavJ w wr t p root b q0 F N x nd lit Ak ck Av cv v (ndSeg nd j++enc8 (lst.take k)))
    case atStart=>exact⟨0,rfl,Nat.zero_le _,rfl,by simpa [enc8] using HJ.out⟩
    case round=>
     clear HJ;obtain⟨k,rfl,hk,rfl,hJ⟩:=hrel;have HJ:=yH hJ;have hbw:w.heap.size≤wr.heap.size:=hJ.gr.size;clear hJ;by_cases hlt2:k< nd.keys.length
     ·obtain⟨a,ha⟩:∃a,lst[k]? =some a:=⟨_,List.getElem?_eq_getElem (by rw[HL.out.2.2];exact hlt2)⟩
      obtain⟨gL,oL,rfl, -,hcL⟩:=(HL.out.1 wr HJ.out.gr).2 (by omega);have hca:wr.cell? ⟨gL,oL+k,none⟩=some (.int .i64 a):=hcL k _ (by simp[iv,ha])
      have hxl:(ndSeg nd j++enc8 (lst.take k)).length≤10000:=by
       have h1:=ndSeg_len nd j;have h2:=HVl.out;rw[List.length_append,enc8_len,List.length_take];omega
      have Ha:=yH (yA ha hxl);clear ha hcL hxl;go_wp2_with (go_at_call 83;(refine(bput_any w.heap.size _ (ndSeg nd j++enc8 (lst.take k)).length (bv (ndSeg nd j++enc8 (lst.take k))) a 8 wr hbw HJ.out.row (by have:=Ha.out.2;omega) (by omega)).mono ?_);rintro e w3 ⟨v1,rfl,ho3,ha3⟩;have HO3:=yH (HJ.out.put ha3 ho3 HB.out.1 (yP4 HN.out).1 HB.out.2 hw0);clear ho3 ha3)
      go_roundg (nd.keys.length - (k+1))
      case measure=>omega
      case rel=>exact⟨k+1,rfl,by omega,by simp,by rw[enc8_snoc _ _ _ Ha.out.1,←List.append_assoc];exact HO3.out⟩
     ·obtain rfl:k=nd.keys.length:=by omega
      have HJ2:=yH (show SavJ w wr t p root b q0 F N x nd lit Ak ck Av cv u6 (ndSeg nd (j+1)) from by
       have h1:=HJ.out;rw[←HL.out.2.2,List.take_length,←HL.out.2.1] at h1;exact h1)
      clear HJ;go_wp2_with fail
      go_roundg (2 - (j+1))
      case measure=>(have:=Hlt.out.1;omega)
      case rel=>exact⟨j+1,rfl,by have:=Hlt.out.1;omega,by have:=Hlt.out.1;rw[IntWalk.wrap64_in _ ⟨by omega,by omega⟩];simp,HJ2.out⟩
   ·obtain rfl:j=2:=by omega
    clear hlt hj;obtain⟨d0,f0,s0⟩:=(h1.grew HJ.out.gr).facts;go_wp2_with fail
    go_loopg [6,53] nd.kids.length (fun q v i wr=>∃ (k:Nat),q=nd.kids.length - k∧k≤nd.kids.length∧i= .int .i64 k∧SavJ w wr t p root b q0 F N x nd lit Ak ck Av cv v (ndSeg nd 2++enc2 (nd.kids.take k)))
    case atStart=>exact⟨0,rfl,Nat.zero_le _,rfl,by simpa [enc2] using HJ.out⟩
    case round=>
     clear HJ d0 f0 s0;obtain⟨k,rfl,hk,rfl,hJ⟩:=hrel;have HJ:=yH hJ;have hbw:w.heap.size≤wr.heap.size:=hJ.gr.size;clear hJ
     have hxl:(ndSeg nd 2++enc2 (nd.kids.take k)).length≤10000:=by
      have h1:=ndSeg_len nd 2;have h2:=HVl.out;rw[List.length_append,enc2_len,List.length_take];omega
     have Hxl:=yH hxl;clear hxl;by_cases hlt2:k< nd.kids.length
     ·exfalso;omega
     ·obtain rfl:k=nd.kids.length:=by omega
      clear hk hlt2;have hbody:ndSeg nd 2++enc2 (nd.kids.take nd.kids.length)=nd.body:=by rw[List.take_length];rfl
      rw[hbody] at HJ Hxl;clear hbody;have hfl:=H.out.2.1.len hz.2.2.1;obtain⟨blen,hblen⟩:∃n,nd.body.length=n:=⟨_,rfl⟩;have hrow:=HJ.out.row;rw[hblen] at hfl hrow;have hbpos:0< blen:=by rw[←hblen,Nd.body_len];omega
      obtain⟨Ar,cr,rfl, -⟩:=own_shape hrow;obtain⟨gr,rfl,hgr⟩:=own_block hrow hbpos;obtain⟨d0,f0,s0⟩:=(h1.grew HJ.out.gr).facts;have hS0:wr.drew.cell? ⟨t,0,none⟩=some (.pointer (some ⟨p,0,none⟩))∧wr.drew.cell? ⟨b,0,none⟩=some (.int .i64 q0):=⟨HJ.out.bt.blk.drew.cell 0,d0 0⟩;have Hr:=yH (yA hrow hblen)
      have hszb:x.sz≤4096∧64≤x.sz:=⟨hz.2.2.2.1,hz.2.2.1⟩;clear hrow hblen d0 f0 s0;obtain⟨i0,hi0,hz0,hz1,hz2⟩:=info_parts u8Info_;obtain⟨pad,hpad⟩:∃k,x.sz - blen=k:=⟨_,rfl⟩;have e1:IntKind.i64.wrap ((x.sz:Int) - (blen:Int))=((pad:Nat):Int):=by rw[IntWalk.i64_in _ ⟨by omega,by omega⟩];omega
      have hbp:blen+pad=x.sz:=by omega
      obtain⟨v2,w5,hr5,ho5,hg5, -⟩:=run_append_zeros_own (P:=prog) wr.drew w.heap.size 49 3 49 5 i0 (.int .u8 0) .i64 .i64 underlying49 underlying3 hi0 hz0 hz1 (by rw[hz2];omega) rfl rfl gr blen cr (bv nd.body) (own_grew Hr.out.1 ((Chg.refl _ _).drew)) pad (by omega) (by have:=HJ.out.gr.size;exact this);rw[hbp] at ho5;obtain⟨A2,c2,rfl, -⟩:=own_shape ho5
      have hgr2:w.heap.size≤gr:=(Hr.out.1.lt gr rfl).1;have hnl:(ndL nd x.sz).length=x.sz:=ndL_len H.out.2.1 hszb.2
      have ho5':w5.ownsRow w.heap.size 5 1 (.slice A2 x.sz c2) x.sz (bv (ndL nd x.sz)):=by
       have e:bv (ndL nd x.sz)=bv nd.body++List.replicate pad (.int .u8 0):=by
        unfold ndL;rw[Hr.out.2,hpad,bv_append];congr 1
        simp[bv]
       rw[e];exact ho5
      have hc5:Chg (fun j=>j=gr) wr w5:=((Chg.refl (fun j=>j=gr) wr).drew).grown hg5 fun k hk _=>by injection hk with hk;exact hk.symm
      have hS5:w5.cell? ⟨t,0,none⟩=some (.pointer (some ⟨p,0,none⟩))∧w5.cell? ⟨b,0,none⟩=some (.int .i64 q0):=by
       have hb0:=(yP4 HN.out).1 b;have hbl:=h1.lt;have htl:=HB.out.2;exact⟨(HJ.out.bt.blk.chg hc5 (by omega)).cell 0,((h1.grew HJ.out.gr).chg hc5 (by omega)).cell 0⟩
      have hbt5:=HJ.out.bt.chg hc5 (fun j hj e=>by have:=HB.out.1 j hj;omega) (by omega) (by have:=HB.out.2;omega)
      have hA2:A2≠none:=by
       obtain⟨g2,e, -⟩:=own_block ho5' (by omega);rw[e];simp
      have hwr:=gp_write_any p F x w5 q0 (ndL nd x.sz) A2 c2 c hbt5.gp H.out.2.2.1 H.out.2.2.2.1 (yP4 H.out) hnl (ndL_byte nd x.sz) hA2 (by rw[hnl];exact Sl.of_own ho5') (fun a ha e=>by have:=(own_rng ho5' a ha).1;have:=HB.out.1 _ e;omega);rw[hnl] at hwr;have HWr:=yH (yA3 hwr hbt5 (Chg.trans HJ.out.gr hc5 fun i hi e=>by omega:Grew w w5))
      clear hwr hbt5 ho5 ho5' hg5 hc5 hA2 hnl hpad hbp hi0 hz0 hz1 hz2 hgr2 hgr;go_wp2_with fail
      refine wp_region_held_drew (S:=fun w'=>w'.cell? ⟨t,0,none⟩=some (.pointer (some ⟨p,0,none⟩))∧w'.cell? ⟨b,0,none⟩=some (.int .i64 q0)) (by kernel_rfl) hS0 (fun hHeld=>?_);refine Todo.out (is:=[0,1,2,3,4,5,6,7,8,9,10,11,12,14,15]) ?_
      repeat
       refine tkH (v:=?_) rfl (Or.inl ⟨by rfl,?_⟩) hHeld ?_;rotate_left
       ·(intro w hSw;(try dsimp only at hSw);go_simp)<;>with_reducible rfl
       (try simp only[Act.put,lZ])
      refine Todo.fin ?_;refine rdH (i:=13) (by kernel_rfl) rfl fun K hK=>?_;go_simp;refine(gp_size p F x _ (HJ.out.bt.gp.grew ((Chg.refl _ _).drew))).mono ?_;rintro e w6 ⟨rfl,rfl⟩;refine hK.out _ _ hS0 (fun _=>?_);clear hK K;(try simp only[Act.put,lZ])
      refine tkH1 (i:=16) (v:=?_) rfl (Or.inl ⟨by rfl,?_⟩) hHeld ?_;rotate_left
      ·(intro w hSw;(try dsimp only at hSw);go_simp)<;>with_reducible rfl
      (try simp only[Act.put,lZ])
      refine rdH (i:=17) (by kernel_rfl) rfl fun K hK=>?_;refine step_append_run2 (by rfl) (.tmp 69) (.tmp 77) 49 3 (by rfl) (by rfl) (by rfl) hr5 ?_;refine hK.out _ _ hS5 (fun _=>?_);clear hK K;(try simp only[Act.put,lZ])
      refine rdH (i:=18) (by kernel_rfl) rfl fun K hK=>?_;go_simp;refine HWr.out.1.mono ?_;clear hr5;rintro e w7 (⟨rfl,hto⟩ | ⟨hns,hnw,rfl,hg7⟩)
      ·have hto':=hto
       obtain⟨F7,k1,k2,k3⟩:=hto';have hS7:w7.cell? ⟨t,0,none⟩=some (.pointer (some ⟨p,0,none⟩))∧w7.cell? ⟨b,0,none⟩=some (.int .i64 q0):=⟨(k2.cell (p:=⟨t,0,none⟩) HWr.out.2.1.blk.lt HWr.out.2.1.nf).trans hS5.1,(k2.cell (p:=⟨b,0,none⟩) (Nat.lt_of_lt_of_le h1.lt HWr.out.2.2.size) hbF0).trans hS5.2⟩;have HTo:=yH (yA (HWr.out.2.1.to hto) HWr.out.2.2)
       clear k1 k2 k3 hto;refine hK.out _ _ hS7 (fun _=>?_);clear hK K;(try simp only[Act.put,lZ])
       refine rdH (i:=19) (by kernel_rfl) rfl fun K hK=>?_;go_simp;refine hK.out _ _ hS7 (fun _=>?_);clear hK K;(try simp only[Act.put,lZ])
       refine wpAnyH_done (by kernel_rfl) ?_ _;clear hHeld hS0 hS5 hS7;go_wp2_with fail
       go_ret
       exact .inl ⟨rfl,To.ahead HTo.out.2 HTo.out.1⟩
      ·have hS7:w7.cell? ⟨t,0,none⟩=some (.pointer (some ⟨p,0,none⟩))∧w7.cell? ⟨b,0,none⟩=some (.int .i64 q0):=⟨(hg7.cell (p:=⟨t,0,none⟩) HWr.out.2.1.blk.lt id).trans hS5.1,(hg7.cell (p:=⟨b,0,none⟩) (Nat.lt_of_lt_of_le h1.lt HWr.out.2.2.size) id).trans hS5.2⟩
       have HTo:=yH (yA3 (Grew.trans HWr.out.2.2 hg7) hns hnw);clear hg7 hns hnw;refine hK.out _ _ hS7 (fun _=>?_);clear hK K;(try simp only[Act.put,lZ])
       refine rdH (i:=19) (by kernel_rfl) rfl fun K hK=>?_;go_simp;refine hK.out _ _ hS7 (fun _=>?_);clear hK K;(try simp only[Act.put,lZ])
       refine wpAnyH_done (by kernel_rfl) ?_ _;clear hHeld hS0 hS5 hS7;go_wp2_with fail
       go_ret
       exact .inr ⟨by have:=HTo.out.2.1;omega,HTo.out.2.2,rfl,HTo.out.1⟩
 ·have t1:decide (nd.kids.length=0)=false:=decide_eq_false hl0
  have hhd:ndHd nd=[2,(nd.keys.length:Int)]:=by unfold ndHd;rw[hmod];simp[hl0]
  have HHd:=yH hhd;clear hhd;go_enter func37,ntmps37
  go_wp2_with (go_at_call 41;(refine(HLf.out w (Chg.refl _ _)).mono ?_);rintro e w1 ⟨rfl,rfl⟩)
  obtain⟨W1,hW1⟩:∃W,w.alloc (.cells #[.int .u8 2,.int .u8 nd.keys.length] 5)=W:=⟨_,rfl⟩;rw[hW1];have hg1:Grew w W1:=hW1▸(Chg.refl _ _).alloc _
  have hr1:W1.ownsRow w.heap.size 5 1 (.slice (some ⟨w.heap.size,0,none⟩) 2 2) 2 (bv (ndSeg nd 0)):=by
   subst hW1;have:=World.ownsRow_lit w #[.int .u8 2,.int .u8 nd.keys.length] 2 (Nat.le_refl _) (by simp[maxLen]) (by simp) (e:=5) (size:=1) (base:=w.heap.size);have e:bv (ndSeg nd 0)=[.int .u8 2,.int .u8 nd.keys.length]:=by simp[ndSeg,HHd.out,bv]
   rw[e];simpa using this
  have hd1:W1.drew.cell? ⟨b,1,none⟩=some (.slice Ak nd.keys.length ck)∧W1.drew.cell? ⟨b,2,none⟩=some (.slice Av nd.keys.length cv):=⟨(hg1.cell (p:=⟨b,1,none⟩) s0 id).trans (d0 1),(hg1.cell (p:=⟨b,2,none⟩) s0 id).trans (d0 2)⟩;have hs1:W1.heap.size=w.heap.size+1:=by subst hW1;simp
  refine wp_region_held_drew (S:=fun w'=>w'.cell? ⟨b,1,none⟩=some (.slice Ak nd.keys.length ck)∧w'.cell? ⟨b,2,none⟩=some (.slice Av nd.keys.length cv)) (by kernel_rfl) hd1 (fun hHeld=>?_);refine Todo.out (is:=[0,1,2,3,4,5,6,7,10]) ?_
  repeat
   refine tkH (v:=?_) rfl (Or.inl ⟨by rfl,?_⟩) hHeld ?_;rotate_left
   ·(intro w hSw;(try dsimp only at hSw);go_simp)<;>with_reducible rfl
   (try simp only[Act.put,lZ])
  refine Todo.fin ?_;refine rdH (i:=8) (by kernel_rfl) rfl fun K hK=>?_;go_simp;obtain⟨W2,hW2⟩:∃W,(W1.alloc (.cells #[.slice Ak nd.keys.length ck,.slice Av nd.keys.length cv] 22)).drew=W:=⟨_,rfl⟩;rw[hW2];have hg2:Grew W1 W2:=hW2▸((Chg.refl _ _).alloc _).drew
  have hd2:W2.cell? ⟨b,1,none⟩=some (.slice Ak nd.keys.length ck)∧W2.cell? ⟨b,2,none⟩=some (.slice Av nd.keys.length cv):=⟨(hg2.cell (p:=⟨b,1,none⟩) (Nat.lt_of_lt_of_le s0 hg1.size) id).trans hd1.1,(hg2.cell (p:=⟨b,2,none⟩) (Nat.lt_of_lt_of_le s0 hg1.size) id).trans hd1.2⟩
  have hbl:Blk W2 W1.heap.size 22 #[.slice Ak nd.keys.length ck,.slice Av nd.keys.length cv]:=hW2▸Blk.new _ _ _;have hg12:=Grew.trans hg1 hg2
  have hJ:SavJ w W2 t p root b q0 F N x nd W1.heap.size Ak ck Av cv (.slice (some ⟨w.heap.size,0,none⟩) 2 2) (ndSeg nd 0):=⟨H.out.1.grew hg12,HN.out.1.grew hg12,hg12,by simpa [ndSeg,ndHd] using own_grew hr1 hg2,hbl,(yP4 HN.out).2.1.grew hg12,(yP6 HN.out).1.grew hg12,⟨fun a ha=>(yP4 HN.out).1 _ (HN.out.2.1 a ha),fun a ha=>(yP4 HN.out).1 _ (HN.out.2.2.1 a ha),by omega⟩⟩
  have HJ:=yH hJ;refine hK.out _ _ hd2 (fun _=>?_);clear hK K;(try simp only[Act.put,lZ])
  refine tkH1 (i:=9) (v:=?_) rfl (Or.inl ⟨by rfl,?_⟩) hd2 ?_;rotate_left
  ·(intro w hSw;(try dsimp only at hSw);go_simp)<;>with_reducible rfl
  (try simp only[Act.put,lZ])
  refine wpAnyH_done (by kernel_rfl) ?_ _;clear hHeld hd1 hd2 hW2 hW1 hbl hJ hr1 hg1 hg2 hg12 d0 f0 s0;obtain⟨lit,hlit⟩:∃l,w.heap.size+1=l:=⟨_,rfl⟩;rw[hs1,hlit] at HJ;rw[hlit];have hbF:∀j,F j→j< w.heap.size:=H.out.1.gp.lt;have hbt:=H.out.1.blk.lt;have HB:=yH (yA hbF hbt);clear hlit hs1 hbF hbt;go_wp2_with fail
  go_loopg [6,33] 2 (fun q v i wr=>∃ (j:Nat),q=2 - j∧j≤2∧i= .int .i64 j∧SavJ w wr t p root b q0 F N x nd lit Ak ck Av cv v (ndSeg nd j))
  case atStart=>exact⟨0,rfl,by omega,rfl,HJ.out⟩
  case round=>
   clear HJ;obtain⟨j,rfl,hj,rfl,hJ⟩:=hrel;have HJ:=yH hJ;clear hJ;by_cases hlt:j< 2
   ·obtain⟨Al,cl,lst,q1,q2,q3,q4⟩:=HJ.out.sel HVl.out (yP4 HN.out).2.1 (yP6 HN.out).1 hlt
    have HL:=yH (yA3 q2 q3 q4);clear q2 q3 q4;have t2:decide ((j:Int)< 2)=true:=decide_eq_true (by omega);go_wp2_with fail
    have Hlt:=yH (yA hlt hj);clear q1 hlt hj t2;go_loopg [6,39] nd.keys.length (fun q v i wr=>∃ (k:Nat),q=nd.keys.length - k∧k≤nd.keys.length∧i= .int .i64 k∧SavJ w wr t p root b q0 F N x nd lit Ak ck Av cv v (ndSeg nd j++enc8 (lst.take k)))
    case atStart=>exact⟨0,rfl,Nat.zero_le _,rfl,by simpa [enc8] using HJ.out⟩
    case round=>
     clear HJ;obtain⟨k,rfl,hk,rfl,hJ⟩:=hrel;have HJ:=yH hJ;have hbw:w.heap.size≤wr.heap.size:=hJ.gr.size;clear hJ;by_cases hlt2:k< nd.keys.length
     ·obtain⟨a,ha⟩:∃a,lst[k]? =some a:=⟨_,List.getElem?_eq_getElem (by rw[HL.out.2.2];exact hlt2)⟩
      obtain⟨gL,oL,rfl, -,hcL⟩:=(HL.out.1 wr HJ.out.gr).2 (by omega);have hca:wr.cell? ⟨gL,oL+k,none⟩=some (.int .i64 a):=hcL k _ (by simp[iv,ha])
      have hxl:(ndSeg nd j++enc8 (lst.take k)).length≤10000:=by
       have h1:=ndSeg_len nd j;have h2:=HVl.out;rw[List.length_append,enc8_len,List.length_take];omega
      have Ha:=yH (yA ha hxl);clear ha hcL hxl;go_wp2_with (go_at_call 83;(refine(bput_any w.heap.size _ (ndSeg nd j++enc8 (lst.take k)).length (bv (ndSeg nd j++enc8 (lst.take k))) a 8 wr hbw HJ.out.row (by have:=Ha.out.2;omega) (by omega)).mono ?_);rintro e w3 ⟨v1,rfl,ho3,ha3⟩;have HO3:=yH (HJ.out.put ha3 ho3 HB.out.1 (yP4 HN.out).1 HB.out.2 hw0);clear ho3 ha3)
      go_roundg (nd.keys.length - (k+1))
      case measure=>omega
      case rel=>exact⟨k+1,rfl,by omega,by simp,by rw[enc8_snoc _ _ _ Ha.out.1,←List.append_assoc];exact HO3.out⟩
     ·obtain rfl:k=nd.keys.length:=by omega
      have HJ2:=yH (show SavJ w wr t p root b q0 F N x nd lit Ak ck Av cv u6 (ndSeg nd (j+1)) from by
       have h1:=HJ.out;rw[←HL.out.2.2,List.take_length,←HL.out.2.1] at h1;exact h1)
      clear HJ;go_wp2_with fail
      go_roundg (2 - (j+1))
      case measure=>(have:=Hlt.out.1;omega)
      case rel=>exact⟨j+1,rfl,by have:=Hlt.out.1;omega,by have:=Hlt.out.1;rw[IntWalk.wrap64_in _ ⟨by omega,by omega⟩];simp,HJ2.out⟩
   ·obtain rfl:j=2:=by omega
    clear hlt hj;obtain⟨d0,f0,s0⟩:=(h1.grew HJ.out.gr).facts;go_wp2_with fail
    go_loopg [6,53] nd.kids.length (fun q v i wr=>∃ (k:Nat),q=nd.kids.length - k∧k≤nd.kids.length∧i= .int .i64 k∧SavJ w wr t p root b q0 F N x nd lit Ak ck Av cv v (ndSeg nd 2++enc2 (nd.kids.take k)))
    case atStart=>exact⟨0,rfl,Nat.zero_le _,rfl,by simpa [enc2] using HJ.out⟩
    case round=>
     clear HJ d0 f0 s0;obtain⟨k,rfl,hk,rfl,hJ⟩:=hrel;have HJ:=yH hJ;have hbw:w.heap.size≤wr.heap.size:=hJ.gr.size;clear hJ
     have hxl:(ndSeg nd 2++enc2 (nd.kids.take k)).length≤10000:=by
      have h1:=ndSeg_len nd 2;have h2:=HVl.out;rw[List.length_append,enc2_len,List.length_take];omega
     have Hxl:=yH hxl;clear hxl;by_cases hlt2:k< nd.kids.length
     ·obtain⟨a,ha⟩:∃a,nd.kids[k]? =some a:=⟨_,List.getElem?_eq_getElem hlt2⟩
      obtain⟨gL,oL,rfl, -,hcL⟩:=((yP6 HN.out).2.grew HJ.out.gr).2 (by omega);have hca:wr.cell? ⟨gL,oL+k,none⟩=some (.int .i64 a):=hcL k _ (by simp[nv,ha]);have Ha:=yH ha;clear ha hcL
      go_wp2_with (go_at_call 83;(refine(bput_any w.heap.size _ (ndSeg nd 2++enc2 (nd.kids.take k)).length (bv (ndSeg nd 2++enc2 (nd.kids.take k))) a 2 wr hbw HJ.out.row (by have:=Hxl.out;omega) (by omega)).mono ?_);rintro e w3 ⟨v1,rfl,ho3,ha3⟩;have HO3:=yH (HJ.out.put ha3 ho3 HB.out.1 (yP4 HN.out).1 HB.out.2 hw0);clear ho3 ha3)
      go_roundg (nd.kids.length - (k+1))
      case measure=>(first | done | omega)
      case rel=>exact⟨k+1,rfl,by omega,by simp,by rw[enc2_snoc _ _ _ Ha.out,←List.append_assoc];exact HO3.out⟩
     ·obtain rfl:k=nd.kids.length:=by omega
      clear hk hlt2;have hbody:ndSeg nd 2++enc2 (nd.kids.take nd.kids.length)=nd.body:=by rw[List.take_length];rfl
      rw[hbody] at HJ Hxl;clear hbody;have hfl:=H.out.2.1.len hz.2.2.1;obtain⟨blen,hblen⟩:∃n,nd.body.length=n:=⟨_,rfl⟩;have hrow:=HJ.out.row;rw[hblen] at hfl hrow;have hbpos:0< blen:=by rw[←hblen,Nd.body_len];omega
      obtain⟨Ar,cr,rfl, -⟩:=own_shape hrow;obtain⟨gr,rfl,hgr⟩:=own_block hrow hbpos;obtain⟨d0,f0,s0⟩:=(h1.grew HJ.out.gr).facts;have hS0:wr.drew.cell? ⟨t,0,none⟩=some (.pointer (some ⟨p,0,none⟩))∧wr.drew.cell? ⟨b,0,none⟩=some (.int .i64 q0):=⟨HJ.out.bt.blk.drew.cell 0,d0 0⟩;have Hr:=yH (yA hrow hblen)
      have hszb:x.sz≤4096∧64≤x.sz:=⟨hz.2.2.2.1,hz.2.2.1⟩;clear hrow hblen d0 f0 s0;obtain⟨i0,hi0,hz0,hz1,hz2⟩:=info_parts u8Info_;obtain⟨pad,hpad⟩:∃k,x.sz - blen=k:=⟨_,rfl⟩;have e1:IntKind.i64.wrap ((x.sz:Int) - (blen:Int))=((pad:Nat):Int):=by rw[IntWalk.i64_in _ ⟨by omega,by omega⟩];omega
      have hbp:blen+pad=x.sz:=by omega
      obtain⟨v2,w5,hr5,ho5,hg5, -⟩:=run_append_zeros_own (P:=prog) wr.drew w.heap.size 49 3 49 5 i0 (.int .u8 0) .i64 .i64 underlying49 underlying3 hi0 hz0 hz1 (by rw[hz2];omega) rfl rfl gr blen cr (bv nd.body) (own_grew Hr.out.1 ((Chg.refl _ _).drew)) pad (by omega) (by have:=HJ.out.gr.size;exact this);rw[hbp] at ho5;obtain⟨A2,c2,rfl, -⟩:=own_shape ho5
      have hgr2:w.heap.size≤gr:=(Hr.out.1.lt gr rfl).1;have hnl:(ndL nd x.sz).length=x.sz:=ndL_len H.out.2.1 hszb.2
      have ho5':w5.ownsRow w.heap.size 5 1 (.slice A2 x.sz c2) x.sz (bv (ndL nd x.sz)):=by
       have e:bv (ndL nd x.sz)=bv nd.body++List.replicate pad (.int .u8 0):=by
        unfold ndL;rw[Hr.out.2,hpad,bv_append];congr 1
        simp[bv]
       rw[e];exact ho5
      have hc5:Chg (fun j=>j=gr) wr w5:=((Chg.refl (fun j=>j=gr) wr).drew).grown hg5 fun k hk _=>by injection hk with hk;exact hk.symm
      have hS5:w5.cell? ⟨t,0,none⟩=some (.pointer (some ⟨p,0,none⟩))∧w5.cell? ⟨b,0,none⟩=some (.int .i64 q0):=by
       have hb0:=(yP4 HN.out).1 b;have hbl:=h1.lt;have htl:=HB.out.2;exact⟨(HJ.out.bt.blk.chg hc5 (by omega)).cell 0,((h1.grew HJ.out.gr).chg hc5 (by omega)).cell 0⟩
      have hbt5:=HJ.out.bt.chg hc5 (fun j hj e=>by have:=HB.out.1 j hj;omega) (by omega) (by have:=HB.out.2;omega)
      have hA2:A2≠none:=by
       obtain⟨g2,e, -⟩:=own_block ho5' (by omega);rw[e];simp
      have hwr:=gp_write_any p F x w5 q0 (ndL nd x.sz) A2 c2 c hbt5.gp H.out.2.2.1 H.out.2.2.2.1 (yP4 H.out) hnl (ndL_byte nd x.sz) hA2 (by rw[hnl];exact Sl.of_own ho5') (fun a ha e=>by have:=(own_rng ho5' a ha).1;have:=HB.out.1 _ e;omega);rw[hnl] at hwr;have HWr:=yH (yA3 hwr hbt5 (Chg.trans HJ.out.gr hc5 fun i hi e=>by omega:Grew w w5))
      clear hwr hbt5 ho5 ho5' hg5 hc5 hA2 hnl hpad hbp hi0 hz0 hz1 hz2 hgr2 hgr;go_wp2_with fail
      refine wp_region_held_drew (S:=fun w'=>w'.cell? ⟨t,0,none⟩=some (.pointer (some ⟨p,0,none⟩))∧w'.cell? ⟨b,0,none⟩=some (.int .i64 q0)) (by kernel_rfl) hS0 (fun hHeld=>?_);refine Todo.out (is:=[0,1,2,3,4,5,6,7,8,9,10,11,12,14,15]) ?_
      repeat
       refine tkH (v:=?_) rfl (Or.inl ⟨by rfl,?_⟩) hHeld ?_;rotate_left
       ·(intro w hSw;(try dsimp only at hSw);go_simp)<;>with_reducible rfl
       (try simp only[Act.put,lZ])
      refine Todo.fin ?_;refine rdH (i:=13) (by kernel_rfl) rfl fun K hK=>?_;go_simp;refine(gp_size p F x _ (HJ.out.bt.gp.grew ((Chg.refl _ _).drew))).mono ?_;rintro e w6 ⟨rfl,rfl⟩;refine hK.out _ _ hS0 (fun _=>?_);clear hK K;(try simp only[Act.put,lZ])
      refine tkH1 (i:=16) (v:=?_) rfl (Or.inl ⟨by rfl,?_⟩) hHeld ?_;rotate_left
      ·(intro w hSw;(try dsimp only at hSw);go_simp)<;>with_reducible rfl
      (try simp only[Act.put,lZ])
      refine rdH (i:=17) (by kernel_rfl) rfl fun K hK=>?_;refine step_append_run2 (by rfl) (.tmp 69) (.tmp 77) 49 3 (by rfl) (by rfl) (by rfl) hr5 ?_;refine hK.out _ _ hS5 (fun _=>?_);clear hK K;(try simp only[Act.put,lZ])
      refine rdH (i:=18) (by kernel_rfl) rfl fun K hK=>?_;go_simp;refine HWr.out.1.mono ?_;clear hr5;rintro e w7 (⟨rfl,hto⟩ | ⟨hns,hnw,rfl,hg7⟩)
      ·have hto':=hto
       obtain⟨F7,k1,k2,k3⟩:=hto';have hS7:w7.cell? ⟨t,0,none⟩=some (.pointer (some ⟨p,0,none⟩))∧w7.cell? ⟨b,0,none⟩=some (.int .i64 q0):=⟨(k2.cell (p:=⟨t,0,none⟩) HWr.out.2.1.blk.lt HWr.out.2.1.nf).trans hS5.1,(k2.cell (p:=⟨b,0,none⟩) (Nat.lt_of_lt_of_le h1.lt HWr.out.2.2.size) hbF0).trans hS5.2⟩;have HTo:=yH (yA (HWr.out.2.1.to hto) HWr.out.2.2)
       clear k1 k2 k3 hto;refine hK.out _ _ hS7 (fun _=>?_);clear hK K;(try simp only[Act.put,lZ])
       refine rdH (i:=19) (by kernel_rfl) rfl fun K hK=>?_;go_simp;refine hK.out _ _ hS7 (fun _=>?_);clear hK K;(try simp only[Act.put,lZ])
       refine wpAnyH_done (by kernel_rfl) ?_ _;clear hHeld hS0 hS5 hS7;go_wp2_with fail
       go_ret
       exact .inl ⟨rfl,To.ahead HTo.out.2 HTo.out.1⟩
      ·have hS7:w7.cell? ⟨t,0,none⟩=some (.pointer (some ⟨p,0,none⟩))∧w7.cell? ⟨b,0,none⟩=some (.int .i64 q0):=⟨(hg7.cell (p:=⟨t,0,none⟩) HWr.out.2.1.blk.lt id).trans hS5.1,(hg7.cell (p:=⟨b,0,none⟩) (Nat.lt_of_lt_of_le h1.lt HWr.out.2.2.size) id).trans hS5.2⟩
       have HTo:=yH (yA3 (Grew.trans HWr.out.2.2 hg7) hns hnw);clear hg7 hns hnw;refine hK.out _ _ hS7 (fun _=>?_);clear hK K;(try simp only[Act.put,lZ])
       refine rdH (i:=19) (by kernel_rfl) rfl fun K hK=>?_;go_simp;refine hK.out _ _ hS7 (fun _=>?_);clear hK K;(try simp only[Act.put,lZ])
       refine wpAnyH_done (by kernel_rfl) ?_ _;clear hHeld hS0 hS5 hS7;go_wp2_with fail
       go_ret
       exact .inr ⟨by have:=HTo.out.2.1;omega,HTo.out.2.2,rfl,HTo.out.1⟩
end
section
open Go.Shelf
def searchInt_ren:Go.Shelf.Ren:=⟨fun | 25=>87 | 31=>117 | 32=>118 | 37=>150 | n=>n,fun | 22=>22 | 3=>3 | 4=>4 | 40=>139 | 0=>0 | n=>n,fun | n=>n⟩
theorem searchInt:Go.Proofs.Lays2.n25 prog searchInt_ren:= {
 mixed:=by kernel_rfl
 f25:=func87.trans (congrArg some (by kernel_rfl))
 f31:=func117.trans (congrArg some (by kernel_rfl))
 f32:=func118.trans (congrArg some (by kernel_rfl))
 f37:=func150.trans (congrArg some (by kernel_rfl))
 t0:=underlying0
 a0:=Tryz.isAgg0
 z0:=Tryz.sizeOf0
 v0:=Tryz.zeroValue0
 t3:=underlying3
 a3:=Tryz.isAgg3
 z3:=Tryz.sizeOf3
 v3:=Tryz.zeroValue3
 t4:=underlying4
 a4:=Tryz.isAgg4
 z4:=Tryz.sizeOf4
 v4:=Tryz.zeroValue4
 t22:=underlying22
 a22:=Tryz.isAgg22
 z22:=Tryz.sizeOf22
 v22:=Tryz.zeroValue22
 t40:=underlying139
 a40:=Tryz.isAgg139
 z40:=Tryz.sizeOf139
 v40:=Tryz.zeroValue139 }
def insertInt_ren:Go.Shelf.Ren:=⟨fun | 21=>44 | 27=>89 | 28=>90 | 35=>119 | 39=>151 | n=>n,fun | 22=>22 | 3=>3 | 4=>4 | 0=>0 | n=>n,fun | n=>n⟩
theorem insertInt:Go.Proofs.Lays2.n21 prog insertInt_ren:= {
 mixed:=by kernel_rfl
 f21:=func44.trans (congrArg some (by kernel_rfl))
 f27:=func89.trans (congrArg some (by kernel_rfl))
 f28:=func90.trans (congrArg some (by kernel_rfl))
 f35:=func119.trans (congrArg some (by kernel_rfl))
 f39:=func151.trans (congrArg some (by kernel_rfl))
 t0:=underlying0
 a0:=Tryz.isAgg0
 z0:=Tryz.sizeOf0
 v0:=Tryz.zeroValue0
 t3:=underlying3
 a3:=Tryz.isAgg3
 z3:=Tryz.sizeOf3
 v3:=Tryz.zeroValue3
 t4:=underlying4
 a4:=Tryz.isAgg4
 z4:=Tryz.sizeOf4
 v4:=Tryz.zeroValue4
 t22:=underlying22
 a22:=Tryz.isAgg22
 z22:=Tryz.sizeOf22
 v22:=Tryz.zeroValue22
 i3:=by kernel_rfl }
def deleteInt_ren:Go.Shelf.Ren:=⟨fun | 23=>69 | n=>n,fun | 22=>22 | 3=>3 | 4=>4 | 0=>0 | n=>n,fun | n=>n⟩
theorem deleteInt:Go.Proofs.Lays2.n23 prog deleteInt_ren:= {
 mixed:=by kernel_rfl
 f23:=func69.trans (congrArg some (by kernel_rfl))
 t0:=underlying0
 a0:=Tryz.isAgg0
 z0:=Tryz.sizeOf0
 v0:=Tryz.zeroValue0
 t3:=underlying3
 a3:=Tryz.isAgg3
 z3:=Tryz.sizeOf3
 v3:=Tryz.zeroValue3
 t4:=underlying4
 a4:=Tryz.isAgg4
 z4:=Tryz.sizeOf4
 v4:=Tryz.zeroValue4
 t22:=underlying22
 a22:=Tryz.isAgg22
 z22:=Tryz.sizeOf22
 v22:=Tryz.zeroValue22
 i3:=by kernel_rfl }
end
section
open Go.RowKit Go.Maps
def Rp.nd (x:Rp) (q:Nat):Option Nd:=match x.now[q]? with
 | some c=>if c.used=true then decN (c.bytes x.sz) x.sz else none
 | none=>none
theorem Rp.nd_some {x:Rp} {q:Nat} {nd:Nd} (h:x.nd q=some nd):∃c,x.now[q]? =some c∧c.used=true∧decN (c.bytes x.sz) x.sz=some nd:=by
 unfold Rp.nd at h
 cases hc:x.now[q]? with
 | none=>rw[hc] at h;cases h
 | some c=>
  rw[hc] at h;simp only at h;split at h
  ·rename_i hu;exact⟨c,rfl,hu,h⟩
  ·cases h
theorem Rp.nd_is {x:Rp} {q:Nat} {c:Pk} {o:Option Nd} (h1:x.now[q]? =some c) (h2:c.used=true) (h3:decN (c.bytes x.sz) x.sz=o):x.nd q=o:=by
 unfold Rp.nd;rw[h1];simp only;rw[if_pos h2,h3]
theorem Rp.nd_other {x:Rp} {q i:Nat} {c:Pk} (h:i≠q):(x.put q c).nd i=x.nd i:=by
 unfold Rp.nd Rp.put;simp only;rw[List.getElem?_set_ne (Ne.symm h)]
theorem Rp.nd_new {x:Rp} {q:Nat} {nd:Nd} (h:nd.Fit x.sz) (hq:q< x.now.length) (hz:x.sz≤4096):(x.put q (.new (ndL nd x.sz))).nd q=some nd:=by
 refine Rp.nd_is (c:= .new (ndL nd x.sz)) ?_ rfl (decN_ndL h hz);rw[Rp.put_at hq,if_pos rfl]
theorem GP.byt {w:World} {p:Nat} {F:Nat→Prop} {x:Rp} {i:Nat} {c:Pk} (h:GP w p F x) (hi:x.now[i]? =some c) (hu:c.used=true):(∀q∈c.bytes x.sz,0≤q∧q≤255)∧(c.bytes x.sz).length=x.sz:=by
 obtain⟨X,h1,h2,rfl⟩:=h;obtain⟨s,hs,h0,rfl⟩:=Gp.entry_used hi hu;have hv:=h2.inv;by_cases e1:s=1
 ·subst e1
  exact⟨fun q hq=>by simp[pk,Pk.bytes] at hq;omega,by simp[pk,Pk.bytes]⟩
 ·have hsn:s< X.D.n:=by
   rcases hv.cur i s hs (by omega) with e | e
   ·exact(hv.frr s e).2.1
   ·exact hv.rO i s e
  have hb:(pk X.D X.fr s).bytes X.view.sz=X.D.rd (s:Int):=by
   unfold pk;rw[if_neg h0,if_neg e1];split<;>rfl
  rw[hb];refine⟨hv.byt s hsn,?_⟩;obtain⟨L,d,b,A,ca,vp,vt,vo,hG, -⟩:=h1;exact hG.dsk.rd_len (by omega) (by omega)
theorem GP.fit {w:World} {p:Nat} {F:Nat→Prop} {x:Rp} {q:Nat} {nd:Nd} (h:GP w p F x) (hn:x.nd q=some nd):nd.Fit x.sz∧q< x.now.length:=by
 obtain⟨c,h1,h2,h3⟩:=Rp.nd_some hn;have hb:=h.byt h1 h2;exact⟨decN_fit h3 hb.1 hb.2 h.szs.2.2.1,(List.getElem?_eq_some_iff.1 h1).1⟩
theorem bplace_any (b q:Nat) (nd:Nd) (N:Nat→Prop) (k:Int) (w:World) (h:NdAt w N b q nd) (hs:nd.keys.Pairwise (· < ·)) (hl:nd.keys.length≤4096) :
  Calls prog 42 #[.pointer (some ⟨b,0,none⟩),.int .i64 k] w fun e w'=>e= .returned (.tuple #[.int .i64 (atI nd.keys k:Nat),.bool (nd.keys.contains k)])∧Grew w w':=by
 obtain⟨Ak,ck,Av,cv,Ac,cc,h1,h2, -⟩:=h;obtain⟨c0,f0,s0⟩:=h1.facts
 have hbs:Calls prog 87 #[.slice Ak nd.keys.length ck,.int .i64 k] w fun e w'=>e= .returned (.tuple #[.int .i64 (atI nd.keys k:Nat),.bool (nd.keys.contains k)])∧Grew w w':=by
  by_cases h0:nd.keys.length=0
  ·have hk:nd.keys=[]:=List.eq_nil_of_length_eq_zero h0
   rw[h0];have:=Any.slices_BinarySearch_int_empty searchInt Ak ck k w;refine Calls.mono this ?_;rintro e w' ⟨rfl,rfl⟩;rw[hk];exact⟨rfl,Chg.refl _ _⟩
  ·obtain⟨g,off,rfl,hg,hx⟩:=h2.2 (by omega)
   have:=Any.slices_BinarySearch_int searchInt g off nd.keys.length ck nd.keys k w (Nat.le_refl _) (by omega) (fun j hj=>hx j _ (by simp[iv,hj])) (by rw[List.take_length];exact hs.imp fun h=>Int.le_of_lt h);refine Calls.mono this ?_;rintro e w' ⟨rfl,n,rfl⟩;rw[List.take_length];exact⟨rfl,(Chg.refl _ _).drewN n⟩
 obtain⟨fb,hfb⟩:∃f,nd.keys.contains k=f:=⟨_,rfl⟩;obtain⟨ii,hii⟩:∃i,atI nd.keys k=i:=⟨_,rfl⟩;rw[hfb,hii] at hbs ⊢;have HB:=yH hbs;clear hbs h1 h2 hfb hii;go_enter func42,ntmps42
 go_wp2_with fail
 refine HB.out.mono ?_;rintro e w1 ⟨rfl,hg⟩;have HG:=yH hg;clear hg;go_wp2_with fail
 go_ret2
 exact⟨rfl,HG.out⟩
structure WayAt (rd:Nat→Option Nd) (h D root:Nat) (k:Int) (L:List KV) (P:List Nat) (d q:Nat) (nd:Nd) (A M B:List KV) (P1 PM P2:List Nat):Prop where
 nd:rd q=some nd
 ctx:Ctx rd h D root d q k A B P1 P2
 tr:Tr rd h d q M PM
 occ:h - 1≤nk rd q∨d=D
 l:L=A++M++B
 p:P=P1++PM++P2
theorem WayAt.start {rd:Nat→Option Nd} {h D root:Nat} {k:Int} {L:List KV} {P:List Nat} (t:Tr rd h D root L P):∃nd,WayAt rd h D root k L P D root nd [] L [] [] P []:=by
 obtain⟨nd,h1, -⟩:=t.node;exact⟨nd,h1,Ctx.root _ _ _ _ _,t,.inr rfl,by simp,by simp⟩
theorem WayAt.down {rd:Nat→Option Nd} {h D root:Nat} {k:Int} {L:List KV} {P:List Nat} {d q:Nat} {nd:Nd} {A M B:List KV} {P1 PM P2:List Nat} (a:WayAt rd h D root k L P (d+1) q nd A M B P1 PM P2) (hs:Srt L) (hk:nd.keys.contains k=false) :
  ∃e nd' A' M' B' P1' PM' P2',nd.kids[atI nd.keys k]? =some e∧WayAt rd h D root k L P d e nd' A' M' B' P1' PM' P2':=by
 have hsM:Srt M:=hs.sub (by rw[a.l];exact(List.sublist_append_right A M).trans (List.sublist_append_left _ _));obtain⟨e,A',M',B',P1',PM',P2',h1,h2,h3,h4,h5⟩:=a.ctx.down a.tr a.occ a.nd hsM hk;obtain⟨nd',h6, -⟩:=h3.1.node;exact⟨e,nd',A',M',B',P1',PM',P2',h1,h6,h2,h3.1,.inl h3.2,by rw[a.l,h4],by rw[a.p,h5]⟩
theorem WayAt.srt {rd:Nat→Option Nd} {h D root:Nat} {k:Int} {L:List KV} {P:List Nat} {d q:Nat} {nd:Nd} {A M B:List KV} {P1 PM P2:List Nat} (a:WayAt rd h D root k L P d q nd A M B P1 PM P2) (hs:Srt L):Srt M:=hs.sub (by rw[a.l];exact(List.sublist_append_right A M).trans (List.sublist_append_left _ _))
def WyOut (w w':World) (t p root:Nat) (F:Nat→Prop) (x:Rp) (h D:Nat) (k:Int) (L:List KV) (P:List Nat) (e:Ending):Prop:=
 ∃b N d q nd A M B P1 PM P2,e= .returned (.tuple #[.pointer (some ⟨b,0,none⟩),.int .i64 (atI nd.keys k:Nat),.bool (nd.keys.contains k),.int .i64 0])∧NdOwn w' N b q nd∧(∀j,N j→w.heap.size≤j)∧BT w' t p root F x∧Chg F w w'∧
  WayAt x.nd h D root k L P d q nd A M B P1 PM P2∧(nd.keys.contains k=true∨d=0)
theorem bway_any (t p root h D:Nat) (k:Int) (L:List KV) (P:List Nat) (F:Nat→Prop) (x:Rp) (w:World) (hb:BT w t p root F x) (ht:Tr x.nd h D root L P) (hs:Srt L) (hD:D< 40) :
  Calls prog 36 #[.pointer (some ⟨t,0,none⟩),.int .i64 k] w fun e w'=>WyOut w w' t p root F x h D k L P e:=by
 obtain⟨c0,f0,s0⟩:=hb.blk.facts;have H:=yH (yA3 hb ht hs);clear hb ht hs;go_enter func36,ntmps36
 go_wp2
 clear c0 f0 s0;go_loopg [8,17] (D+1) (fun q pg i wr=>∃ (d c:Nat) (nd:Nd) (A M B:List KV) (P1 PM P2:List Nat),q=d+1∧d≤D∧pg= .int .i64 c∧i= .int .i64 ((D - d:Nat):Int)∧BT wr t p root F x∧Chg F w wr∧WayAt x.nd h D root k L P d c nd A M B P1 PM P2)
 case atStart=>
  obtain⟨nd,hn⟩:=WayAt.start (k:=k) H.out.2.1;exact⟨D,root,nd,_,_,_,_,_,_,rfl,Nat.le_refl _,rfl,by simp,H.out.1,Chg.refl _ _,hn⟩
 case round=>
  obtain⟨d,c,nd,A,M,B,P1,PM,P2,rfl,hd,rfl,rfl,hbt,hc,hw⟩:=hrel;obtain⟨j,hj⟩:∃j,D - d=j:=⟨_,rfl⟩;have hjl:(j:Int)< 40:=by omega
  rw[hj];have hft:=hbt.gp.fit hw.nd;obtain⟨cp,hp1,hp2,hp3⟩:=Rp.nd_some hw.nd;have hld:=bload_any t p root c F x cp nd wr hbt hp1 hp2 hp3;have hkl:nd.keys.length≤300:=by have h1:=hft.1.most;have h2:=hbt.gp.szs;unfold mostN at h1;omega
  have HW:=yH (yA5 hld hc hw hj hd);clear hbt hc hw hft hp1 hp2 hp3 hld hj hd;go_wp2_with fail
  refine HW.out.1.mono ?_;rintro e w3 ⟨b,N,rfl,hnd,hNn,hbt3,hc3⟩;have hks:=HW.out.2.2.1.tr.keys HW.out.2.2.1.nd (HW.out.2.2.1.srt H.out.2.2);have hpl:=bplace_any b c nd N k w3 hnd.at hks (by omega);have H3:=yH (yA5 hpl hnd hNn hbt3 hc3);clear hpl hnd hNn hbt3 hc3 hks;go_wp2_with fail
  refine H3.out.1.mono ?_;rintro e w4 ⟨rfl,hg4⟩;have hlf:=leaf_any b c nd N w4 (H3.out.2.1.at.grew hg4);obtain⟨fb,hfb⟩:∃f,nd.keys.contains k=f:=⟨_,rfl⟩;obtain⟨ii,hii⟩:∃i,atI nd.keys k=i:=⟨_,rfl⟩;rw[hfb,hii];have H4:=yH (yA4 hlf hg4 hfb hii);clear hlf hg4 hfb hii
  have hdz:nd.kids.length=0↔d=0:=by
   obtain⟨nd',g1, -, -,g2⟩:=HW.out.2.2.1.tr.node;rw[HW.out.2.2.1.nd] at g1
   cases g1
   exact g2
  have HZ:=yH hdz;clear hdz
  cases fb with
  | true=>
   go_wp2_with fail
   refine bodyPost_ret (v:= .tuple #[.pointer (some ⟨b,0,none⟩),.int .i64 (ii:Nat),.bool true,.int .i64 0]) (by simp[results,results36,go_sem]) rfl ?_;have hsz:=HW.out.2.1.size
   refine⟨b,N,d,c,nd,A,M,B,P1,PM,P2,by rw[H4.out.2.2.1,H4.out.2.2.2],H3.out.2.1.grew H4.out.2.1,fun j hj=>by have:=H3.out.2.2.1 j hj;omega,H3.out.2.2.2.1.grew H4.out.2.1,(Chg.trans HW.out.2.1 (yP4 H3.out) fun _ _ e=>e).grew H4.out.2.1,HW.out.2.2.1,.inl H4.out.2.2.1⟩
  | false=>
   by_cases h0:nd.kids.length=0
   ·have t1:decide (nd.kids.length=0)=true:=decide_eq_true h0
    have Hd0:=yH (HZ.out.1 h0);go_wp2_with (go_at_call 41;(refine H4.out.1.mono ?_);rintro e w5 ⟨rfl,rfl⟩)
    refine bodyPost_ret (v:= .tuple #[.pointer (some ⟨b,0,none⟩),.int .i64 (ii:Nat),.bool false,.int .i64 0]) (by simp[results,results36,go_sem]) rfl ?_;have hsz:=HW.out.2.1.size
    refine⟨b,N,d,c,nd,A,M,B,P1,PM,P2,by rw[H4.out.2.2.1,H4.out.2.2.2],H3.out.2.1.grew H4.out.2.1,fun j hj=>by have:=H3.out.2.2.1 j hj;omega,H3.out.2.2.2.1.grew H4.out.2.1,(Chg.trans HW.out.2.1 (yP4 H3.out) fun _ _ e=>e).grew H4.out.2.1,HW.out.2.2.1,.inr Hd0.out⟩
   ·have t1:decide (nd.kids.length=0)=false:=decide_eq_false h0
    obtain⟨d',rfl⟩:∃d',d=d'+1:=⟨d - 1,by have hd0:d≠0:=(fun e=>h0 (HZ.out.2 e));omega⟩;obtain⟨c2,nd2,A2,M2,B2,P3,PM2,P4,hc2,hw2⟩:=HW.out.2.2.1.down H.out.2.2 H4.out.2.2.1;rw[H4.out.2.2.2] at hc2;obtain⟨Ak,ck,Av,cv,Ac,cc,b1, -, -,b4, -⟩:=H3.out.2.1.at.grew H4.out.2.1;obtain⟨c0,f0,s0⟩:=b1.facts;obtain⟨g,off,rfl,hgl,hx⟩:=b4.2 (by omega)
    have hce:w4.cell? ⟨g,off+ii,none⟩=some (.int .i64 c2):=hx ii _ (by simp[nv,hc2]);have hil:ii< nd.kids.length:=(List.getElem?_eq_some_iff.1 hc2).1;have H5:=yH hw2;clear b1 b4 hx hw2 hc2 hgl;go_wp2_with (go_at_call 41;(refine H4.out.1.mono ?_);rintro e w5 ⟨rfl,rfl⟩)
    clear c0 f0 s0 hce;have hd4:=(yP4 HW.out);have hj4:=HW.out.2.2.2.1;go_roundg (d'+1)
    case measure=>omega
    case rel=>exact⟨d',c2,nd2,A2,M2,B2,P3,PM2,P4,rfl,by omega,rfl,by congr 1;omega,H3.out.2.2.2.1.grew H4.out.2.1,(Chg.trans HW.out.2.1 (yP4 H3.out) fun _ _ e=>e).grew H4.out.2.1,H5.out⟩
end
section
open Go.RowKit Go.Maps
section
variable {rd:Nat→Option Nd} {h D root:Nat} {k:Int} {L:List KV} {P:List Nat} {d q:Nat} {nd:Nd} {A M B:List KV} {P1 PM P2:List Nat}
theorem WayAt.get (a:WayAt rd h D root k L P d q nd A M B P1 PM P2) (hs:Srt L) (hd:P.Nodup) :
  (nd.keys.contains k=true→∃v,nd.vals[atI nd.keys k]? =some v∧getK L k=some v)∧(nd.keys.contains k=false→d=0→getK L k=none):=by
 have hm:=getK_mid (M:=M) a.ctx.lt a.ctx.gt;rw[←a.l] at hm;have hdM:PM.Nodup:=List.Nodup.sublist (by rw[a.p];exact(List.sublist_append_right P1 PM).trans (List.sublist_append_left _ _)) hd;refine⟨fun hc=>?_,fun hc h0=>?_⟩
 ·obtain⟨v,h1,h2, -⟩:=a.tr.here a.nd (a.srt hs) hc hdM
  exact⟨v,h1,by rw[hm,h2]⟩
 ·subst h0
  obtain⟨nd',g1,g2,g3,g4,rfl,g6⟩:=a.tr;rw[a.nd] at g1
  cases g1
  rw[hm];refine getK_none fun x hx e=>?_;have:k∈nd.keys:=by rw[←kvs_keys g3];exact List.mem_map.2 ⟨x,hx,e⟩
  rw[←List.contains_iff_mem,hc] at this
  cases this
end
def gV:Option Int→Int
 | some v=>v
 | none=>0
def gE:Option Int→Int
 | some _=>0
 | none=>14
theorem bget2_any (t p root h D:Nat) (k:Int) (L:List KV) (P:List Nat) (F:Nat→Prop) (x:Rp) (w:World) (hb:BT w t p root F x) (ht:Tr x.nd h D root L P) (hs:Srt L) (hD:D< 40) (hn:P.Nodup) :
  Calls prog 23 #[.pointer (some ⟨t,0,none⟩),.int .i64 k] w fun e w'=>e= .returned (.tuple #[.int .i64 (gV (getK L k)),.int .i64 (gE (getK L k))])∧BT w' t p root F x∧Chg F w w':=by
 have hway:=bway_any t p root h D k L P F x w hb ht hs hD;have H:=yH (yA3 hway hs hn);clear hb ht hs hn hway;go_enter func23,ntmps23
 go_wp2_with fail
 refine H.out.1.mono ?_;rintro e w1 ⟨b,N,d,q,nd,A,M,B,P1,PM,P2,rfl,hnd,hNn,hbt,hc,hw,hor⟩;have hg:=hw.get H.out.2.1 H.out.2.2;obtain⟨fb,hfb⟩:∃f,nd.keys.contains k=f:=⟨_,rfl⟩;obtain⟨ii,hii⟩:∃i,atI nd.keys k=i:=⟨_,rfl⟩;rw[hfb,hii] at hg ⊢;have H1:=yH (yA5 hbt hc hg hor hfb);clear hbt hc hg hor hfb hii hw hNn
 cases fb with
 | false=>
  have hn0:=H1.out.2.2.1.2 rfl (H1.out.2.2.2.1.resolve_left (by rw[(yP4 H1.out)];simp));have HN0:=yH hn0;clear hn0 hnd;go_wp2_with fail
  go_ret2
  exact⟨by rw[HN0.out];rfl,H1.out.1,H1.out.2.1⟩
 | true=>
  obtain⟨v,hv,hg⟩:=H1.out.2.2.1.1 rfl;have HN0:=yH hg;obtain⟨Ak,ck,Av,cv,Ac,cc,b1, -,b3, -⟩:=hnd.at;obtain⟨c0,f0,s0⟩:=b1.facts;have hil:=(List.getElem?_eq_some_iff.1 hv).1;obtain⟨g,off,rfl,hgl,hx⟩:=b3.2 (by omega);have hce:w1.cell? ⟨g,off+ii,none⟩=some (.int .i64 v):=hx ii _ (by simp[iv,hv]);clear b1 b3 hx hv hg hnd hgl;go_wp2_with fail
  go_ret2
  exact⟨by rw[HN0.out];rfl,H1.out.1,H1.out.2.1⟩
end
section
open Go.RowKit Go.Maps Go.Lib
theorem setCells_blk {e:TypeId} {g:Nat}:∀ (vs:List Value) (o:Nat) (w:World) (cur:Array Value),Blk w g e cur→o+vs.length≤cur.size→
  ∃cur',Blk (w.setCells g o vs) g e cur'∧cur'.size=cur.size∧(∀j:Nat,cur'[j]? =if o≤j∧j< o+vs.length then vs[j - o]? else cur[j]?)∧Chg (fun j=>j=g) w (w.setCells g o vs)
 | [],o,w,cur,h,_=>⟨cur,h,rfl,fun j=>by rw[if_neg (fun e=>by have h1:=e.1;have h2:=e.2;simp only[List.length_nil] at h2;omega)],Chg.refl _ _⟩
 | v :: vs,o,w,cur,h,hl=>by
  simp only[List.length_cons] at hl;obtain⟨cur',h1,h2,h3,h4⟩:=setCells_blk vs (o+1) (w.setCell ⟨g,o,none⟩ v) (cur.setIfInBounds o v) (h.put o v) (by simp;omega);refine⟨cur',h1,by simpa using h2,fun j=>?_,Chg.trans ((Chg.refl (fun j=>j=g) w).setCell (p:=⟨g,o,none⟩) (fun _=>rfl) v) h4 fun _ _ e=>e⟩;rw[h3 j];by_cases e1:j=o
  ·subst e1
   rw[if_neg (by omega),if_pos (by simp),Nat.sub_self];simp[show j< cur.size by omega]
  ·by_cases e2:o+1≤j∧j< o+1+vs.length
   ·rw[if_pos e2,if_pos (by simp;omega)]
    obtain⟨m,rfl⟩:∃m,j=o+1+m:=⟨j - (o+1),by omega⟩;rw[show o+1+m - (o+1)=m by omega,show o+1+m - o=m+1 by omega,List.getElem?_cons_succ]
   ·rw[if_neg e2,if_neg (by simp;omega),Array.getElem?_setIfInBounds]
    rw[if_neg (fun e=>e1 e.symm)]
theorem own_mk {w:World} {base n cap g:Nat} {e:TypeId} {xs:List Value} {cur:Array Value} (hb:base≤g) (hg:Blk w g e cur) (hn:n≤cap) (hm:cap≤maxLen) (hc:cur.size=cap) (hx:xs.length=n) (h:∀j,j< n→cur[j]? =xs[j]?) :
  w.ownsRow base e 1 (.slice (some ⟨g,0,none⟩) n cap) n xs:=by
 refine⟨by omega,.inr ⟨g,cap,cur,rfl,hb,hg,hn,hm,by omega,?_⟩⟩;apply List.ext_getElem?
 intro j;rw[List.getElem?_take];by_cases hj:j< n
 ·rw[if_pos (by omega)]
  have:=h j hj;simpa using this
 ·rw[if_neg (by omega),List.getElem?_eq_none (by omega)]
def insI (l:List Int) (i:Nat) (a:Int):List Int:=l.take i++a :: l.drop i
theorem insI_len {l:List Int} {i:Nat} (a:Int) (h:i≤l.length):(insI l i a).length=l.length+1:=by simp[insI];omega
theorem insI_at {l:List Int} {i:Nat} (a:Int) (h:i≤l.length) (j:Nat):(iv (insI l i a))[j]? =if j< i then(iv l)[j]? else if j=i then some (.int .i64 a) else(iv l)[j - 1]? :=by
 unfold insI iv;rw[List.map_append,List.map_cons];by_cases h1:j< i
 ·rw[if_pos h1,List.getElem?_append_left (by simp;omega)]
  simp[h1]
 ·rw[if_neg h1,List.getElem?_append_right (by simp;omega)]
  have e:(List.map (Value.int .i64) (l.take i)).length=i:=by simp;omega
  rw[e];by_cases h2:j=i
  ·subst h2;rw[if_pos rfl,Nat.sub_self];rfl
  ·rw[if_neg h2]
   obtain⟨m,rfl⟩:∃m,j=i+1+m:=⟨j - (i+1),by omega⟩;rw[show i+1+m - i=m+1 by omega,List.getElem?_cons_succ,show i+1+m - 1=i+m by omega];simp
def InsOut (w w':World) (base:Nat) (v:Value) (l:List Int) (i:Nat) (a:Int) (e:Ending):Prop:=∃v',e= .returned v'∧w'.ownsRow base 3 1 v' (l.length+1) (iv (insI l i a))∧Ap w w' v v'
theorem one_at {g:Nat} {w:World} {a:Int} (h:Blk w g 3 #[.int .i64 a]):∀j v,[Value.int .i64 a][j]? =some v→w.cell? ⟨g,0+j,none⟩=some v:=by
 intro j v hv
 match j,hv with
 | 0,hv=>simp at hv;subst hv;exact h.cell 0
theorem binsert_any (base:Nat) (v:Value) (l:List Int) (i g:Nat) (a:Int) (w:World) (ho:w.ownsRow base 3 1 v l.length (iv l)) (hl:l.length≤1000000) (hi:i≤l.length) (hg:Blk w g 3 #[.int .i64 a]) (hne:v.ownBlock≠some g) (hb:base≤w.heap.size) :
  Calls prog 44 #[v,.int .i64 i,.slice (some ⟨g,0,none⟩) 1 1] w fun e w'=>InsOut w w' base v l i a e:=by
 have hml:maxLen=9223372036854775807∨True:= .inr trivial;obtain⟨A,c,rfl,hnc⟩:=own_shape ho;have hz0:(Value.int .i64 0).cells= #[.int .i64 0]:=rfl;have hxl:(iv (insI l i a)).length=l.length+1:=by rw[iv_len,insI_len a hi]
 cases A with
 | none=>
  obtain⟨h0,rfl⟩:=own_none ho;have hl0:l=[]:=List.eq_nil_of_length_eq_zero h0;subst hl0;obtain rfl:i=0:=by simpa using hi
  refine Calls.mono (Any2.slices_Insert_int_end_grow insertInt none 0 0 g 0 1 1 [] [.int .i64 a] w (by omega) (Nat.le_refl _) (by omega) (by omega) rfl rfl (fun _=>rfl) (fun a h=>by cases h) (one_at hg) (by simp[Value.oneCell'])) ?_;rintro e w' ⟨rfl,rfl⟩;have hcap:=grownCap_ge w (0+1) 0 (insertInt_ren.t 3)
  have hcap2:=grownCap_le_maxLen w (0+1) 0 (insertInt_ren.t 3) (by simp[maxLen]);obtain⟨cp,hcp⟩:∃q,grownCap w (0+1) 0 (insertInt_ren.t 3)=q:=⟨_,rfl⟩;rw[hcp] at hcap hcap2 ⊢;refine⟨_,rfl,own_mk hb (Blk.new w.drew 3 _) hcap hcap2 (by simp[hz0,size_zeroCells];omega) hxl fun j hj=>?_,(Chg.refl _ _).drew.alloc _,fun j hj=> .inr (by simp[Value.ownBlock] at hj;omega)⟩
  obtain rfl:j=0:=by simp at hj;omega
  rw[Array.getElem?_append_left (by simp)]
  simp[insI,iv]
 | some ad=>
  obtain⟨b,rfl,hbl⟩:=own_some ho;obtain⟨cur,hbb,hbg,hnc2,hcm,hcs,htk,hxl2⟩:=own_row ho;have hcs':cur.size=c:=by omega
  have hcur:∀j,j< l.length→cur[j]? =(iv l)[j]? :=fun j hj=>by
   rw[←htk,Nat.mul_one,List.getElem?_take,if_pos hj];simp
  have hbw:Blk w b 3 cur:=hbg
  have hcell:∀j u,(iv l)[j]? =some u→w.cell? ⟨b,0+j,none⟩=some u:=fun j u hu=>by
   rw[Nat.zero_add,hbw.cell,hcur j (by have:=(List.getElem?_eq_some_iff.1 hu).1;rwa[iv_len] at this),hu]
  have hgb:g≠b:=fun e=>hne (by simp[Value.ownBlock,e]);simp only[maxLen] at hcm;by_cases hin:i=l.length
  ·subst hin
   by_cases hroom:l.length+1≤c
   ·refine Calls.mono (Any2.slices_Insert_int_end_room insertInt b 0 l.length c g 0 1 1 [.int .i64 a] w (by omega) hroom (by omega) rfl (fun j hj=>?_) (fun j hj=>hbw.frozen _) (one_at hg) (by simp[Value.oneCell'])) ?_
    ·obtain rfl:j=0:=by omega
     rw[hbw.cell];simp[show l.length< cur.size by omega]
    ·rintro e w' ⟨rfl,rfl⟩
     obtain⟨cur',g1,g2,g3,g4⟩:=setCells_blk [.int .i64 a] (0+l.length) w cur hbw (by simp;omega);refine⟨_,rfl,own_mk hbb g1 hroom (by simp only[maxLen];omega) (by omega) hxl fun j hj=>?_,g4.mono fun j _ e=>by subst e;simp[Value.ownBlock],fun j hj=> .inl hj⟩;rw[g3 j,insI_at a hi];by_cases e1:j< l.length
     ·rw[if_neg (by simp;omega),if_pos e1,hcur j e1]
     ·have e2:j=l.length:=by omega
      subst e2;simp
   ·refine Calls.mono (Any2.slices_Insert_int_end_grow insertInt (some ⟨b,0,none⟩) l.length c g 0 1 1 (iv l) [.int .i64 a] w (by omega) hnc (by omega) (by omega) (iv_len l) rfl (fun h=>by cases h) (fun ad h=>by cases h;intro j u hu;rw[Addr.add_lit];exact hcell j u hu) (one_at hg) (by simp[Value.oneCell'])) ?_
    rintro e w' ⟨rfl,rfl⟩;have hcap:=grownCap_ge w (l.length+1) c (insertInt_ren.t 3);have hcap2:=grownCap_le_maxLen w (l.length+1) c (insertInt_ren.t 3) (by simp only[maxLen];omega)
    refine⟨_,rfl,own_mk hb (Blk.new w.drew 3 _) hcap hcap2 (by simp[hz0,size_zeroCells,iv_len];omega) hxl fun j hj=>?_,(Chg.refl _ _).drew.alloc _,fun j hj=> .inr (by simp[Value.ownBlock] at hj;omega)⟩;rw[Array.getElem?_append_left (by simp[iv_len];omega),insI_at a hi];by_cases e1:j< l.length
    ·rw[if_pos e1,List.getElem?_toArray,List.getElem?_append_left (by rw[iv_len];exact e1)]
    ·have e2:j=l.length:=by omega
     subst e2;simp[iv]
  ·have hilt:i< l.length:=by omega
   by_cases hroom:l.length+1≤c
   ·have hsh:w.shape? g=some (3,1):=by
     unfold Blk at hg;simp[World.shape?,hg]
    have hsh2:w.shape? b=some (3,cur.size):=by simp[World.shape?,hbg]
    refine Calls.mono (Any2.slices_Insert_int_shift insertInt b 0 l.length c i g 0 1 1 (iv l) [.int .i64 a] w hilt (by omega) hroom (by omega) hgb (iv_len l) rfl hcell (fun j hj=>?_) (fun j hj=>hbw.frozen _) (one_at hg) (iv_one l) (by simp[Value.oneCell']) _ _ _ _ hsh hsh2 (by omega) (hg.frozen 0) (hg.frozen 1)) ?_
    ·rw[hbw.cell]
     simp[show j< cur.size by omega]
    ·rintro e w' ⟨rfl,rfl⟩
     obtain⟨cu1,g1,g2,g3,g4⟩:=setCells_blk ((iv l).drop i) (0+(i+1)) w.drew cur hbw (by rw[List.length_drop,iv_len];omega);obtain⟨cu2,k1,k2,k3,k4⟩:=setCells_blk [.int .i64 a] (0+i) _ cu1 g1 (by simp;omega)
     refine⟨_,rfl,own_mk hbb k1 hroom (by simp only[maxLen];omega) (by omega) hxl fun j hj=>?_,(Chg.trans ((Chg.refl (fun j=>j=b) w).drew) (Chg.trans g4 k4 fun _ _ e=>e) fun _ _ e=>e).mono fun j _ e=>by subst e;simp[Value.ownBlock],fun j hj=> .inl hj⟩;rw[k3 j,insI_at a hi,g3 j];have hd:((iv l).drop i).length=l.length - i:=by rw[List.length_drop,iv_len]
     by_cases e1:j< i
     ·rw[if_neg (by simp;omega),if_neg (by rw[hd];omega),if_pos e1,hcur j (by omega)]
     ·by_cases e2:j=i
      ·subst e2;simp
      ·rw[if_neg (by simp;omega),if_pos (by rw[hd];omega),if_neg e1,if_neg e2,List.getElem?_drop]
       congr 1
       omega
   ·refine Calls.mono (Any2.slices_Insert_int_grow insertInt b 0 l.length c i g 0 1 1 (iv l) [.int .i64 a] w hilt (by omega) hnc (by omega) (by omega) (iv_len l) rfl hcell (one_at hg) (iv_one l) (by simp[Value.oneCell'])) ?_
    rintro e w' ⟨rfl,rfl⟩;have hcap:=grownCap_ge w (l.length+1) c (insertInt_ren.t 3);have hcap2:=grownCap_le_maxLen w (l.length+1) c (insertInt_ren.t 3) (by simp only[maxLen];omega);obtain⟨cp,hcp⟩:∃q,grownCap w (l.length+1) c (insertInt_ren.t 3)=q:=⟨_,rfl⟩;rw[hcp] at hcap hcap2 ⊢
    obtain⟨cur0,hcur0⟩:∃q,((iv l).take i).toArray++Builtin.zeroCells (Value.int .i64 0).cells (l.length+1 - i)++Builtin.zeroCells (Value.int .i64 0).cells (cp - (l.length+1))=q:=⟨_,rfl⟩
    have hs0:cur0.size=cp:=by
     rw[←hcur0];simp only[Array.size_append,size_zeroCells,hz0,List.size_toArray,List.length_take,iv_len];simp
     omega
    have h00:∀j,j< i→cur0[j]? =(iv l)[j]? :=fun j hj=>by
     rw[←hcur0,Array.getElem?_append_left (by simp[iv_len];omega),Array.getElem?_append_left (by simp[iv_len];omega)];simp[hj]
    have hB0:Blk (w.alloc (.cells cur0 3)).drew w.heap.size 3 cur0:=Blk.new _ _ _;obtain⟨cu1,g1,g2,g3,g4⟩:=setCells_blk [.int .i64 a] i _ cur0 hB0 (by simp;omega);obtain⟨cu2,k1,k2,k3,k4⟩:=setCells_blk ((iv l).drop i) (i+1) _ cu1 g1.drew (by rw[List.length_drop,iv_len];omega);rw[hcur0];have hgr:Grew w (w.alloc (.cells cur0 3)).drew:=((Chg.refl _ _).alloc _).drew
    refine⟨_,rfl,own_mk hb k1 hcap hcap2 (by omega) hxl fun j hj=>?_,?_,fun j hj=> .inr (by simp[Value.ownBlock] at hj;omega)⟩
    ·rw[k3 j,insI_at a hi,g3 j]
     have hd:((iv l).drop i).length=l.length - i:=by rw[List.length_drop,iv_len]
     by_cases e1:j< i
     ·rw[if_neg (by rw[hd];omega),if_neg (by simp;omega),if_pos e1,h00 j e1]
     ·by_cases e2:j=i
      ·subst e2;rw[if_neg (by omega),if_neg e1,if_pos rfl];simp
      ·rw[if_pos (by rw[hd];omega),if_neg e1,if_neg e2,List.getElem?_drop]
       congr 1
       omega
    ·have h9:Grew w _:=Chg.trans hgr (Chg.trans (g4.drew) k4 fun _ _ e=>e) fun q hq e=>by omega
     exact h9.chg
end
section
open Go.RowKit Go.Maps
theorem Sl.cut {w:World} {g off n:Nat} {xs:List Value} (h:Sl w 1 (some ⟨g,off,none⟩) n xs) (i m:Nat) (him:i+m≤n):Sl w 1 (some ⟨g,off+i,none⟩) m ((xs.drop i).take m):=by
 have hx:=h.1;refine⟨by rw[List.length_take,List.length_drop];omega,fun hm=>?_⟩;obtain⟨b,o,e,hb,hc⟩:=h.2 (by omega)
 cases e
 refine⟨g,off+i,rfl,hb,fun j u hu=>?_⟩;rw[List.getElem?_take] at hu;split at hu
 ·rw[List.getElem?_drop] at hu
  rw[Nat.add_assoc];exact hc _ u hu
 ·cases hu
theorem bclone_int (g off n c:Nat) (xs:List Value) (w:World) (hs:Sl w 1 (some ⟨g,off,none⟩) n xs) (h1:∀u∈xs,u.oneCell'=true) (hn:n≤1000000) (hn0:0< n) :
  Calls prog 68 #[.slice (some ⟨g,off,none⟩) n c] w fun e w'=>OwnOut w w' 3 1 n xs (fun A c=> .slice A n c) e:=by
 obtain⟨i0,hi0,hz0,hz1,hz2⟩:=info_parts i64Info_;have hsl:=fun(w:World)=>Lib.run_eql_slice_nil (P:=prog) w 22 3 (some ⟨g,off,none⟩) n c 0 0 underlying22;have H:=yH hs;have hxl:xs.length=n:=by have:=hs.1;omega
 clear hs;go_enter func68,ntmps68
 go_wp2_with (at_builtin;refine wpList_append_own _ rfl _ _ _ rfl w.heap.size 3 i0 _ 1 8 underlying22 hi0 hz0 hz1 hz2 rfl (by omega) (.slice (some ⟨w.heap.size,0,none⟩) 0 0) 0 [] rfl (World.ownsRow_lit w #[] 0 (Nat.le_refl _) (by simp[maxLen]) (by simp)) ⟨g,off,none⟩ n c xs rfl (by rw[Nat.mul_one];exact hxl) (fun j u hu=>by obtain⟨b,o,e,hb,hx⟩:=(H.out.grew ((Chg.refl _ _).alloc (.cells #[] 3))).2 (by omega);cases e;rw[Addr.add_lit];exact hx j u hu) h1 (by simp only[maxLen];omega) (by omega) (by simp) ?_;intro v1 w1 hown1 hgrow hnil;have HO:=yH hown1;have HG:=yH hgrow;clear hown1 hgrow hnil)
 go_ret
 obtain⟨A',c',rfl, -⟩:=own_shape HO.out;refine OwnOut.mk A' c' ?_ ?_ ?_
 ·have:=HO.out;simp
 ·simpa using HO.out
 ·exact((Chg.refl NoF w).alloc _).grown HG.out (fun k hk hlt=>by simp[Value.ownBlock] at hk;omega)
structure SvIt where
 b:Nat
 N:Nat→Prop
 q:Nat
 nd:Nd
def putAll (x:Rp):List SvIt→Rp
 | []=>x
 | it :: r=>putAll (x.put it.q (.new (ndL it.nd x.sz))) r
def Full (w w':World) (t p root:Nat) (F:Nat→Prop) (x:Rp) (m:Nat):Prop:=
 ∃z,BTTo w w' t p root F z∧x.like z∧z.now.countP Pk.used≤x.now.countP Pk.used+m∧¬ (1≤z.slack∧Pk.no∈z.now)
theorem putAll_like:∀ (its:List SvIt) (x:Rp),x.like (putAll x its)
 | [],x=> .refl x
 | it :: r,x=>(x.put_like _ _).trans (putAll_like r _)
theorem putAll_snoc:∀ (its:List SvIt) (x:Rp) (it:SvIt),putAll x (its++[it])=(putAll x its).put it.q (.new (ndL it.nd (putAll x its).sz))
 | [],_,_=>rfl
 | _ :: r,_,it=>putAll_snoc r _ it
def SvOk (w:World) (F:Nat→Prop) (x:Rp) (it:SvIt):Prop:=
 NdAt w it.N it.b it.q it.nd∧it.nd.Fit x.sz∧(∃c,x.now[it.q]? =some c∧c.used=true)∧∀j,it.N j→¬F j
theorem SvOk.next {w w':World} {F F':Nat→Prop} {x:Rp} {it it2:SvIt} (h:SvOk w F x it) (hc:Chg F w w') (hF:∀j,F' j→F j∨w.heap.size≤j) (bs:List Int):SvOk w' F' (x.put it2.q (.new bs)) it:=by
 obtain⟨h1,h2,⟨c,h3,h4⟩,h5⟩:=h;refine⟨h1.chg hc h5,h2,?_,fun j hj e=>(hF j e).elim (h5 j hj) fun e=>by have:=h1.lt j hj;omega⟩;by_cases e:it.q=it2.q
 ·refine⟨.new bs,?_,rfl⟩
  rw[Rp.put_at (by rw[←e];exact(List.getElem?_eq_some_iff.1 h3).1),if_pos e]
 ·refine⟨c,?_,h4⟩
  unfold Rp.put;simp only;rw[List.getElem?_set_ne (Ne.symm e)];exact h3
def AlOut (w w':World) (t p root:Nat) (F:Nat→Prop) (x:Rp) (its:List SvIt) (e:Ending):Prop:=
 (e= .returned (.int .i64 0)∧BTTo w w' t p root F (putAll x its))∨(e= .returned (.int .i64 21)∧Full w w' t p root F x 0)
def pv (its:List SvIt):List Value:=its.map fun it=> .pointer (some ⟨it.b,0,none⟩)
theorem ball_any (t p root g n c:Nat) (F:Nat→Prop) (x:Rp) (its:List SvIt) (w:World) (hb:BT w t p root F x) (ho:x.was≠none) (hok:∀it∈its,SvOk w F x it) (hn:its.length=n) (hn2:n≤100) (hs:Sl w 1 (some ⟨g,0,none⟩) n (pv its)) (hg:¬F g) (hgl:g< w.heap.size) :
  Calls prog 88 #[.pointer (some ⟨t,0,none⟩),.slice (some ⟨g,0,none⟩) n c] w fun e w'=>AlOut w w' t p root F x its e:=by
 have H:=yH (yA5 hb ho hok hn (yA3 hs hg hgl));clear hb ho hok hn hs hg hgl;go_enter func88,ntmps88
 go_wp2
 go_loopg [10] n (fun q i wr=>∃ (k:Nat) (y:Rp) (F':Nat→Prop),q=n - k∧k≤n∧i= .int .i64 k∧BT wr t p root F' y∧Rch F F' w wr∧y=putAll x (its.take k)∧(∀it∈its.drop k,SvOk wr F' y it)∧Sl wr 1 (some ⟨g,0,none⟩) n (pv its)∧¬F' g∧y.now.countP Pk.used=x.now.countP Pk.used)
 case atStart=>exact⟨0,x,F,rfl,Nat.zero_le _,rfl,H.out.1,Rch.grew (Chg.refl _ _),rfl,by simpa using H.out.2.2.1,(yP4 H.out).1,(yP4 H.out).2.1,rfl⟩
 case round=>
  obtain⟨k,y,F',rfl,hk,rfl,hbt,hrc,hy,hok,hs,hgF,hus⟩:=hrel;have hlk:x.like y:=hy▸putAll_like _ _;by_cases hlt:k< n
  ·have hlen:=H.out.2.2.2.1
   obtain⟨it,hit⟩:∃it,its[k]? =some it:=⟨_,List.getElem?_eq_getElem (by omega)⟩
   have hdr:its.drop k=it :: its.drop (k+1):=by
    obtain⟨hl,he⟩:=List.getElem?_eq_some_iff.1 hit;rw[List.drop_eq_getElem_cons hl,he]
   have hit1:=hok it (by rw[hdr];exact List.mem_cons_self);obtain⟨j1,j2,⟨cc,j3,j4⟩,j5⟩:=hit1
   have hbN:¬F' it.b:=by
    obtain⟨_,_,_,_,_,_, -, -, -, -,hbN, -⟩:=j1;exact j5 _ hbN
   have hsv:=bsave_any t p root it.b it.q F' it.N y cc it.nd wr hbt j1 j2 (by rw[hlk.was];exact H.out.2.1) j3 j4 hbN;obtain⟨b0,o0,e0, -,hx⟩:=hs.2 (by omega)
   cases e0
   have hce:wr.cell? ⟨g,k,none⟩=some (.pointer (some ⟨it.b,0,none⟩)):=by
    have:=hx k _ (show(pv its)[k]? =some (.pointer (some ⟨it.b,0,none⟩)) by simp[pv,hit]);rwa[Nat.zero_add] at this
   have HS:=yH (yA5 hsv hbt hrc hy (yA5 hok hs hgF hus (yA5 hlk hdr hit j3 j4)));clear hsv hbt hrc hy hok hs hgF hus hlk hdr hit j1 j2 j3 j4 j5 hbN hx hlen;go_wp2_with fail
   refine HS.out.1.mono ?_;clear hce;rintro e w3 (⟨rfl,F2,h1,h2,h3⟩ | ⟨hns,hnw,rfl,hg3⟩)
   ·have H3:=yH (yA3 h1 h2 h3)
    clear h1 h2 h3;go_wp2_with fail
    go_roundg (n - (k+1))
    case measure=>omega
    case rel=>
     obtain⟨-,hbt,hrc,hy,hok,hs,hgF,hus,hlk,hdr,hit,j3,j4⟩:=HS.out;obtain⟨h1,h2,h3⟩:=H3.out;have hgw:g< wr.heap.size:=by obtain⟨b,o,e,hb, -⟩:=hs.2 (by omega);cases e;exact hb
     refine⟨k+1,_,F2,rfl,by omega,by simp,h1,hrc.trans ⟨h2,h3⟩,?_,fun it2 hi2=>?_,hs.chg h2 (fun a ha=>by cases ha;exact hgF),fun e=>(h3 g e).elim hgF fun e=>by omega,?_⟩
     ·rw[List.take_add_one,hit]
      show _=putAll x (its.take k++[it]);rw[putAll_snoc,←hy]
     ·exact(hok it2 (by rw[hdr];exact List.mem_cons_of_mem _ hi2)).next (it2:=it) h2 h3 _
     ·have:=Rp.put_used (c:= .new (ndL it.nd y.sz)) j3
      rw[j4] at this;simp[Pk.used] at this
      rw[←hus];exact this
   ·have H3:=yH (yA hns hg3)
    clear hns hg3 hnw;go_wp2_with fail
    go_ret
    obtain⟨-,hbt,hrc,hy,hok,hs,hgF,hus,hlk, -⟩:=HS.out;refine .inr ⟨rfl,y,⟨F',hbt.grew H3.out.2,hrc.chg.grew H3.out.2,hrc.new⟩,hlk,by omega,fun e=>?_⟩;have:=H3.out.1;have:=e.1;omega
  ·obtain rfl:k=n:=by omega
   have HE:=yH (yA3 hbt hrc hy);clear hbt hrc hy hok hs hgF hus hlk;go_wp2
   go_ret
   have e1:=HE.out.2.2;rw[List.take_of_length_le (by rw[H.out.2.2.2.1];exact Nat.le_refl _)] at e1;refine .inl ⟨rfl,?_⟩;rw[←e1];exact⟨F',HE.out.1,HE.out.2.1.chg,HE.out.2.1.new⟩
end
section
open Go.RowKit Go.Maps
theorem Ap.own {w w':World} {v v' u:Value} {n:Nat} {xs:List Value} (h:Ap w w' v v') (ho:w.ownsRow 1 3 1 u n xs) (hd:∀g,v.ownBlock=some g→u.ownBlock≠some g):w'.ownsRow 1 3 1 u n xs∧∀g,v'.ownBlock=some g→u.ownBlock≠some g:=
 ⟨own_chg ho h.chg fun g hg e=>hd g e hg,fun g hg e=>(h.at_ g hg).elim (fun e2=>hd g e2 e) fun e2=>by have:=(ho.lt g e).2;omega⟩
section
variable {W W' W2:World} {N:Nat→Prop} {b q:Nat} {nd:Nd}
structure NdV (W:World) (N:Nat→Prop) (b q:Nat) (vk vv vc:Value) (lk lv lc:List Value):Prop where
 blk:Blk W b 73 #[.int .i64 q,vk,vv,vc]
 rk:W.ownsRow 1 3 1 vk lk.length lk
 rv:W.ownsRow 1 3 1 vv lv.length lv
 rc:W.ownsRow 1 3 1 vc lc.length lc
 nb:N b
 nk:∀g,vk.ownBlock=some g→N g
 nv:∀g,vv.ownBlock=some g→N g
 nc:∀g,vc.ownBlock=some g→N g
 lt:∀j,N j→j< W.heap.size
 kv:∀g,vk.ownBlock=some g→vv.ownBlock≠some g
 kc:∀g,vk.ownBlock=some g→vc.ownBlock≠some g
 vc_:∀g,vv.ownBlock=some g→vc.ownBlock≠some g
theorem NdOwn.v (h:NdOwn W N b q nd):∃vk vv vc,NdV W N b q vk vv vc (iv nd.keys) (iv nd.vals) (nv nd.kids):=by
 obtain⟨Ak,ck,Av,cv,Ac,cc,h1,h2,h3,h4,h5,h6,h7,h8,h9,h10,h11,h12⟩:=h;refine⟨_,_,_,h1,by rw[iv_len];exact h2,by rw[iv_len];exact h3,by simpa [nv] using h4,h5,fun g hg=>?_,fun g hg=>?_,fun g hg=>?_,h9,fun g hg e=>?_,fun g hg e=>?_,fun g hg e=>?_⟩
 ·obtain⟨a,ha,rfl⟩:=own_at hg;exact h6 a ha
 ·obtain⟨a,ha,rfl⟩:=own_at hg;exact h7 a ha
 ·obtain⟨a,ha,rfl⟩:=own_at hg;exact h8 a ha
 ·obtain⟨a,ha,rfl⟩:=own_at hg;obtain⟨a',ha',e'⟩:=own_at e;exact h10 a a' ha ha' e'.symm
 ·obtain⟨a,ha,rfl⟩:=own_at hg;obtain⟨a',ha',e'⟩:=own_at e;exact h11 a a' ha ha' e'.symm
 ·obtain⟨a,ha,rfl⟩:=own_at hg;obtain⟨a',ha',e'⟩:=own_at e;exact h12 a a' ha ha' e'.symm
theorem own_blockOf {w:World} {base:Nat} {e:TypeId} {s n c:Nat} {A:Option Addr} {xs:List Value} (h:w.ownsRow base e s (.slice A n c) n xs):∀a,A=some a→(Value.slice A n c).ownBlock=some a.block:=by
 rintro a rfl;obtain⟨g,rfl, -⟩:=own_some h;simp[Value.ownBlock]
theorem NdV.own {vk vv vc:Value} {nd:Nd} (h:NdV W N b q vk vv vc (iv nd.keys) (iv nd.vals) (Go.Proofs.YtpkkcicaeldodaaGreatDoor.nv nd.kids)):NdOwn W N b q nd:=by
 have rk:=h.rk;have rv:=h.rv;have rc:=h.rc;rw[iv_len] at rk rv;have hlc:(Go.Proofs.YtpkkcicaeldodaaGreatDoor.nv nd.kids).length=nd.kids.length:=by simp[Go.Proofs.YtpkkcicaeldodaaGreatDoor.nv]
 rw[hlc] at rc;obtain⟨Ak,ck,rfl, -⟩:=own_shape rk;obtain⟨Av,cv,rfl, -⟩:=own_shape rv;obtain⟨Ac,cc,rfl, -⟩:=own_shape rc;refine⟨Ak,ck,Av,cv,Ac,cc,h.blk,rk,rv,rc,h.nb,fun a ha=>h.nk _ (own_blockOf rk a ha),fun a ha=>h.nv _ (own_blockOf rv a ha),fun a ha=>h.nc _ (own_blockOf rc a ha),h.lt,fun a a' ha ha' e=>?_,fun a a' ha ha' e=>?_,fun a a' ha ha' e=>?_⟩
 ·exact h.kv _ (own_blockOf rk a ha) (by rw[own_blockOf rv a' ha',e])
 ·exact h.kc _ (own_blockOf rk a ha) (by rw[own_blockOf rc a' ha',e])
 ·exact h.vc_ _ (own_blockOf rv a ha) (by rw[own_blockOf rc a' ha',e])
theorem NdV.ne {vk vv vc:Value} {lk lv lc:List Value} (h:NdV W N b q vk vv vc lk lv lc):vk.ownBlock≠some b∧vv.ownBlock≠some b∧vc.ownBlock≠some b:=⟨own_blk_ne h.rk h.blk (by decide),own_blk_ne h.rv h.blk (by decide),own_blk_ne h.rc h.blk (by decide)⟩
theorem NdV.setK {vk vv vc v':Value} {lk lv lc l':List Value} (h:NdV W N b q vk vv vc lk lv lc) (ha:Ap W W' vk v') (ho:W'.ownsRow 1 3 1 v' l'.length l') (hW:W'.setCell ⟨b,1,none⟩ v'=W2) :
  NdV W2 (fun j=>N j∨v'.ownBlock=some j) b q v' vv vc l' lv lc:=by
 obtain⟨e1,e2,e3⟩:=h.ne;obtain⟨a1,a2⟩:=ha.own h.rv h.kv;obtain⟨b1,b2⟩:=ha.own h.rc h.kc;have hb':=h.blk.chg ha.chg e1;have e1':=own_blk_ne ho hb' (by decide);have hc:Chg (fun j=>j=b) W' W2:=hW▸(Chg.refl (fun j=>j=b) W').setCell (p:=⟨b,1,none⟩) (fun _=>rfl) _;have hz:=hc.size;have hz1:=ha.chg.size
 refine⟨?_,own_chg ho hc fun g hg e=>e1' (e▸hg),own_chg a1 hc fun g hg e=>e2 (e▸hg),own_chg b1 hc fun g hg e=>e3 (e▸hg),.inl h.nb,fun g hg=> .inr hg,fun g hg=> .inl (h.nv g hg),fun g hg=> .inl (h.nc g hg),fun j hj=>?_,fun g hg e=>a2 g hg e,fun g hg e=>b2 g hg e,h.vc_⟩
 ·subst hW
  have:=hb'.put 1 v';simpa using this
 ·rcases hj with e | e
  ·have:=h.lt j e;omega
  ·have:=(ho.lt j e).2;omega
theorem NdV.setV {vk vv vc v':Value} {lk lv lc l':List Value} (h:NdV W N b q vk vv vc lk lv lc) (ha:Ap W W' vv v') (ho:W'.ownsRow 1 3 1 v' l'.length l') (hW:W'.setCell ⟨b,2,none⟩ v'=W2) :
  NdV W2 (fun j=>N j∨v'.ownBlock=some j) b q vk v' vc lk l' lc:=by
 obtain⟨e1,e2,e3⟩:=h.ne;obtain⟨a1,a2⟩:=ha.own h.rk fun g hg e=>h.kv g e hg;obtain⟨b1,b2⟩:=ha.own h.rc h.vc_;have hb':=h.blk.chg ha.chg e2;have e1':=own_blk_ne ho hb' (by decide);have hc:Chg (fun j=>j=b) W' W2:=hW▸(Chg.refl (fun j=>j=b) W').setCell (p:=⟨b,2,none⟩) (fun _=>rfl) _;have hz:=hc.size;have hz1:=ha.chg.size
 refine⟨?_,own_chg a1 hc fun g hg e=>e1 (e▸hg),own_chg ho hc fun g hg e=>e1' (e▸hg),own_chg b1 hc fun g hg e=>e3 (e▸hg),.inl h.nb,fun g hg=> .inl (h.nk g hg),fun g hg=> .inr hg,fun g hg=> .inl (h.nc g hg),fun j hj=>?_,fun g hg e=>a2 g e hg,h.kc,fun g hg e=>b2 g hg e⟩
 ·subst hW
  have:=hb'.put 2 v';simpa using this
 ·rcases hj with e | e
  ·have:=h.lt j e;omega
  ·have:=(ho.lt j e).2;omega
theorem NdV.setC {vk vv vc v':Value} {lk lv lc l':List Value} (h:NdV W N b q vk vv vc lk lv lc) (ha:Ap W W' vc v') (ho:W'.ownsRow 1 3 1 v' l'.length l') (hW:W'.setCell ⟨b,3,none⟩ v'=W2) :
  NdV W2 (fun j=>N j∨v'.ownBlock=some j) b q vk vv v' lk lv l':=by
 obtain⟨e1,e2,e3⟩:=h.ne;obtain⟨a1,a2⟩:=ha.own h.rk fun g hg e=>h.kc g e hg;obtain⟨b1,b2⟩:=ha.own h.rv fun g hg e=>h.vc_ g e hg;have hb':=h.blk.chg ha.chg e3;have e1':=own_blk_ne ho hb' (by decide);have hc:Chg (fun j=>j=b) W' W2:=hW▸(Chg.refl (fun j=>j=b) W').setCell (p:=⟨b,3,none⟩) (fun _=>rfl) _;have hz:=hc.size;have hz1:=ha.chg.size
 refine⟨?_,own_chg a1 hc fun g hg e=>e1 (e▸hg),own_chg b1 hc fun g hg e=>e2 (e▸hg),own_chg ho hc fun g hg e=>e1' (e▸hg),.inl h.nb,fun g hg=> .inl (h.nk g hg),fun g hg=> .inl (h.nv g hg),fun g hg=> .inr hg,fun j hj=>?_,h.kv,fun g hg e=>a2 g e hg,fun g hg e=>b2 g e hg⟩
 ·subst hW
  have:=hb'.put 3 v';simpa using this
 ·rcases hj with e | e
  ·have:=h.lt j e;omega
  ·have:=(ho.lt j e).2;omega
theorem NdV.chg {vk vv vc:Value} {lk lv lc:List Value} {G:Nat→Prop} (h:NdV W N b q vk vv vc lk lv lc) (hc:Chg G W W') (hG:∀j,N j→¬G j):NdV W' N b q vk vv vc lk lv lc:=
 ⟨h.blk.chg hc (hG _ h.nb),own_chg h.rk hc fun g hg=>hG _ (h.nk g hg),own_chg h.rv hc fun g hg=>hG _ (h.nv g hg),own_chg h.rc hc fun g hg=>hG _ (h.nc g hg),h.nb,h.nk,h.nv,h.nc,fun j hj=>Nat.lt_of_lt_of_le (h.lt j hj) hc.size,h.kv,h.kc,h.vc_⟩
end
end
section
def insN (l:List Nat) (i a:Nat):List Nat:=l.take i++a :: l.drop i
def Nd.lo (kd:Nd) (h:Nat):Nd:=⟨kd.keys.take (h - 1),kd.vals.take (h - 1),kd.kids.take h⟩
def Nd.hi (kd:Nd) (h:Nat):Nd:=⟨kd.keys.drop h,kd.vals.drop h,kd.kids.drop h⟩
def Nd.ins (nd:Nd) (i:Nat) (k v:Int) (r:Nat):Nd:=⟨insI nd.keys i k,insI nd.vals i v,insN nd.kids (i+1) r⟩
theorem zip_take {α β:Type}:∀ (a:List α) (b:List β) (n:Nat),(a.take n).zip (b.take n)=(a.zip b).take n
 | [],b,n=>by simp
 | x :: a,[],n=>by simp
 | x :: a,y :: b,0=>by simp
 | x :: a,y :: b,n+1=>by simp[zip_take a b n]
theorem zip_drop {α β:Type}:∀ (a:List α) (b:List β) (n:Nat),(a.drop n).zip (b.drop n)=(a.zip b).drop n
 | [],b,n=>by simp
 | x :: a,[],n=>by simp
 | x :: a,y :: b,0=>by simp
 | x :: a,y :: b,n+1=>by simp[zip_drop a b n]
theorem zip_ins {α β:Type}:∀ (a:List α) (b:List β) (n:Nat) (x:α) (y:β),a.length=b.length→n≤a.length→(a.take n++x :: a.drop n).zip (b.take n++y :: b.drop n)=(a.zip b).take n++(x,y) :: (a.zip b).drop n
 | a,b,0,x,y,_,_=>by simp
 | [],b,n+1,x,y,_,h=>by simp at h
 | u :: a,[],n+1,x,y,h,_=>by simp at h
 | u :: a,v :: b,n+1,x,y,h,h2=>by simp[zip_ins a b n x y (by simpa using h) (by simpa using h2)]
theorem Nd.lo_kvs (kd:Nd) (h:Nat):(kd.lo h).kvs=kd.kvs.take (h - 1):=zip_take _ _ _
theorem Nd.hi_kvs (kd:Nd) (h:Nat):(kd.hi h).kvs=kd.kvs.drop h:=zip_drop _ _ _
theorem Nd.ins_kvs {nd:Nd} (hv:nd.vals.length=nd.keys.length) {i:Nat} (hi:i≤nd.keys.length) (k v:Int) (r:Nat):(nd.ins i k v r).kvs=nd.kvs.take i++(k,v) :: nd.kvs.drop i:=zip_ins _ _ _ _ _ hv.symm hi
theorem at_split {α:Type} {l:List α} {i:Nat} {a:α} (h:l[i]? =some a):l=l.take i++a :: l.drop (i+1):=by
 obtain⟨hl,he⟩:=List.getElem?_eq_some_iff.1 h;rw[←he,←List.drop_eq_getElem_cons hl,List.take_append_drop]
theorem Suf.fr {R:Nat→List KV→List Nat→Prop} {ks:List Nat} {k:KV} {kv B:List KV} {P:List Nat} (h:Suf R ks (k :: kv) B P):∃L,B=k :: L∧Fr R ks kv L P:=by
 generalize hV:k :: kv=V at h
 induction h generalizing k kv with
 | nil=>cases hV
 | @cons q M P1 k1 ks1 kv1 L1 P2 h1 h2 ih=>
  cases hV
  cases kv1 with
  | nil=>
   cases h2
   exact⟨M++[],rfl,by simpa using Fr.one h1⟩
  | cons k2 kv2=>
   obtain⟨L',e,h3⟩:=ih rfl;subst e;exact⟨M++k2 :: L',rfl,.cons h1 h3⟩
section
variable {rd rd':Nat→Option Nd} {h d q r:Nat} {M:List KV} {P:List Nat} {kd:Nd}
theorem Tr.halves (t:Tr rd h d q M P) (hn:rd q=some kd) (hh:2≤h) (hf:kd.keys.length=2*h - 1) (hP:P.Nodup) (hr:r∉P) (h1:rd' q=some (kd.lo h)) (h2:rd' r=some (kd.hi h)) (h3:∀i∈P,i≠q→rd' i=rd i) :
  ∃k v M1 M2 P1 P2,kd.keys[h - 1]? =some k∧kd.vals[h - 1]? =some v∧M=M1++(k,v) :: M2∧Tc rd' h d q M1 P1∧Tc rd' h d r M2 P2∧(P1++P2).Perm (r :: P):=by
 have hlk:(kd.lo h).keys.length=h - 1:=by simp[Nd.lo];omega
 have hhk:(kd.hi h).keys.length=h - 1:=by simp[Nd.hi];omega
 have n1:h - 1≤nk rd' q:=by rw[nk_eq h1,hlk];exact Nat.le_refl _
 have n2:h - 1≤nk rd' r:=by rw[nk_eq h2,hhk];exact Nat.le_refl _
 have hvl:kd.vals.length=kd.keys.length:=by
  obtain⟨nd',g1,g2, -⟩:=t.node;rw[hn] at g1;cases g1;exact g2
 obtain⟨k,hk⟩:∃k,kd.keys[h - 1]? =some k:=⟨_,List.getElem?_eq_getElem (by omega)⟩;obtain⟨v,hv⟩:∃v,kd.vals[h - 1]? =some v:=⟨_,List.getElem?_eq_getElem (by omega)⟩;have hkv:=at_split (kvs_at hvl hk hv);rw[show h - 1+1=h by omega] at hkv;have l1:(kd.lo h).vals.length=(kd.lo h).keys.length:=by simp[Nd.lo,hvl]
 have l2:(kd.hi h).vals.length=(kd.hi h).keys.length:=by simp[Nd.hi,hvl]
 cases d with
 | zero=>
  obtain⟨nd',g1,g2,g3,g4,rfl,rfl⟩:=t;rw[hn] at g1
  cases g1
  refine⟨k,v,_,_,[q],[r],hk,hv,hkv,⟨⟨_,h1,by simp[Nd.lo,g2],l1,by omega,(Nd.lo_kvs _ _).symm,rfl⟩,n1⟩,⟨⟨_,h2,by simp[Nd.hi,g2],l2,by omega,(Nd.hi_kvs _ _).symm,rfl⟩,n2⟩,List.Perm.swap _ _ _⟩
 | succ d=>
  obtain⟨nd',P',g1,g2,g3,g4,g5,rfl⟩:=t;rw[hn] at g1
  cases g1
  have hcl:=g5.len;rw[kvs_len hvl] at hcl;have hq:=List.nodup_cons.1 hP;have g5':Fr (fun q L P=>Tr rd' h d q L P∧h - 1≤nk rd' q) kd.kids kd.kvs M P':=g5.mono fun c M' Q hc hQ=>Tc.frame hc fun i hi=>h3 i (List.mem_cons_of_mem _ (hQ i hi)) fun e=>hq.1 (e▸hQ i hi);rw[hkv,←List.take_append_drop h kd.kids] at g5'
  obtain⟨M1,P1,B,PB,k1,k2,rfl,rfl⟩:=g5'.cutr (by simp[kvs_len hvl];omega);obtain⟨M2,rfl,k3⟩:=k2.fr;refine⟨k,v,M1,M2,q :: P1,r :: PB,hk,hv,rfl,⟨⟨_,P1,h1,l1,by omega,by omega,?_,rfl⟩,n1⟩,⟨⟨_,PB,h2,l2,by omega,by omega,?_,rfl⟩,n2⟩,?_⟩
  ·rw[Nd.lo_kvs];exact k1
  ·rw[Nd.hi_kvs];exact k3
  ·have:(q :: (P1++r :: PB)).Perm (q :: r :: (P1++PB)):=List.Perm.cons _ List.perm_middle
   exact this.trans (List.Perm.swap _ _ _)
theorem Fr.split {nd:Nd} {i:Nat} {L:List KV} (f:Fr (Tc rd h d) nd.kids nd.kvs L P) (hvl:nd.vals.length=nd.keys.length) (hi:nd.kids[i]? =some q) (hn:rd q=some kd) (hh:2≤h) (hf:kd.keys.length=2*h - 1) (hP:P.Nodup) (hr:r∉P)
  (h1:rd' q=some (kd.lo h)) (h2:rd' r=some (kd.hi h)) (h3:∀j∈P,j≠q→rd' j=rd j) :
  ∃k v P',kd.keys[h - 1]? =some k∧kd.vals[h - 1]? =some v∧Fr (Tc rd' h d) (nd.ins i k v r).kids (nd.ins i k v r).kvs L P'∧P'.Perm (r :: P):=by
 have hcl:=f.len;rw[kvs_len hvl] at hcl;have hil:=(List.getElem?_eq_some_iff.1 hi).1
 have e1:nd.kids=nd.kids.take i++[q]++nd.kids.drop (i+1):=by
  have:=at_split hi;simpa using this
 have e2:nd.kvs=nd.kvs.take i++[]++nd.kvs.drop i:=by simp
 have f':=f;rw[e1,e2] at f';obtain⟨A,PA,M,PM,B,PB,g1,g2,g3,rfl,rfl⟩:=f'.focus (by rw[List.length_take,List.length_take,kvs_len hvl];omega) rfl
 cases g2 with
 | one g2=>
  have hPM:PM.Nodup:=List.Nodup.sublist ((List.sublist_append_right PA PM).trans (List.sublist_append_left _ _)) hP;have hqM:q∈PM:=g2.1.root_mem;obtain⟨k,v,M1,M2,P1,P2,k1,k2,rfl,k4,k5,k6⟩:=g2.1.halves (rd':=rd') (r:=r) hn hh hf hPM (fun e=>hr (by simp[e])) h1 h2 fun j hj=>h3 j (by simp[hj])
  have hA:∀j∈PA,j≠q:=fun j hj e=>by
   have:=(List.nodup_append.1 (List.nodup_append.1 hP).1).2.2 j hj q hqM;exact this e
  have hB:∀j∈PB,j≠q:=fun j hj e=>by
   have:=(List.nodup_append.1 hP).2.2 q (by simp[hqM]) j hj;exact this e.symm
  refine⟨k,v,PA++(P1++P2)++PB,k1,k2,?_,?_⟩
  ·have hb:=Fr.build (g1.mono fun c M' Q hc hQ=>Tc.frame (rd':=rd') hc fun j hj=>h3 j (by simp[hQ j hj]) (hA j (hQ j hj))) (Fr.cons (k:=(k,v)) k4 (Fr.one k5)) (g3.mono fun c M' Q hc hQ=>Tc.frame (rd':=rd') hc fun j hj=>h3 j (by simp[hQ j hj]) (hB j (hQ j hj)))
   rw[Nd.ins_kvs hvl (by omega)]
   have ek:(nd.ins i k v r).kids=nd.kids.take i++[q,r]++nd.kids.drop (i+1):=by
    simp only[Nd.ins,insN];rw[List.take_add_one,hi];simp
   rw[ek];simpa using hb
  ·have s1:(PA++(P1++P2)++PB).Perm (PA++(r :: PM)++PB):=(k6.append_left PA).append_right PB
   refine s1.trans ?_;simp
end
end
section
open Go.RowKit Go.Maps
structure Sp (W:World) (t p root:Nat) (F:Nat→Prop) (y:Rp) (N1 N2:Nat→Prop) (bk qk:Nat) (kd:Nd):Prop where
 bt:BT W t p root F y
 kd:NdOwn W N2 bk qk kd
 d12:∀j,N1 j→¬N2 j
 d1F:∀j,N1 j→¬F j∧j≠t∧j≠0∧j< W.heap.size
 d2F:∀j,N2 j→¬F j
section
variable {W W':World} {t p root bk qk:Nat} {F F':Nat→Prop} {y y':Rp} {N1 N2:Nat→Prop} {kd:Nd}
theorem Sp.ap {v v':Value} (h:Sp W t p root F y N1 N2 bk qk kd) (ha:Ap W W' v v') (hv:∀g,v.ownBlock=some g→N1 g) (hlt:∀g,v'.ownBlock=some g→g< W'.heap.size):Sp W' t p root F y (fun j=>N1 j∨v'.ownBlock=some j) N2 bk qk kd:=by
 have hF:=h.bt.gp.lt;have ht:=h.bt.blk.lt;have hz:=ha.chg.size;have hk:=h.kd.at.lt;refine⟨h.bt.chg ha.chg (fun j hj e=>(h.d1F j (hv j e)).1 hj) (fun e=>(h.d1F _ (hv _ e)).2.2.1 rfl) (fun e=>(h.d1F _ (hv _ e)).2.1 rfl),h.kd.chg ha.chg fun j hj e=>h.d12 j (hv j e) hj,fun j hj e=>?_,fun j hj=>?_,h.d2F⟩
 ·rcases hj with hj | hj
  ·exact h.d12 j hj e
  ·rcases ha.at_ j hj with e2 | e2
   ·exact h.d12 j (hv j e2) e
   ·have:=hk j e;omega
 ·rcases hj with hj | hj
  ·obtain⟨a1,a2,a3,a4⟩:=h.d1F j hj
   exact⟨a1,a2,a3,by omega⟩
  ·rcases ha.at_ j hj with e2 | e2
   ·obtain⟨a1,a2,a3,a4⟩:=h.d1F j (hv j e2)
    exact⟨a1,a2,a3,hlt j hj⟩
   ·exact⟨fun e=>by have:=hF j e;omega,by omega,by have:=tab_pos h.bt.gp.tab;omega,hlt j hj⟩
theorem Sp.st {g:Nat} (h:Sp W t p root F y N1 N2 bk qk kd) (hc:Chg (fun j=>j=g) W W') (hg:N1 g):Sp W' t p root F y N1 N2 bk qk kd:=by
 obtain⟨a1,a2,a3,a4⟩:=h.d1F g hg;exact⟨h.bt.chg hc (fun j hj e=>a1 (e▸hj)) (fun e=>a3 e.symm) (fun e=>a2 e.symm),h.kd.chg hc fun j hj e=>h.d12 g hg (e▸hj),h.d12,fun j hj=>by obtain⟨b1,b2,b3,b4⟩:=h.d1F j hj;exact⟨b1,b2,b3,Nat.lt_of_lt_of_le b4 hc.size⟩,h.d2F⟩
theorem Sp.grew (h:Sp W t p root F y N1 N2 bk qk kd) (hc:Grew W W'):Sp W' t p root F y N1 N2 bk qk kd:=
 ⟨h.bt.grew hc,h.kd.grew hc,h.d12,fun j hj=>by obtain⟨b1,b2,b3,b4⟩:=h.d1F j hj;exact⟨b1,b2,b3,Nat.lt_of_lt_of_le b4 hc.size⟩,h.d2F⟩
theorem Sp.to (h:Sp W t p root F y N1 N2 bk qk kd) (hg:GPTo W W' p F y'):∃F',Sp W' t p root F' y' N1 N2 bk qk kd∧Rch F F' W W':=by
 obtain⟨F',h1,h2,h3⟩:=h.bt.to hg;have hk:=h.kd.at.lt;refine⟨F',⟨h1,h.kd.chg h2 h.d2F,h.d12,fun j hj=>?_,fun j hj e=>?_⟩,⟨h2,h3⟩⟩
 ·obtain⟨b1,b2,b3,b4⟩:=h.d1F j hj
  exact⟨fun e=>(h3 j e).elim b1 fun e=>by omega,b2,b3,Nat.lt_of_lt_of_le b4 h2.size⟩
 ·rcases h3 j e with e | e
  ·exact h.d2F j hj e
  ·have:=hk j hj;omega
end
end
section
theorem leaf_put {nd:Nd} {k:Int} (hv:nd.vals.length=nd.keys.length) (hs:nd.keys.Pairwise (· < ·)) (hk:nd.keys.contains k=false) (v:Int):Nd.kvs ⟨insI nd.keys (atI nd.keys k) k,insI nd.vals (atI nd.keys k) v,[]⟩=putL nd.kvs k v:=by
 have h1:Nd.kvs ⟨insI nd.keys (atI nd.keys k) k,insI nd.vals (atI nd.keys k) v,[]⟩=nd.kvs.take (atI nd.keys k)++(k,v) :: nd.kvs.drop (atI nd.keys k):=zip_ins _ _ _ _ _ hv.symm (atI_le _ _);rw[h1]
 have h2:=putL_mid (A:=nd.kvs.take (atI nd.keys k)) (M:=[]) (B:=nd.kvs.drop (atI nd.keys k)) (k:=k) (v:=v) (fst_mem (kvs_take hv _) (atI_split nd.keys k hs).1) (fst_mem (kvs_drop hv _) (atI_missed hs hk));rw[List.append_nil,List.take_append_drop] at h2;rw[h2];simp[putL]
section
variable {rd rd':Nat→Option Nd} {h D root:Nat} {k:Int} {L:List KV} {P:List Nat} {d q r:Nat} {nd kd:Nd} {A M B:List KV} {P1 PM P2:List Nat}
theorem WayAt.apart (a:WayAt rd h D root k L P d q nd A M B P1 PM P2) (hn:P.Nodup):(∀i∈P1,i∉PM)∧(∀i∈P2,i∉PM)∧PM.Nodup∧q∈PM:=by
 rw[a.p] at hn;obtain⟨h1,h2,h3⟩:=List.nodup_append.1 hn;obtain⟨h4,h5,h6⟩:=List.nodup_append.1 h1;exact⟨fun i hi hm=>h6 i hi i hm rfl,fun i hi hm=>h3 i (List.mem_append_right _ hm) i hi rfl,h5,a.tr.root_mem⟩
theorem WayAt.put (a:WayAt rd h D root k L P 0 q nd A M B P1 PM P2) (hs:Srt L) (hn:P.Nodup) (hk:nd.keys.contains k=false) (hf:nd.keys.length+1≤2*h - 1) {v:Int}
  (h1:rd' q=some ⟨insI nd.keys (atI nd.keys k) k,insI nd.vals (atI nd.keys k) v,[]⟩) (h2:∀i∈P,i≠q→rd' i=rd i):Tr rd' h D root (putL L k v) P:=by
 obtain⟨e1,e2,e3,e4⟩:=a.apart hn;have hks:=a.tr.keys a.nd (a.srt hs);have hm:=putL_mid (M:=M) (v:=v) a.ctx.lt a.ctx.gt;rw[←a.l] at hm;obtain⟨nd',g1,g2,g3,g4,g5,g6⟩:=a.tr;rw[a.nd] at g1
 cases g1
 have hl1:=insI_len (l:=nd.keys) k (atI_le nd.keys k);have hl2:=insI_len (l:=nd.vals) (i:=atI nd.keys k) v (by rw[g3];exact atI_le _ _);have ht:Tr rd' h 0 q (putL M k v) PM:=⟨_,h1,rfl,by simp only;omega,by simp only;omega,by rw[g5];exact(leaf_put g3 hks hk v).symm,g6⟩
 have:=a.ctx.plug rd' _ _ (fun i hi=>h2 i (by rw[a.p];simp[hi]) fun e=>e1 i hi (e▸e4)) (fun i hi=>h2 i (by rw[a.p];simp[hi]) fun e=>e2 i hi (e▸e4)) ht (by
  rcases a.occ with e | e
  ·left;rw[nk_eq h1];rw[nk_eq a.nd] at e;simp only;omega
  ·exact .inr e)
 rw[hm,a.p];exact this
theorem Tr.free (t:Tr rd h d q M PM) (hn:rd q=some nd) (hk:∀x∈M,x.1≠k):nd.keys.contains k=false:=by
 have hsub:nd.vals.length=nd.keys.length∧nd.kvs.Sublist M:=by
  cases d with
  | zero=>obtain⟨nd',h1,h2,h3,h4,rfl,h6⟩:=t;rw[hn] at h1;cases h1;exact⟨h3,List.Sublist.refl _⟩
  | succ d=>obtain⟨nd',P',h1,h2,h3,h4,h5,h6⟩:=t;rw[hn] at h1;cases h1;exact⟨h2,h5.sub⟩
 cases hc:nd.keys.contains k with
 | false=>rfl
 | true=>
  rw[List.contains_iff_mem,←kvs_keys hsub.1] at hc;obtain⟨x,hx,rfl⟩:=List.mem_map.1 hc;exact absurd rfl (hk x (hsub.2.subset hx))
theorem WayAt.split (a:WayAt rd h D root k L P (d+1) q nd A M B P1 PM P2) (hn:P.Nodup) (hh:2≤h) {i c:Nat} (hi:nd.kids[i]? =some c) (hc:rd c=some kd) (hf:kd.keys.length=2*h - 1) (hnf:nd.keys.length+1≤2*h - 1) (hr:r∉P) :
  ∃k0 v0,kd.keys[h - 1]? =some k0∧kd.vals[h - 1]? =some v0∧∀rd',rd' c=some (kd.lo h)→rd' r=some (kd.hi h)→rd' q=some (nd.ins i k0 v0 r)→(∀j∈P,j≠c→j≠q→rd' j=rd j)→
   ∃P' PM',WayAt rd' h D root k L P' (d+1) q (nd.ins i k0 v0 r) A M B P1 PM' P2∧P'.Perm (r :: P):=by
 obtain⟨e1,e2,e3,e4⟩:=a.apart hn;obtain⟨nd',P0,g1,g2,g3,g4,g5,rfl⟩:=a.tr;rw[a.nd] at g1
 cases g1
 have hq:=List.nodup_cons.1 e3;have hcl:=g5.len;rw[kvs_len g2] at hcl;have hil:=(List.getElem?_eq_some_iff.1 hi).1
 have hcP:c∈P0:=by
  obtain⟨M',Q,t1,t2⟩:=g5.mem (List.mem_of_getElem? hi);exact t2 c t1.1.root_mem
 have hr0:r∉P0:=fun e=>hr (by rw[a.p];simp[e]);obtain⟨k0,hk0⟩:∃k0,kd.keys[h - 1]? =some k0:=⟨_,List.getElem?_eq_getElem (by omega)⟩
 have hkv:kd.vals.length=kd.keys.length:=by
  obtain⟨M',Q,t1,t2⟩:=g5.mem (List.mem_of_getElem? hi);obtain⟨n',u1,u2, -⟩:=t1.1.node;rw[hc] at u1;cases u1;exact u2
 obtain⟨v0,hv0⟩:∃v0,kd.vals[h - 1]? =some v0:=⟨_,List.getElem?_eq_getElem (by omega)⟩;refine⟨k0,v0,hk0,hv0,fun rd' f1 f2 f3 f4=>?_⟩;have g5':Fr (Tc rd h d) nd.kids nd.kvs M P0:=g5;obtain⟨k1,v1,P',t1,t2,t3,t4⟩:=Fr.split (rd':=rd') (r:=r) g5' g2 hi hc hh hf hq.2 hr0 f1 f2 fun j hj hjc=>f4 j (by rw[a.p];simp[hj]) hjc fun e=>hq.1 (e▸hj)
 rw[hk0] at t1;cases t1;rw[hv0] at t2;cases t2;have l1:=insI_len (l:=nd.keys) (i:=i) k0 (by omega);have l2:=insI_len (l:=nd.vals) (i:=i) v0 (by omega);have hP1:∀j∈P1,rd' j=rd j:=fun j hj=>f4 j (by rw[a.p];simp[hj]) (fun e=>e1 j hj (e▸List.mem_cons_of_mem _ hcP)) fun e=>e1 j hj (e▸e4)
 have hP2:∀j∈P2,rd' j=rd j:=fun j hj=>f4 j (by rw[a.p];simp[hj]) (fun e=>e2 j hj (e▸List.mem_cons_of_mem _ hcP)) fun e=>e2 j hj (e▸e4);have htr:Tr rd' h (d+1) q M (q :: P'):=⟨_,P',f3,by simp only[Nd.ins];omega,by simp only[Nd.ins];omega,by simp only[Nd.ins];omega,t3,rfl⟩
 refine⟨P1++(q :: P')++P2,q :: P',⟨f3,a.ctx.frame hP1 hP2,htr,?_,a.l,rfl⟩,?_⟩
 ·rcases a.occ with e | e
  ·left;rw[nk_eq f3];rw[nk_eq a.nd] at e;simp only[Nd.ins];omega
  ·exact .inr e
 ·rw[a.p]
  have s1:(P1++(q :: P')++P2).Perm (P1++(q :: r :: P0)++P2):=((t4.cons q).append_left P1).append_right P2;refine s1.trans ?_;have s2:=List.perm_middle (l₁:=P1++[q]) (a:=r) (l₂:=P0++P2);simpa using s2
theorem Tr.grow {c:Nat} (t:Tr rd h D root L P) (hn:P.Nodup) (hh:2≤h) (hc:rd root=some kd) (hf:kd.keys.length=2*h - 1) (hcP:c∉P) (hrP:r∉P) (hcr:c≠r) :
  ∃k0 v0,kd.keys[h - 1]? =some k0∧kd.vals[h - 1]? =some v0∧∀rd',rd' c=some (kd.lo h)→rd' r=some (kd.hi h)→rd' root=some (Nd.ins ⟨[],[],[c]⟩ 0 k0 v0 r)→(∀j∈P,j≠root→rd' j=rd j)→
   ∃P',Tr rd' h (D+1) root L P'∧P'.Perm (r :: c :: P):=by
 obtain⟨rd0,hrd0⟩:∃f:Nat→Option Nd,f=fun j=>if j=c then some kd else rd j:=⟨_,rfl⟩;have r0:rd0 c=some kd:=by rw[hrd0];simp
 have r1:∀j,j≠c→rd0 j=rd j:=fun j hj=>by rw[hrd0];simp[hj]
 obtain⟨P0,hP0,t0⟩:∃P0,P=root :: P0∧Tr rd0 h D c L (c :: P0):=by
  cases D with
  | zero=>
   obtain⟨nd',g1,g2,g3,g4,g5,rfl⟩:=t;rw[hc] at g1
   cases g1
   exact⟨[],rfl,kd,r0,g2,g3,g4,g5,rfl⟩
  | succ D=>
   obtain⟨nd',P',g1,g2,g3,g4,g5,rfl⟩:=t;rw[hc] at g1
   cases g1
   exact⟨P',rfl,kd,P',r0,g2,g3,g4,g5.mono fun e M Q he hQ=>Tc.frame he fun i hi=>r1 i fun e=>hcP (e▸List.mem_cons_of_mem _ (hQ i hi)),rfl⟩
 subst hP0;have hq:=List.nodup_cons.1 hn;have hcr0:c≠root:=fun e=>hcP (by simp[e]);have f:Fr (Tc rd0 h D) (Nd.kids ⟨[],[],[c]⟩) (Nd.kvs ⟨[],[],[c]⟩) L (c :: P0):=Fr.one ⟨t0,by rw[nk_eq r0];omega⟩
 have hk:kd.vals.length=kd.keys.length:=by
  obtain⟨n',u1,u2, -⟩:=t.node;rw[hc] at u1;cases u1;exact u2
 obtain⟨k0,hk0⟩:∃k0,kd.keys[h - 1]? =some k0:=⟨_,List.getElem?_eq_getElem (by omega)⟩;obtain⟨v0,hv0⟩:∃v0,kd.vals[h - 1]? =some v0:=⟨_,List.getElem?_eq_getElem (by omega)⟩;refine⟨k0,v0,hk0,hv0,fun rd' f1 f2 f3 f4=>?_⟩;have hcP0:c∉P0:=fun e=>hcP (List.mem_cons_of_mem _ e);have hrP0:r∉P0:=fun e=>hrP (List.mem_cons_of_mem _ e)
 obtain⟨k1,v1,P',t1,t2,t3,t4⟩:=Fr.split (nd:=⟨[],[],[c]⟩) (i:=0) (q:=c) (rd':=rd') (r:=r) f rfl rfl r0 hh hf (List.nodup_cons.2 ⟨hcP0,hq.2⟩) (by simp;exact⟨fun e=>hcr e.symm,hrP0⟩) f1 f2 fun j hj hjc=>by
  rcases List.mem_cons.1 hj with e | e
  ·exact absurd e hjc
  ·rw[r1 j hjc]
   exact f4 j (List.mem_cons_of_mem _ e) fun e2=>hq.1 (e2▸e)
 rw[hk0] at t1;cases t1;rw[hv0] at t2;cases t2;refine⟨root :: P',⟨_,P',f3,rfl,by simp[Nd.ins,insI];omega,by simp[Nd.ins,insI],t3,rfl⟩,?_⟩;have s1:(root :: P').Perm (root :: r :: c :: P0):=t4.cons root;refine s1.trans ?_;have s2:=List.perm_middle (l₁:=[r,c]) (a:=root) (l₂:=P0);have s3:(root :: r :: c :: P0).Perm (r :: c :: root :: P0):=by simpa using s2.symm
 exact s3
theorem Fr.two {R:Nat→List KV→List Nat→Prop} {ks:List Nat} {kv M:List KV} {Q:List Nat} {n:Nat} (f:Fr R ks kv M Q) (hk:1≤kv.length) (hR:∀q M P,R q M P→n≤M.length):2*n+1≤M.length:=by
 have hall:∀ {ks kv M Q},Fr R ks kv M Q→n≤M.length:=by
  intro ks kv M Q f
  cases f with
  | one h1=>exact hR _ _ _ h1
  | cons h1 h2=>have:=hR _ _ _ h1;simp;omega
 cases f with
 | one h1=>simp at hk
 | cons h1 h2=>have:=hR _ _ _ h1;have:=hall h2;simp;omega
theorem Tc.deep (hh:2≤h):∀ {d q L P},Tc rd h d q L P→2 ^ (d+1)≤L.length+1
 | 0,q,L,P,⟨⟨nd,h1,h2,h3,h4,h5,h6⟩,h7⟩=>by
  subst h5;rw[nk_eq h1] at h7;rw[kvs_len h3];simp only[Nat.zero_add,Nat.pow_one]
  omega
 | d+1,q,L,P,⟨⟨nd,P',h1,h2,h3,h4,h5,h6⟩,h7⟩=>by
  have:=h5.two (n:=2 ^ (d+1) - 1) (by rw[kvs_len h2];exact h4) fun c M Q hc=>by have:=Tc.deep hh hc;omega
  have hp:0< 2 ^ (d+1):=Nat.pow_pos (by omega);rw[Nat.pow_succ];omega
theorem Tr.deep (hh:2≤h) (t:Tr rd h d q L P):d=0∨2 ^ (d+1)≤L.length+1:=by
 cases d with
 | zero=>exact .inl rfl
 | succ d=>
  obtain⟨nd,P',h1,h2,h3,h4,h5,h6⟩:=t;have:=h5.two (n:=2 ^ (d+1) - 1) (by rw[kvs_len h2];exact h4) fun c M Q hc=>by have:=Tc.deep hh hc;omega
  have hp:0< 2 ^ (d+1):=Nat.pow_pos (by omega);right
  rw[Nat.pow_succ];omega
end
end
section
theorem Fr.pg {R:Nat→List KV→List Nat→Prop} {ks:List Nat} {kv L:List KV} {P:List Nat} (h:Fr R ks kv L P) {i:Nat} (hi:i∈P):∃q M Q,R q M Q∧i∈Q:=by
 induction h with
 | one h1=>exact⟨_,_,_,h1,hi⟩
 | cons h1 _ ih=>
  rcases List.mem_append.1 hi with e | e
  ·exact⟨_,_,_,h1,e⟩
  ·exact ih e
theorem Tr.all {rd:Nat→Option Nd} {h:Nat}:∀ {d q:Nat} {L:List KV} {P:List Nat},Tr rd h d q L P→∀i∈P,∃nd,rd i=some nd
 | 0,q,L,P,⟨nd,h1,_,_,_,_,h6⟩,i,hi=>by
  subst h6;rw[List.mem_singleton] at hi
  exact⟨nd,hi▸h1⟩
 | d+1,q,L,P,⟨nd,P',h1,_,_,_,h5,h6⟩,i,hi=>by
  subst h6;rcases List.mem_cons.1 hi with e | e
  ·exact⟨nd,e▸h1⟩
  ·obtain⟨c,M,Q,g1,g2⟩:=h5.pg e
   exact Tr.all g1.1 i g2
structure TS (x:Rp) (D root:Nat) (L:List KV) (P:List Nat):Prop where
 tr:Tr x.nd (halfN x.sz) D root L P
 nd:P.Nodup
 srt:Srt L
 used:x.now.countP Pk.used=P.length
theorem TS.pgs {x:Rp} {D root:Nat} {L:List KV} {P:List Nat} (h:TS x D root L P):∀i∈P,∃c,x.now[i]? =some c∧c.used=true:=fun i hi=>by
 obtain⟨nd,h1⟩:=h.tr.all i hi;obtain⟨c,h2,h3, -⟩:=Rp.nd_some h1;exact⟨c,h2,h3⟩
theorem TS.new {x:Rp} {D root r:Nat} {L:List KV} {P:List Nat} (h:TS x D root L P) (hr:x.now[r]? =some .no):r∉P:=fun hi=>by
 obtain⟨c,h2,h3⟩:=h.pgs r hi;rw[hr] at h2
 cases h2
 cases h3
theorem putL_srt {L:List KV} (hs:Srt L) (k v:Int):Srt (putL L k v):=by
 unfold putL;refine srt_app.2 ⟨hs.sub List.filter_sublist,List.pairwise_cons.2 ⟨fun x hx=>?_,hs.sub List.filter_sublist⟩,fun a ha b hb=>?_⟩
 ·have:=(List.mem_filter.1 hx).2;simpa using this
 ·have h1:=(List.mem_filter.1 ha).2
  simp at h1
  rcases List.mem_cons.1 hb with e | e
  ·subst e;exact h1
  ·have h2:=(List.mem_filter.1 e).2
   simp at h2
   omega
theorem delL_srt {L:List KV} (hs:Srt L) (k:Int):Srt (delL L k):=hs.sub List.filter_sublist
theorem filt_le (k:Int):∀ (L:List KV),(L.filter fun x=>decide (x.1< k)).length+(L.filter fun x=>decide (k< x.1)).length≤L.length
 | []=>by simp
 | a :: t=>by
  have ih:=filt_le k t;simp only[List.filter_cons,List.length_cons];by_cases h1:a.1< k
  ·have h2:¬k< a.1:=by omega
   simp only[decide_eq_true h1,decide_eq_false h2,if_true,Bool.false_eq_true,if_false,List.length_cons];omega
  ·by_cases h2:k< a.1
   ·simp only[decide_eq_false h1,decide_eq_true h2,if_true,Bool.false_eq_true,if_false,List.length_cons]
    omega
   ·simp only[decide_eq_false h1,decide_eq_false h2,Bool.false_eq_true,if_false]
    omega
theorem putL_le (L:List KV) (k v:Int):(putL L k v).length≤L.length+1:=by
 have h:=filt_le k L
 have e:(putL L k v).length=(L.filter fun x=>decide (x.1< k)).length+((L.filter fun x=>decide (k< x.1)).length+1):=by
  unfold putL;rw[List.length_append,List.length_cons]
 omega
section
variable {rd rd':Nat→Option Nd} {h D root:Nat} {k:Int} {L:List KV} {P:List Nat} {d q r:Nat} {nd kd:Nd} {A M B:List KV} {P1 PM P2:List Nat}
theorem WayAt.upd (a:WayAt rd h D root k L P d q nd A M B P1 PM P2) (hs:Srt L) (hn:P.Nodup) (hk:nd.keys.contains k=true) {v:Int}
  (h1:rd' q=some { nd with vals:=nd.vals.set (atI nd.keys k) v }) (h2:∀i∈P,i≠q→rd' i=rd i):Tr rd' h D root (putL L k v) P:=by
 obtain⟨e1,e2,e3,e4⟩:=a.apart hn;obtain⟨v0,g1,g2,g3⟩:=a.tr.here a.nd (a.srt hs) hk e3;have hm:=putL_mid (M:=M) (v:=v) a.ctx.lt a.ctx.gt;rw[←a.l] at hm;have ht:=g3 rd' v h1 fun i hi=>h2 i (by rw[a.p];simp[hi])
 have:=a.ctx.plug rd' _ _ (fun i hi=>h2 i (by rw[a.p];simp[hi]) fun e=>e1 i hi (e▸e4)) (fun i hi=>h2 i (by rw[a.p];simp[hi]) fun e=>e2 i hi (e▸e4)) ht (by
  rcases a.occ with e | e
  ·left;rw[nk_eq h1];rw[nk_eq a.nd] at e;exact e
  ·exact .inr e)
 rw[hm,a.p];exact this
theorem WayAt.miss (a:WayAt rd h D root k L P d q nd A M B P1 PM P2) (hk:getK L k=none):nd.keys.contains k=false:=by
 refine a.tr.free a.nd fun x hx e=>?_;have hxL:x∈L:=by rw[a.l];simp[hx]
 unfold getK at hk;rw[Option.map_eq_none_iff,List.find?_eq_none] at hk;exact hk x hxL (by simpa using e)
theorem atI_ins (l:List Int) (i:Nat) (a k:Int):atI (insI l i a) k=atI l k+if a< k then 1 else 0:=by
 unfold atI insI;conv=>rhs;rw[←List.take_append_drop i l]
 rw[List.countP_append,List.countP_append,List.countP_cons];by_cases h:a< k<;>simp[h]<;>omega
theorem insN_at {l:List Nat} {i r c:Nat} (h:l[i]? =some c):(insN l (i+1) r)[i]? =some c∧(insN l (i+1) r)[i+1]? =some r:=by
 have hl:=(List.getElem?_eq_some_iff.1 h).1;unfold insN;constructor
 ·rw[List.getElem?_append_left (by rw[List.length_take];omega),List.getElem?_take_of_lt (by omega),h]
 ·rw[List.getElem?_append_right (by rw[List.length_take];omega),List.length_take,show i+1 - min (i+1) l.length=0 by omega]
  rfl
theorem ins_kid {kd:Nd} {k0 v0:Int} {c:Nat} (hi:nd.kids[atI nd.keys k]? =some c) {e:Nat} (he:(nd.ins (atI nd.keys k) k0 v0 r).kids[atI (nd.ins (atI nd.keys k) k0 v0 r).keys k]? =some e):e=c∨e=r:=by
 have h1:=insN_at (r:=r) hi;simp only[Nd.ins] at he;rw[atI_ins] at he;split at he
 ·rw[h1.2] at he;cases he;exact .inr rfl
 ·have he2:(insN nd.kids (atI nd.keys k+1) r)[atI nd.keys k]? =some e:=he
  rw[h1.1] at he2;cases he2;exact .inl rfl
theorem Nd.lo_fit {sz h:Nat} (f:kd.Fit sz) (hh:1≤h) (hf:kd.keys.length=2*h - 1):(kd.lo h).Fit sz:=by
 have hv:=f.vals;have hm:=f.most;refine⟨by simp[Nd.lo,hv],by simp[Nd.lo];omega,?_,fun k hk=>f.ki k (List.mem_of_mem_take hk),fun k hk=>f.vi k (List.mem_of_mem_take hk),fun k hk=>f.ci k (List.mem_of_mem_take hk)⟩;rcases f.kids with e | e
 ·left;simp[Nd.lo,e]
 ·right;simp[Nd.lo,e];omega
theorem Nd.hi_fit {sz h:Nat} (f:kd.Fit sz) (hh:1≤h) (hf:kd.keys.length=2*h - 1):(kd.hi h).Fit sz:=by
 have hv:=f.vals;have hm:=f.most;refine⟨by simp[Nd.hi,hv],by simp[Nd.hi];omega,?_,fun k hk=>f.ki k (List.mem_of_mem_drop hk),fun k hk=>f.vi k (List.mem_of_mem_drop hk),fun k hk=>f.ci k (List.mem_of_mem_drop hk)⟩;rcases f.kids with e | e
 ·left;simp[Nd.hi,e]
 ·right;simp[Nd.hi,e];omega
theorem insI_mem {l:List Int} {i:Nat} {a b:Int} (h:b∈insI l i a):b=a∨b∈l:=by
 unfold insI at h;rcases List.mem_append.1 h with e | e
 ·exact .inr (List.mem_of_mem_take e)
 ·rcases List.mem_cons.1 e with e | e
  ·exact .inl e
  ·exact .inr (List.mem_of_mem_drop e)
theorem insN_mem {l:List Nat} {i a b:Nat} (h:b∈insN l i a):b=a∨b∈l:=by
 unfold insN at h;rcases List.mem_append.1 h with e | e
 ·exact .inr (List.mem_of_mem_take e)
 ·rcases List.mem_cons.1 e with e | e
  ·exact .inl e
  ·exact .inr (List.mem_of_mem_drop e)
theorem insN_len {l:List Nat} {i:Nat} (a:Nat) (h:i≤l.length):(insN l i a).length=l.length+1:=by simp[insN];omega
theorem Nd.ins_fit {sz i:Nat} {k0 v0:Int} (hv:nd.vals.length=nd.keys.length) (hc:nd.kids.length=nd.keys.length+1) (hki:∀k∈nd.keys,i64 k) (hvi:∀k∈nd.vals,i64 k) (hci:∀c∈nd.kids,c< 65536) (hm:nd.keys.length+1≤mostN sz) (hi:i≤nd.keys.length) (hk0:i64 k0) (hv0:i64 v0) (hr:r< 65536):(nd.ins i k0 v0 r).Fit sz:=by
 have l1:=insI_len (l:=nd.keys) (i:=i) k0 hi;have l2:=insI_len (l:=nd.vals) (i:=i) v0 (by omega);have l3:=insN_len (l:=nd.kids) (i:=i+1) r (by omega)
 exact⟨by simp only[Nd.ins];omega,by simp only[Nd.ins];omega,.inr (by simp only[Nd.ins];omega),fun k hk=>(insI_mem hk).elim (fun e=>e▸hk0) (hki k),fun k hk=>(insI_mem hk).elim (fun e=>e▸hv0) (hvi k),fun k hk=>(insN_mem hk).elim (fun e=>e▸hr) (hci k)⟩
end
def Rp.splitP (x:Rp) (r qk qn:Nat) (hi lo pn:Nd):Rp:=(((x.put r .zero).put r (.new (ndL hi x.sz))).put qk (.new (ndL lo x.sz))).put qn (.new (ndL pn x.sz))
section
variable {x:Rp} {r qk qn:Nat} {hi lo pn:Nd}
theorem Rp.splitP_like:x.like (x.splitP r qk qn hi lo pn):=((x.put_like _ _).trans ((Rp.put_like _ _ _).trans (Rp.put_like _ _ _))).trans (Rp.put_like _ _ _)
theorem Rp.splitP_nd (hr:r< x.now.length) (hk:qk< x.now.length) (hn:qn< x.now.length) (h1:hi.Fit x.sz) (h2:lo.Fit x.sz) (h3:pn.Fit x.sz) (hz:x.sz≤4096) (e1:r≠qk) (e2:r≠qn) (e3:qk≠qn) :
  (x.splitP r qk qn hi lo pn).nd r=some hi∧(x.splitP r qk qn hi lo pn).nd qk=some lo∧(x.splitP r qk qn hi lo pn).nd qn=some pn∧∀i,i≠r→i≠qk→i≠qn→(x.splitP r qk qn hi lo pn).nd i=x.nd i:=by
 unfold Rp.splitP;refine⟨?_,?_,?_,fun i i1 i2 i3=>?_⟩
 ·rw[Rp.nd_other e2,Rp.nd_other e1]
  exact Rp.nd_new (x:=x.put r .zero) h1 (by rw[Rp.put_len];exact hr) hz
 ·rw[Rp.nd_other e3]
  exact Rp.nd_new (x:=(x.put r .zero).put r (.new (ndL hi x.sz))) h2 (by rw[Rp.put_len,Rp.put_len];exact hk) hz
 ·exact Rp.nd_new (x:=((x.put r .zero).put r (.new (ndL hi x.sz))).put qk (.new (ndL lo x.sz))) h3 (by rw[Rp.put_len,Rp.put_len,Rp.put_len];exact hn) hz
 ·rw[Rp.nd_other i3,Rp.nd_other i2,Rp.nd_other i1,Rp.nd_other i1]
theorem Rp.put_usedU {x:Rp} {q:Nat} {c c0:Pk} (h:x.now[q]? =some c0) (h0:c0.used=true) (h1:c.used=true):(x.put q c).now.countP Pk.used=x.now.countP Pk.used:=by
 have:=Rp.put_used (c:=c) h;rw[h0,h1] at this;simp at this
 exact this
theorem Rp.put_usedN {x:Rp} {q:Nat} {c:Pk} (h:x.now[q]? =some .no) (h1:c.used=true):(x.put q c).now.countP Pk.used=x.now.countP Pk.used+1:=by
 have:=Rp.put_used (c:=c) h;rw[h1] at this;simp[Pk.used] at this
 exact this
theorem Rp.put_same {x:Rp} {q i:Nat} {c c0:Pk} (h:x.now[i]? =some c0) (h0:c0.used=true) (h1:c.used=true):∃c',(x.put q c).now[i]? =some c'∧c'.used=true:=by
 by_cases e:i=q
 ·subst e
  exact⟨c,by rw[Rp.put_at (List.getElem?_eq_some_iff.1 h).1,if_pos rfl],h1⟩
 ·refine⟨c0,?_,h0⟩
  unfold Rp.put;simp only;rw[List.getElem?_set_ne (Ne.symm e)];exact h
theorem Rp.splitP_used {ck cn:Pk} (hr:x.now[r]? =some .no) (hk:x.now[qk]? =some ck) (hk2:ck.used=true) (hn:x.now[qn]? =some cn) (hn2:cn.used=true):(x.splitP r qk qn hi lo pn).now.countP Pk.used=x.now.countP Pk.used+1:=by
 have u1:=Rp.put_usedN (c:= .zero) hr rfl;have l1:=(List.getElem?_eq_some_iff.1 hr).1;have r1:(x.put r .zero).now[r]? =some .zero:=by rw[Rp.put_at l1,if_pos rfl]
 have u2:=Rp.put_usedU (c:= .new (ndL hi x.sz)) r1 rfl rfl;obtain⟨c1,k1,k1u⟩:=Rp.put_same (q:=r) (c:= .zero) hk hk2 rfl;obtain⟨c2,k2,k2u⟩:=Rp.put_same (q:=r) (c:= .new (ndL hi x.sz)) k1 k1u rfl;obtain⟨c3,n1,n1u⟩:=Rp.put_same (q:=r) (c:= .zero) hn hn2 rfl;obtain⟨c4,n2,n2u⟩:=Rp.put_same (q:=r) (c:= .new (ndL hi x.sz)) n1 n1u rfl
 have u3:=Rp.put_usedU (c:= .new (ndL lo x.sz)) k2 k2u rfl;obtain⟨c5,n3,n3u⟩:=Rp.put_same (q:=qk) (c:= .new (ndL lo x.sz)) n2 n2u rfl;have u4:=Rp.put_usedU (c:= .new (ndL pn x.sz)) n3 n3u rfl;unfold Rp.splitP;omega
end
end
section
open Go.RowKit Go.Maps
theorem Sl.take {w:World} {A:Option Addr} {n m:Nat} {xs:List Value} (h:Sl w 1 A n xs) (hm:m≤n):Sl w 1 A m (xs.take m):=by
 have hx:=h.1;refine⟨by rw[List.length_take];omega,fun h0=>?_⟩;obtain⟨b,o,e,hb,hc⟩:=h.2 (by omega);refine⟨b,o,e,hb,fun j u hu=>hc j u ?_⟩;rw[List.getElem?_take] at hu;split at hu
 ·exact hu
 ·cases hu
theorem iv_take (l:List Int) (m:Nat):iv (l.take m)=(iv l).take m:=by simp[iv]
theorem nv_take (l:List Nat) (m:Nat):nv (l.take m)=(nv l).take m:=by simp[nv]
theorem iv_drop (l:List Int) (m:Nat):iv (l.drop m)=(iv l).drop m:=by simp[iv]
theorem nv_drop (l:List Nat) (m:Nat):nv (l.drop m)=(nv l).drop m:=by simp[nv]
theorem nv_ivm (l:List Nat):nv l=iv (l.map Int.ofNat):=by simp[nv,iv]
theorem nv_insN (l:List Nat) (i r:Nat):nv (insN l i r)=iv (insI (l.map Int.ofNat) i (r:Int)):=by
 rw[nv_ivm];congr 1
 unfold insN insI;rw[List.map_append,List.map_cons,List.map_take,List.map_drop];rfl
theorem nd_lo {W:World} {N:Nat→Prop} {bk qk gk gv ck cv h cc m:Nat} {Ac:Option Addr} {kd:Nd} (hb:Blk W bk 73 #[.int .i64 qk,.slice (some ⟨gk,0,none⟩) (h - 1) ck,.slice (some ⟨gv,0,none⟩) (h - 1) cv,.slice Ac m cc])
  (h1:Sl W 1 (some ⟨gk,0,none⟩) kd.keys.length (iv kd.keys)) (h2:Sl W 1 (some ⟨gv,0,none⟩) kd.vals.length (iv kd.vals)) (h3:Sl W 1 Ac kd.kids.length (nv kd.kids))
  (l1:h - 1≤kd.keys.length) (l2:h - 1≤kd.vals.length) (l3:m=(kd.kids.take h).length)
  (n1:N bk) (n2:N gk) (n3:N gv) (n4:∀a,Ac=some a→N a.block) (n5:∀j,N j→j< W.heap.size):NdAt W N bk qk (kd.lo h):=by
 have e1:(kd.lo h).keys.length=h - 1:=by simp[Nd.lo];omega
 have e2:(kd.lo h).vals.length=h - 1:=by simp[Nd.lo];omega
 have e3:(kd.lo h).kids.length=m:=l3.symm;refine⟨some ⟨gk,0,none⟩,ck,some ⟨gv,0,none⟩,cv,Ac,cc,?_,?_,?_,?_,n1,fun a ha=>by cases ha;exact n2,fun a ha=>by cases ha;exact n3,n4,n5⟩
 ·rw[e1,e2,e3];exact hb
 ·rw[e1];have:=h1.take l1;rw[←iv_take] at this;exact this
 ·rw[e2];have:=h2.take l2;rw[←iv_take] at this;exact this
 ·have h4:=h3.take (m:=m) (by rw[l3,List.length_take];omega)
  rw[e3]
  have e4:(nv kd.kids).take m=nv (kd.lo h).kids:=by
   show _=nv (kd.kids.take h);rw[nv_take,l3,List.length_take];by_cases e:h≤kd.kids.length
   ·rw[Nat.min_eq_left e]
   ·rw[Nat.min_eq_right (by omega),List.take_of_length_le (by rw[nv_len];exact Nat.le_refl _),List.take_of_length_le (by rw[nv_len];omega)]
  rw[e4] at h4;exact h4
def FullG (G:Nat→Prop) (w w':World) (t p root:Nat) (F:Nat→Prop) (x:Rp) (m:Nat):Prop:=
 ∃z F',BT w' t p root F' z∧Chg G w w'∧(∀j,F' j→F j∨w.heap.size≤j)∧x.like z∧z.now.countP Pk.used≤x.now.countP Pk.used+m∧¬ (1≤z.slack∧Pk.no∈z.now)
def SplOut (G:Nat→Prop) (w w':World) (t p root bn qn i qk h:Nat) (F N1:Nat→Prop) (x:Rp) (nd kd:Nd) (e:Ending):Prop:=
 (e= .returned (.int .i64 0)∧∃r k0 v0 F' N',x.now[r]? =some .no∧kd.keys[h - 1]? =some k0∧kd.vals[h - 1]? =some v0∧BT w' t p root F' (x.splitP r qk qn (kd.hi h) (kd.lo h) (nd.ins i k0 v0 r))∧Chg G w w'∧(∀j,F' j→F j∨w.heap.size≤j)∧
  NdOwn w' N' bn qn (nd.ins i k0 v0 r)∧(∀j,N' j→¬F' j)∧(∀j,N' j→N1 j∨w.heap.size≤j)∧(kd.hi h).Fit x.sz∧(kd.lo h).Fit x.sz∧(nd.ins i k0 v0 r).Fit x.sz)∨
 (e= .returned (.int .i64 21)∧FullG G w w' t p root F x 1)
theorem split_end {w W:World} {t p root bn bk R g r qn qk i h c:Nat} {F F1 N1 N13 N2 NR G:Nat→Prop} {x:Rp} {nd kd:Nd} {k0 v0:Int} {cn ck:Pk}
  (hbt:BT W t p root F1 (x.put r .zero)) (ho:x.was≠none) (hr:x.now[r]? =some .no) (hqk:x.now[qk]? =some ck) (hqk2:ck.used=true) (hqn:x.now[qn]? =some cn) (hqn2:cn.used=true)
  (hn:NdOwn W N13 bn qn (nd.ins i k0 v0 r)) (hnF:∀j,N13 j→¬F1 j) (fn:(nd.ins i k0 v0 r).Fit x.sz)
  (hk:NdAt W N2 bk qk (kd.lo h)) (hkF:∀j,N2 j→¬F1 j) (fk:(kd.lo h).Fit x.sz)
  (hR:NdAt W NR R r (kd.hi h)) (hRF:∀j,NR j→¬F1 j) (fr:(kd.hi h).Fit x.sz)
  (hs:Sl W 1 (some ⟨g,0,none⟩) 3 [.pointer (some ⟨R,0,none⟩),.pointer (some ⟨bk,0,none⟩),.pointer (some ⟨bn,0,none⟩)]) (hg:¬F1 g)
  (hc:Chg G w W) (hF1:∀j,F1 j→F j∨w.heap.size≤j) (hGF:∀j,F j→G j) (hN13:∀j,N13 j→N1 j∨w.heap.size≤j) (hk0:kd.keys[h - 1]? =some k0) (hv0:kd.vals[h - 1]? =some v0) :
  Calls prog 88 #[.pointer (some ⟨t,0,none⟩),.slice (some ⟨g,0,none⟩) 3 c] W fun e w'=>SplOut G w w' t p root bn qn i qk h F N1 x nd kd e:=by
 have hgW:g< W.heap.size:=by obtain⟨b,o,e,hb, -⟩:=hs.2 (by omega);cases e;exact hb
 obtain⟨c1,k1,k1u⟩:=Rp.put_same (q:=r) (c:= .zero) hqk hqk2 rfl;obtain⟨c2,n1,n1u⟩:=Rp.put_same (q:=r) (c:= .zero) hqn hqn2 rfl;have r1:(x.put r .zero).now[r]? =some .zero:=by rw[Rp.put_at (List.getElem?_eq_some_iff.1 hr).1,if_pos rfl]
 have hal:=ball_any t p root g 3 c F1 (x.put r .zero) [⟨R,NR,r,kd.hi h⟩,⟨bk,N2,qk,kd.lo h⟩,⟨bn,N13,qn,nd.ins i k0 v0 r⟩] W hbt ho (fun it hit=>by
  simp only[List.mem_cons,List.not_mem_nil,or_false] at hit;rcases hit with rfl | rfl | rfl
  ·exact⟨hR,fr,⟨_,r1,rfl⟩,hRF⟩
  ·exact⟨hk,fk,⟨_,k1,k1u⟩,hkF⟩
  ·exact⟨hn.at,fn,⟨_,n1,n1u⟩,hnF⟩) rfl (by omega) hs hg hgW
 refine hal.mono ?_;have hz:=hc.size;have hnlt:=hn.at.lt;rintro e w' (⟨rfl,F2,h1,h2,h3⟩ | ⟨rfl,z,⟨F2,h1,h2,h3⟩,h4,h5,h6⟩)
 ·refine .inl ⟨rfl,r,k0,v0,F2,N13,hr,hk0,hv0,h1,Chg.trans hc h2 fun j hj e=>hGF j ((hF1 j e).resolve_right (by omega)),fun j hj=>(h3 j hj).elim (hF1 j) fun e=> .inr (by omega),hn.chg h2 hnF,fun j hj e=>(h3 j e).elim (hnF j hj) fun e=>by have:=hnlt j hj;omega,hN13,fr,fk,fn⟩
 ·refine .inr ⟨rfl,z,F2,h1,Chg.trans hc h2 fun j hj e=>hGF j ((hF1 j e).resolve_right (by omega)),fun j hj=>(h3 j hj).elim (hF1 j) fun e=> .inr (by omega),(x.put_like _ _).trans h4,?_,h6⟩
  have:=Rp.put_usedN (c:= .zero) hr rfl;omega
theorem split_fin {w W:World} {t p root bn bk R r qn qk i h gk gv ck cv cc m:Nat} {Ac:Option Addr} {F F1 N1 N13 N2 NR G:Nat→Prop} {x:Rp} {nd kd:Nd} {k0 v0:Int} {cn cq:Pk}
  (hbt:BT W t p root F1 (x.put r .zero)) (ho:x.was≠none) (hr:x.now[r]? =some .no) (hqk:x.now[qk]? =some cq) (hqk2:cq.used=true) (hqn:x.now[qn]? =some cn) (hqn2:cn.used=true)
  (hn:NdOwn W N13 bn qn (nd.ins i k0 v0 r)) (hnF:∀j,N13 j→¬F1 j) (fn:(nd.ins i k0 v0 r).Fit x.sz)
  (hb:Blk W bk 73 #[.int .i64 qk,.slice (some ⟨gk,0,none⟩) (2*h - 1) ck,.slice (some ⟨gv,0,none⟩) (2*h - 1) cv,.slice Ac m cc])
  (h1:Sl W 1 (some ⟨gk,0,none⟩) kd.keys.length (iv kd.keys)) (h2:Sl W 1 (some ⟨gv,0,none⟩) kd.vals.length (iv kd.vals)) (h3:Sl W 1 Ac kd.kids.length (nv kd.kids))
  (l1:h - 1≤kd.keys.length) (l2:h - 1≤kd.vals.length) (l3:m=(kd.kids.take h).length)
  (n1:N2 bk) (n2:N2 gk) (n3:N2 gv) (n4:∀a,Ac=some a→N2 a.block) (n5:∀j,N2 j→j< W.heap.size) (a1:gk≠bk) (a2:gv≠bk) (a3:∀a,Ac=some a→a.block≠bk)
  (hkF:∀j,N2 j→¬F1 j) (h12:∀j,N13 j→¬N2 j) (fk:(kd.lo h).Fit x.sz)
  (hR:NdAt W NR R r (kd.hi h)) (hRF:∀j,NR j→¬F1 j) (hR2:∀j,NR j→¬N2 j) (fr:(kd.hi h).Fit x.sz) (ht:¬N2 t∧¬N2 0)
  (hc:Chg G w W) (hF1:∀j,F1 j→F j∨w.heap.size≤j) (hGF:∀j,F j→G j) (hG2:∀j,N2 j→G j) (hN13:∀j,N13 j→N1 j∨w.heap.size≤j) (hk0:kd.keys[h - 1]? =some k0) (hv0:kd.vals[h - 1]? =some v0) :
  Calls prog 88 #[.pointer (some ⟨t,0,none⟩),.slice (some ⟨W.heap.size,0,none⟩) 3 3] (((W.drew.setCell ⟨bk,1,none⟩ (.slice (some ⟨gk,0,none⟩) (h - 1) ck)).setCell ⟨bk,2,none⟩ (.slice (some ⟨gv,0,none⟩) (h - 1) cv)).alloc (.cells #[.pointer (some ⟨R,0,none⟩),.pointer (some ⟨bk,0,none⟩),.pointer (some ⟨bn,0,none⟩)] 69)) fun e w'=>SplOut G w w' t p root bn qn i qk h F N1 x nd kd e:=by
 obtain⟨W2,hW2⟩:∃W2,(W.drew.setCell ⟨bk,1,none⟩ (.slice (some ⟨gk,0,none⟩) (h - 1) ck)).setCell ⟨bk,2,none⟩ (.slice (some ⟨gv,0,none⟩) (h - 1) cv)=W2:=⟨_,rfl⟩
 have hb2:Blk W2 bk 73 #[.int .i64 qk,.slice (some ⟨gk,0,none⟩) (h - 1) ck,.slice (some ⟨gv,0,none⟩) (h - 1) cv,.slice Ac m cc]:=by
  subst hW2;have:=(hb.drew.put 1 (.slice (some ⟨gk,0,none⟩) (h - 1) ck)).put 2 (.slice (some ⟨gv,0,none⟩) (h - 1) cv);simpa using this
 have hz2:W2.heap.size=W.heap.size:=by subst hW2;simp
 have hc2:Chg (fun j=>j=bk) W W2:=hW2▸(((Chg.refl (fun j=>j=bk) W).drew.setCell (p:=⟨bk,1,none⟩) (fun _=>rfl) _).setCell (p:=⟨bk,2,none⟩) (fun _=>rfl) _);rw[hW2];obtain⟨W3,hW3⟩:∃W3,W2.alloc (.cells #[.pointer (some ⟨R,0,none⟩),.pointer (some ⟨bk,0,none⟩),.pointer (some ⟨bn,0,none⟩)] 69)=W3:=⟨_,rfl⟩;rw[hW3]
 have hg3:Grew W2 W3:=hW3▸(Chg.refl _ _).alloc _;have hc3:Chg (fun j=>j=bk) W W3:=hc2.grew hg3;have hb3:=hb2.grew hg3;have hl3:Blk W3 W.heap.size 69 #[.pointer (some ⟨R,0,none⟩),.pointer (some ⟨bk,0,none⟩),.pointer (some ⟨bn,0,none⟩)]:=by subst hW3;rw[←hz2];exact Blk.new _ _ _
 have hsz:=hc3.size
 refine split_end (hbt.chg hc3 (fun j hj e=>hkF j (e▸n1) hj) (fun e=>ht.2 (e▸n1)) (fun e=>ht.1 (e▸n1))) ho hr hqk hqk2 hqn hqn2 (hn.chg hc3 fun j hj e=>h12 j hj (e▸n1)) hnF fn
  (nd_lo hb3 (h1.chg hc3 fun a ha=>by cases ha;exact a1) (h2.chg hc3 fun a ha=>by cases ha;exact a2) (h3.chg hc3 a3) l1 l2 l3 n1 n2 n3 n4 fun j hj=>Nat.lt_of_lt_of_le (n5 j hj) hsz) hkF fk
  (hR.chg hc3 fun j hj e=>hR2 j hj (e▸n1)) hRF fr ⟨rfl,fun _=>⟨W.heap.size,0,rfl,hl3.lt,fun j u hu=>?_⟩⟩ (fun e=>by have:=hbt.gp.lt _ e;omega) (Chg.trans hc hc3 fun j _ e=>hG2 j (e▸n1)) hF1 hGF hN13 hk0 hv0
 rw[Nat.zero_add,hl3.cell,←hu];simp
end
section
open Go.RowKit Go.Maps
theorem NdOwn.rows {W:World} {N:Nat→Prop} {b q:Nat} {nd:Nd} (h:NdOwn W N b q nd) (h1:0< nd.keys.length) (h2:0< nd.vals.length) :
  ∃gk ck gv cv Ac cc,Blk W b 73 #[.int .i64 q,.slice (some ⟨gk,0,none⟩) nd.keys.length ck,.slice (some ⟨gv,0,none⟩) nd.vals.length cv,.slice Ac nd.kids.length cc]∧Sl W 1 (some ⟨gk,0,none⟩) nd.keys.length (iv nd.keys)∧Sl W 1 (some ⟨gv,0,none⟩) nd.vals.length (iv nd.vals)∧Sl W 1 Ac nd.kids.length (nv nd.kids)∧N b∧N gk∧N gv∧(∀a,Ac=some a→N a.block∧a.off=0∧a.spot=none)∧(nd.keys.length≤ck∧nd.vals.length≤cv∧nd.kids.length≤cc)∧gk≠b∧gv≠b∧∀a,Ac=some a→a.block≠b:=by
 obtain⟨Ak,ck,Av,cv,Ac,cc,b1,b2,b3,b4,b5,b6,b7,b8, -⟩:=h;obtain⟨gk,rfl, -⟩:=own_block b2 h1;obtain⟨gv,rfl, -⟩:=own_block b3 h2;have k1:nd.keys.length≤ck:=by obtain⟨cur, -, -,h3, -⟩:=own_row b2;exact h3
 have k2:nd.vals.length≤cv:=by obtain⟨cur, -, -,h3, -⟩:=own_row b3;exact h3
 have k3:nd.kids.length≤cc:=by obtain⟨A',c',e,h3⟩:=own_shape b4;cases e;exact h3
 refine⟨gk,ck,gv,cv,Ac,cc,b1,Sl.of_own b2,Sl.of_own b3,Sl.of_own b4,b5,b6 _ rfl,b7 _ rfl,fun a ha=>⟨b8 a ha,?_⟩,⟨k1,k2,k3⟩,fun e=>own_blk_ne b2 b1 (by decide) (by rw[own_blockOf b2 _ rfl,e]),fun e=>own_blk_ne b3 b1 (by decide) (by rw[own_blockOf b3 _ rfl,e]),fun a ha e=>own_blk_ne b4 b1 (by decide) (by rw[own_blockOf b4 a ha,e])⟩;subst ha
 obtain⟨g,rfl, -⟩:=own_some b4;exact⟨rfl,rfl⟩
theorem bsplit_any (t p root bn qn i bk qk h:Nat) (F N1 N2:Nat→Prop) (x:Rp) (nd kd:Nd) (w:World) (hs:Sp w t p root F x N1 N2 bk qk kd) (hn:NdOwn w N1 bn qn nd) (hh:halfN x.sz=h) (h2:2≤h) (ho:x.was≠none)
  (hf:kd.keys.length=2*h - 1) (hkv:kd.vals.length=2*h - 1) (hkc:kd.kids.length=0∨kd.kids.length=2*h) (hnl:nd.keys.length+1≤2*h - 1) (hnv:nd.vals.length=nd.keys.length) (hnc:nd.kids.length=nd.keys.length+1) (hi:i≤nd.keys.length)
  (fn:nd.Fit x.sz) (fk:kd.Fit x.sz) (hpn:∃c,x.now[qn]? =some c∧c.used=true) (hpk:∃c,x.now[qk]? =some c∧c.used=true) (h2t:¬N2 t∧¬N2 0) :
  Calls prog 43 #[.pointer (some ⟨t,0,none⟩),.pointer (some ⟨bn,0,none⟩),.int .i64 i,.pointer (some ⟨bk,0,none⟩)] w fun e w'=>SplOut (fun j=>F j∨N1 j∨N2 j) w w' t p root bn qn i qk h F N1 x nd kd e:=by
 have HX:=yH (yA5 fn fk hpn hpk h2t);clear fn fk hpn hpk h2t;have hz:=hs.bt.gp.szs;have h300:h≤300:=by rw[←hh];unfold halfN mostN;omega
 have hhf:=bhalf_any t p root F x w hs.bt;rw[hh] at hhf;have hal:=gp_alloc_any p F x w hs.bt.gp ho;obtain⟨c0,f0,s0⟩:=hs.bt.blk.facts;have H:=yH (yA5 hhf hal hs hn ho);clear hhf hal hs hn ho hh hz;go_enter func43,ntmps43
 go_wp2_with (go_at_call 71;(refine H.out.1.mono ?_);rintro e w1 ⟨rfl,rfl⟩)
 refine H.out.2.1.mono ?_;rintro e w1 (⟨r,hr,hrf,rfl,hto⟩ | ⟨hno,rfl,hg1⟩);rotate_left
 ·have HN:=yH (yA hno hg1)
  clear hno hg1;go_wp2_with fail
  go_ret
  exact .inr ⟨rfl,x,F,H.out.2.2.1.bt.grew HN.out.2,HN.out.2.chg,fun _ e=> .inl e,Rp.like.refl x,by omega,fun e=>HN.out.1 ⟨by omega,e.2⟩⟩
 obtain⟨F1,hs1,hrch⟩:=H.out.2.2.1.to hto;have hr4:r< 4096:=by have h1:=(List.getElem?_eq_some_iff.1 hr).1;have:=H.out.2.2.1.bt.gp.szs;omega
 obtain⟨gk,ck,gv,cv,Ac,cc,b1,b2,b3,b4,b5,b6,b7,b8,⟨b9,b10,b11⟩,b12⟩:=hs1.kd.rows (by omega) (by omega);have hd1:w1.drew.cell? ⟨bk,1,none⟩=some (.slice (some ⟨gk,0,none⟩) kd.keys.length ck)∧w1.drew.cell? ⟨bk,2,none⟩=some (.slice (some ⟨gv,0,none⟩) kd.vals.length cv):=⟨b1.drew.cell 1,b1.drew.cell 2⟩
 have H1:=yH (yA5 hs1 hrch b1 b2 (yA5 b3 b4 b5 b6 (yA5 b7 b8 hr hrf (yA b11 b12))));have s1:¬ck=h:=by omega
 have s2:¬cv=h:=by omega
 have s3:(h:Int)≤((2*h - 1:Nat):Int):=by omega
 have hkl:Sl w1 1 (some ⟨gk,h,none⟩) (h - 1) ((iv kd.keys).drop h):=by
  have h9:=Sl.cut (H1.out.2.2.2.1) h (h - 1) (by omega);rw[List.take_of_length_le (by rw[List.length_drop,iv_len];omega),Nat.zero_add] at h9;exact h9
 have hvl:Sl w1 1 (some ⟨gv,h,none⟩) (h - 1) ((iv kd.vals).drop h):=by
  have h9:=Sl.cut ((yP4 H1.out).1) h (h - 1) (by omega);rw[List.take_of_length_le (by rw[List.length_drop,iv_len];omega),Nat.zero_add] at h9;exact h9
 have HKL:=yH (yA hkl hvl);have hck:h - 1≤ck:=by omega
 have hcv:h - 1≤cv:=by omega
 clear hs1 hrch b1 b2 b3 b4 b5 b6 b7 b8 b12 hr hrf hto c0 f0 s0 hkl hvl;rw[hf] at hd1;rw[hkv] at hd1;go_wp2_with fail
 refine wp_region_held_drew (S:=fun w'=>w'.cell? ⟨bk,1,none⟩=some (.slice (some ⟨gk,0,none⟩) (2*h - 1) ck)∧w'.cell? ⟨bk,2,none⟩=some (.slice (some ⟨gv,0,none⟩) (2*h - 1) cv)) (by kernel_rfl) hd1 (fun hHeld=>?_);refine Todo.out (is:=[0,1,2,3,4,5,6,8,9,10,11,12,13]) ?_
 repeat
  refine tkH (v:=?_) rfl (Or.inl ⟨by rfl,?_⟩) hHeld ?_;rotate_left
  ·(intro w hSw;(try dsimp only at hSw);go_simp)<;>with_reducible rfl
  (try simp only[Act.put,lZ])
 refine Todo.fin ?_;refine rdH (i:=7) (by kernel_rfl) rfl fun K hK=>?_;go_simp;have s4:2*h - 1 - h=h - 1:=by omega
 rw[s4];refine(bclone_int gk h (h - 1) (ck - h) _ w1.drew (HKL.out.1.grew ((Chg.refl _ _).drew)) (fun u hu=>iv_one _ u (List.mem_of_mem_drop hu)) (by omega) (by omega)).mono ?_;rintro e w3 ⟨A3,c3,rfl,ho3,hg3⟩
 have hd3:w3.cell? ⟨bk,1,none⟩=some (.slice (some ⟨gk,0,none⟩) (2*h - 1) ck)∧w3.cell? ⟨bk,2,none⟩=some (.slice (some ⟨gv,0,none⟩) (2*h - 1) cv):=⟨(hg3.cell (p:=⟨bk,1,none⟩) H1.out.2.2.1.drew.lt id).trans hd1.1,(hg3.cell (p:=⟨bk,2,none⟩) H1.out.2.2.1.drew.lt id).trans hd1.2⟩;refine hK.out _ _ hd3 (fun _=>?_);clear hK K;(try simp only[Act.put,lZ])
 refine rdH (i:=14) (by kernel_rfl) rfl fun K hK=>?_;go_simp;refine(bclone_int gv h (h - 1) (cv - h) _ w3 (HKL.out.2.grew (Grew.trans ((Chg.refl _ _).drew) hg3)) (fun u hu=>iv_one _ u (List.mem_of_mem_drop hu)) (by omega) (by omega)).mono ?_;rintro e w4 ⟨A4,c4,rfl,ho4,hg4⟩
 have hd4:w4.cell? ⟨bk,1,none⟩=some (.slice (some ⟨gk,0,none⟩) (2*h - 1) ck)∧w4.cell? ⟨bk,2,none⟩=some (.slice (some ⟨gv,0,none⟩) (2*h - 1) cv):=⟨(hg4.cell (p:=⟨bk,1,none⟩) (H1.out.2.2.1.drew.grew hg3).lt id).trans hd3.1,(hg4.cell (p:=⟨bk,2,none⟩) (H1.out.2.2.1.drew.grew hg3).lt id).trans hd3.2⟩
 have H4:=yH (yA4 ho3 ho4 (Grew.trans ((Chg.refl NoF w1).drew) hg3) hg4);clear ho3 ho4 hg3 hg4 hd3;refine hK.out _ _ hd4 (fun _=>?_);clear hK K;(try simp only[Act.put,lZ])
 refine tkH1 (i:=15) (v:=?_) rfl (Or.inl ⟨by rfl,?_⟩) hd4 ?_;rotate_left
 ·(intro w hSw;(try dsimp only at hSw);go_simp)<;>with_reducible rfl
 (try simp only[Act.put,lZ])
 refine rdH (i:=16) (by kernel_rfl) rfl fun K hK=>?_;go_simp;obtain⟨W5,hW5⟩:∃W,w4.alloc (.cells #[.int .i64 r,.slice A3 (h - 1) c3,.slice A4 (h - 1) c4,.slice none 0 0] 73)=W:=⟨_,rfl⟩;rw[hW5];obtain⟨R,hR⟩:∃R,w4.heap.size=R:=⟨_,rfl⟩;have hg45:Grew w4 W5:=hW5▸(Chg.refl _ _).alloc _;have hg15:Grew w1 W5:=Grew.trans H4.out.2.2.1 (Grew.trans H4.out.2.2.2 hg45)
 have hb5:Blk W5 R 73 #[.int .i64 r,.slice A3 (h - 1) c3,.slice A4 (h - 1) c4,.slice none 0 0]:=by subst hW5 hR;exact Blk.new _ _ _
 have hz5:W5.heap.size=R+1:=by subst hW5 hR;simp
 have hd5:W5.cell? ⟨bk,1,none⟩=some (.slice (some ⟨gk,0,none⟩) (2*h - 1) ck)∧W5.cell? ⟨bk,2,none⟩=some (.slice (some ⟨gv,0,none⟩) (2*h - 1) cv):=by
  have h9:=H1.out.2.2.1.grew hg15;rw[hf,hkv] at h9;exact⟨h9.cell 1,h9.cell 2⟩
 have hkd:(kd.keys.drop h).length=h - 1:=by rw[List.length_drop];omega
 have hvd:(kd.vals.drop h).length=h - 1:=by rw[List.length_drop];omega
 have hp1:1≤w1.heap.size:=tab_pos H1.out.1.bt.gp.tab;have hz13:=H4.out.2.2.1.size;have hz34:=H4.out.2.2.2.size;rw[hR] at hz34
 have hright:NdOwn W5 (fun j=>w1.heap.size≤j∧j< W5.heap.size) R r ⟨kd.keys.drop h,kd.vals.drop h,[]⟩:=by
  refine nd_mk (s1:=w1.heap.size) (s2:=w3.heap.size) (s3:=R) (s4:=W5.heap.size) (s5:=W5.heap.size) (A1:=A3) (A2:=A4) (A3:=none) (c1:=c3) (c2:=c4) (c3:=0) ?_ ?_ ?_ (World.ownsRow_nil _ _ _ _) (fun a ha=>own_rng H4.out.1 a ha) (fun a ha=>by have:=own_rng H4.out.2.1 a ha;rw[hR] at this;exact this) (fun a ha=>by cases ha) (by omega) (by omega)
  ·simp only[hkd,hvd];exact hb5
  ·have h9:=own_base (own_grew H4.out.1 (Grew.trans H4.out.2.2.2 hg45)) hp1
   simp only[hkd];simpa [iv] using h9
  ·have h9:=own_base (own_grew H4.out.2.1 hg45) (show 1≤w3.heap.size by omega)
   simp only[hvd];simpa [iv] using h9
 have hsp5:=H1.out.1.grew hg15;have hn5:=(H.out.2.2.2.1.chg H1.out.2.1.chg fun j hj=>(H.out.2.2.1.d1F j hj).1).grew hg15;have H5:=yH (yA5 hright hsp5 hn5 hg15 hz5);clear hright hsp5 hn5 hg15 hg45 hb5 hz5 hkd hvd hW5;refine hK.out _ _ hd5 (fun _=>?_);clear hK K;(try simp only[Act.put,lZ])
 refine rdH (i:=17) (by kernel_rfl) rfl fun K hK=>?_;go_simp;refine hK.out _ _ hd5 (fun _=>?_);clear hK K;(try simp only[Act.put,lZ])
 refine wpAnyH_done (by kernel_rfl) ?_ _;clear hHeld hd1 hd4 hd5;obtain⟨k0,hk0⟩:∃k0,kd.keys[h - 1]? =some k0:=⟨_,List.getElem?_eq_getElem (by omega)⟩;obtain⟨v0,hv0⟩:∃v0,kd.vals[h - 1]? =some v0:=⟨_,List.getElem?_eq_getElem (by omega)⟩;obtain⟨vk,vv,vc,hV⟩:=H5.out.2.2.1.v
 have hck0:w1.cell? ⟨gk,h - 1,none⟩=some (.int .i64 k0):=by
  obtain⟨b,o,e, -,hx⟩:=H1.out.2.2.2.1.2 (by omega)
  cases e
  have:=hx (h - 1) (.int .i64 k0) (by simp[iv,hk0]);rwa[Nat.zero_add] at this
 have hcv0:w1.cell? ⟨gv,h - 1,none⟩=some (.int .i64 v0):=by
  obtain⟨b,o,e, -,hx⟩:=(yP4 H1.out).1.2 (by omega)
  cases e
  have:=hx (h - 1) (.int .i64 v0) (by simp[iv,hv0]);rwa[Nat.zero_add] at this
 have hgkl:gk< w1.heap.size:=by obtain⟨b,o,e,hb, -⟩:=H1.out.2.2.2.1.2 (by omega);cases e;exact hb
 have hgvl:gv< w1.heap.size:=by obtain⟨b,o,e,hb, -⟩:=(yP4 H1.out).1.2 (by omega);cases e;exact hb
 have HC:=yH (yA5 hk0 hv0 hck0 hcv0 (yA hgkl hgvl))
 have hS6:W5.drew.cell? ⟨bn,1,none⟩=some vk∧W5.drew.cell? ⟨bk,1,none⟩=some (.slice (some ⟨gk,0,none⟩) (2*h - 1) ck)∧W5.drew.cell? ⟨gk,h - 1,none⟩=some (.int .i64 k0):=by
  have h9:=H1.out.2.2.1.grew H5.out.2.2.2.1;rw[hf,hkv] at h9;exact⟨hV.blk.drew.cell 1,h9.drew.cell 1,(H5.out.2.2.2.1.cell (p:=⟨gk,h - 1,none⟩) hgkl id).trans hck0⟩
 have HV:=yH hV;clear hk0 hv0 hV hck0 hcv0 hgkl hgvl;have hh1:IntKind.i64.wrap ((h:Int) - 1)=((h - 1:Nat):Int):=by rw[IntWalk.i64_in _ ⟨by omega,by omega⟩];omega
 have hh2:h - 1< 2*h - 1:=by omega
 go_wp2_with fail
 refine wp_region_x [18] (S:=fun w'=>w'.cell? ⟨bn,1,none⟩=some vk∧w'.cell? ⟨bk,1,none⟩=some (.slice (some ⟨gk,0,none⟩) (2*h - 1) ck)∧w'.cell? ⟨gk,h - 1,none⟩=some (.int .i64 k0)) (by kernel_rfl) hS6 (fun hHeld=>?_);refine Todo.out (is:=[0,1,2,3,4,5,6,7,8,9,10,11,12,13]) ?_
 repeat
  refine tkX (v:=?_) rfl (Or.inl ⟨by rfl,?_⟩) hHeld ?_;rotate_left
  ·(intro w hSw;(try dsimp only at hSw);go_simp)<;>with_reducible rfl
  (try simp only[Act.put,lZ])
 refine Todo.fin ?_;refine rdX (i:=14) (by kernel_rfl) rfl fun K hK=>?_;go_simp;obtain⟨W6,hW6⟩:∃W,(W5.alloc (.cells #[.int .i64 k0] 3)).drew=W:=⟨_,rfl⟩;rw[hW6];have hg56:Grew W5 W6:=hW6▸((Chg.refl _ _).alloc _).drew;have hlit:Blk W6 W5.heap.size 3 #[.int .i64 k0]:=hW6▸(Blk.new _ _ _).drew;have hV6:=HV.out.chg hg56 fun _ _=>id;have hsz6:=hg56.size
 have hnl6:nd.keys.length≤1000:=by omega
 have hins:=binsert_any 1 vk nd.keys i W5.heap.size k0 W6 (by have:=hV6.rk;rwa[iv_len] at this) (by omega) hi hlit (fun e=>by have:=HV.out.lt _ (HV.out.nk _ e);omega) (by have:=tab_pos H5.out.2.1.bt.gp.tab;omega)
 have hS6':W6.cell? ⟨bn,1,none⟩=some vk∧W6.cell? ⟨bk,1,none⟩=some (.slice (some ⟨gk,0,none⟩) (2*h - 1) ck)∧W6.cell? ⟨gk,h - 1,none⟩=some (.int .i64 k0):=by
  have h9:=H1.out.2.2.1.grew (Grew.trans H5.out.2.2.2.1 hg56);rw[hf,hkv] at h9;exact⟨hV6.blk.cell 1,h9.cell 1,((Grew.trans H5.out.2.2.2.1 hg56).cell (p:=⟨gk,h - 1,none⟩) (yP4 HC.out).1 id).trans HC.out.2.2.1⟩
 have H6:=yH (yA4 hins hV6 hg56 hsz6);clear hins hV6 hg56 hlit hsz6 hW6;refine hK.out _ _ (fun _=>hS6') ?_;clear hK K;(try simp only[Act.put,lZ])
 refine rdX (i:=15) (by kernel_rfl) rfl fun K hK=>?_;go_simp;refine H6.out.1.mono ?_;rintro e w7 ⟨v7,rfl,ho7,ha7⟩;obtain⟨A7,c7,rfl, -⟩:=own_shape ho7;have hne7:=H6.out.2.1.ne;have hb7:=H6.out.2.1.blk.chg ha7.chg hne7.1;have hown1:∀g,vk.ownBlock=some g→N1 g:=HV.out.nk
 have hS7:w7.cell? ⟨bn,1,none⟩=some vk∧w7.cell? ⟨bk,1,none⟩=some (.slice (some ⟨gk,0,none⟩) (2*h - 1) ck)∧w7.cell? ⟨gk,h - 1,none⟩=some (.int .i64 k0):=by
  have h9:=(H1.out.2.2.1.grew (Grew.trans H5.out.2.2.2.1 H6.out.2.2.1)).chg ha7.chg fun e=>H.out.2.2.1.d12 _ (hown1 _ e) (yP6 H1.out).1;rw[hf,hkv] at h9;refine⟨hb7.cell 1,h9.cell 1,?_⟩;have hl:=(yP4 HC.out).1;have hsz:=H6.out.2.2.2;have hsz5:=H5.out.2.2.2.1.size
  exact(ha7.chg.cell (p:=⟨gk,h - 1,none⟩) (show gk< W6.heap.size by omega) fun e=>H.out.2.2.1.d12 _ (hown1 _ e) (yP6 H1.out).2.1).trans hS6'.2.2
 have hsp7:=(H5.out.2.1.grew H6.out.2.2.1).ap ha7 hown1 fun g hg=>(ho7.lt g hg).2;obtain⟨d9,f9,s9⟩:=hb7.facts;have hl7:(iv (insI nd.keys i k0)).length=nd.keys.length+1:=by rw[iv_len,insI_len k0 hi]
 have H7:=yH (yA4 hsp7 ho7 ha7 hl7);clear hsp7 ho7 ha7 hb7 hown1 hne7 hl7;refine hK.out _ _ (fun _=>hS7) ?_;clear hK K;(try simp only[Act.put,lZ])
 refine tkM1 [17] (i:=16) (v:=?_) rfl (Or.inl ⟨by rfl,?_⟩) hS7 ?_;rotate_left
 ·(intro w hSw;(try dsimp only at hSw);go_simp)<;>with_reducible rfl
 (try simp only[Act.put,lZ])
 refine tkX1 (i:=17) (v:=?_) rfl (Or.inl ⟨by rfl,?_⟩) hS7 ?_;rotate_left
 ·(intro w hSw;(try dsimp only at hSw);go_simp)<;>with_reducible rfl
 (try simp only[Act.put,lZ])
 refine rdX (i:=18) (by kernel_rfl) rfl fun K hK=>?_;go_simp;refine hK.out _ _ (fun h=>by cases h) ?_;clear hK K;(try simp only[Act.put,lZ])
 refine wpAnyX_done (by kernel_rfl) ?_ _;obtain⟨W8,hW8⟩:∃W,w7.setCell ⟨bn,1,none⟩ (.slice A7 (nd.keys.length+1) c7)=W:=⟨_,rfl⟩;rw[hW8];have hV8:=H6.out.2.1.setK H7.out.2.2.1 (by rw[H7.out.2.2.2];exact H7.out.2.1) hW8;have hc8:Chg (fun j=>j=bn) w7 W8:=hW8▸(Chg.refl (fun j=>j=bn) w7).setCell (p:=⟨bn,1,none⟩) (fun _=>rfl) _
 have hsp8:=H7.out.1.st hc8 (.inl HV.out.nb);have H8:=yH (yA3 hV8 hsp8 hc8);clear hHeld hS6 hS6' hS7 hV8 hsp8 hc8 hW8 d9 f9 s9;have hg58:Chg (fun j=>N1 j∨(Value.slice A7 (nd.keys.length+1) c7).ownBlock=some j) W5 W8:=Chg.trans (Grew.then H6.out.2.2.1 (H7.out.2.2.1.chg.mono fun j _ e=> .inl (HV.out.nk j e))) (H8.out.2.2) fun j _ e=>by subst e;exact .inl HV.out.nb
 have hbk8:=H8.out.2.1.kd.rows (by omega) (by omega)
 have hbq:Blk W8 bk 73 #[.int .i64 qk,.slice (some ⟨gk,0,none⟩) (2*h - 1) ck,.slice (some ⟨gv,0,none⟩) (2*h - 1) cv,.slice Ac kd.kids.length cc]:=by
  have h9:=(H1.out.2.2.1.grew H5.out.2.2.2.1).chg hg58 fun e=>e.elim (fun e=>H.out.2.2.1.d12 _ e (yP6 H1.out).1) fun e=>by
   rcases H7.out.2.2.1.at_ _ e with e2 | e2
   ·exact H.out.2.2.1.d12 _ (HV.out.nk _ e2) (yP6 H1.out).1
   ·have:=H1.out.2.2.1.lt;have:=H5.out.2.2.2.1.size;have:=H6.out.2.2.2;omega
  rw[hf,hkv] at h9;exact h9
 have hgv8:W8.cell? ⟨gv,h - 1,none⟩=some (.int .i64 v0):=by
  have h9:=(H5.out.2.2.2.1.cell (p:=⟨gv,h - 1,none⟩) (yP4 HC.out).2 id).trans HC.out.2.2.2.1;have hl:=(yP4 HC.out).2;have hz5:=H5.out.2.2.2.1.size;have hz6:=H6.out.2.2.2;refine(hg58.cell (p:=⟨gv,h - 1,none⟩) (show gv< W5.heap.size by omega) fun e=>e.elim (fun e=>H.out.2.2.1.d12 _ e (yP8 H1.out).1) fun e=>?_).trans h9;rcases H7.out.2.2.1.at_ _ e with e2 | e2
  ·exact H.out.2.2.1.d12 _ (HV.out.nk _ e2) (yP8 H1.out).1
  ·have e3:W6.heap.size≤gv:=e2
   omega
 have H8b:=yH (yA3 hg58 hbq hgv8);have hS9:W8.drew.cell? ⟨bn,2,none⟩=some vv∧W8.drew.cell? ⟨bk,2,none⟩=some (.slice (some ⟨gv,0,none⟩) (2*h - 1) cv)∧W8.drew.cell? ⟨gv,h - 1,none⟩=some (.int .i64 v0):=⟨H8.out.1.blk.drew.cell 2,hbq.drew.cell 2,hgv8⟩;clear hg58 hbk8 hbq hgv8;go_wp2_with fail
 refine wp_region_x [18] (S:=fun w'=>w'.cell? ⟨bn,2,none⟩=some vv∧w'.cell? ⟨bk,2,none⟩=some (.slice (some ⟨gv,0,none⟩) (2*h - 1) cv)∧w'.cell? ⟨gv,h - 1,none⟩=some (.int .i64 v0)) (by kernel_rfl) hS9 (fun hHeld=>?_);refine Todo.out (is:=[0,1,2,3,4,5,6,7,8,9,10,11,12,13]) ?_
 repeat
  refine tkX (v:=?_) rfl (Or.inl ⟨by rfl,?_⟩) hHeld ?_;rotate_left
  ·(intro w hSw;(try dsimp only at hSw);go_simp)<;>with_reducible rfl
  (try simp only[Act.put,lZ])
 refine Todo.fin ?_;refine rdX (i:=14) (by kernel_rfl) rfl fun K hK=>?_;go_simp;obtain⟨W9,hW9⟩:∃W,(W8.alloc (.cells #[.int .i64 v0] 3)).drew=W:=⟨_,rfl⟩;rw[hW9];have hg89:Grew W8 W9:=hW9▸((Chg.refl _ _).alloc _).drew;have hlit:Blk W9 W8.heap.size 3 #[.int .i64 v0]:=hW9▸(Blk.new _ _ _).drew;have hV9:=H8.out.1.chg hg89 fun _ _=>id;have hsz9:=hg89.size
 have hins:=binsert_any 1 vv nd.vals i W8.heap.size v0 W9 (by have:=hV9.rv;rwa[iv_len] at this) (by omega) (by omega) hlit (fun e=>by have:=H8.out.1.lt _ (H8.out.1.nv _ e);omega) (by have:=tab_pos H8.out.2.1.bt.gp.tab;omega)
 have hS9':W9.cell? ⟨bn,2,none⟩=some vv∧W9.cell? ⟨bk,2,none⟩=some (.slice (some ⟨gv,0,none⟩) (2*h - 1) cv)∧W9.cell? ⟨gv,h - 1,none⟩=some (.int .i64 v0):=by
  have hl:=(yP4 HC.out).2;have hz5:=H5.out.2.2.2.1.size;have hz8:=H8b.out.1.size;exact⟨hV9.blk.cell 2,(H8b.out.2.1.grew hg89).cell 2,(hg89.cell (p:=⟨gv,h - 1,none⟩) (show gv< W8.heap.size by omega) id).trans H8b.out.2.2⟩
 have H9:=yH (yA4 hins hV9 hg89 hsz9);clear hins hV9 hg89 hlit hsz9 hW9;refine hK.out _ _ (fun _=>hS9') ?_;clear hK K;(try simp only[Act.put,lZ])
 refine rdX (i:=15) (by kernel_rfl) rfl fun K hK=>?_;go_simp;refine H9.out.1.mono ?_;rintro e w10 ⟨v10,rfl,ho10,ha10⟩;obtain⟨A10,c10,rfl, -⟩:=own_shape ho10;have hne10:=H9.out.2.1.ne;have hb10:=H9.out.2.1.blk.chg ha10.chg hne10.2.1;have hown1:∀g,vv.ownBlock=some g→(N1 g∨(Value.slice A7 (nd.keys.length+1) c7).ownBlock=some g):=H8.out.1.nv;have hd12:=H8.out.2.1.d12
 have hS10:w10.cell? ⟨bn,2,none⟩=some vv∧w10.cell? ⟨bk,2,none⟩=some (.slice (some ⟨gv,0,none⟩) (2*h - 1) cv)∧w10.cell? ⟨gv,h - 1,none⟩=some (.int .i64 v0):=by
  have h9:=(H8b.out.2.1.grew H9.out.2.2.1).chg ha10.chg fun e=>hd12 _ (hown1 _ e) (yP6 H1.out).1;refine⟨hb10.cell 2,h9.cell 2,?_⟩;have hl:=(yP4 HC.out).2;have hz5:=H5.out.2.2.2.1.size;have hz8:=H8b.out.1.size;have hz9:=H9.out.2.2.2;exact(ha10.chg.cell (p:=⟨gv,h - 1,none⟩) (show gv< W9.heap.size by omega) fun e=>hd12 _ (hown1 _ e) (yP8 H1.out).1).trans hS9'.2.2
 have hsp10:=(H8.out.2.1.grew H9.out.2.2.1).ap ha10 hown1 fun g hg=>(ho10.lt g hg).2;obtain⟨d9,f9,s9⟩:=hb10.facts;have hl10:(iv (insI nd.vals i v0)).length=nd.vals.length+1:=by rw[iv_len,insI_len v0 (by omega)]
 have H10:=yH (yA4 hsp10 ho10 ha10 hl10);clear hsp10 ho10 ha10 hb10 hown1 hne10 hl10 hd12;refine hK.out _ _ (fun _=>hS10) ?_;clear hK K;(try simp only[Act.put,lZ])
 refine tkM1 [17] (i:=16) (v:=?_) rfl (Or.inl ⟨by rfl,?_⟩) hS10 ?_;rotate_left
 ·(intro w hSw;(try dsimp only at hSw);go_simp)<;>with_reducible rfl
 (try simp only[Act.put,lZ])
 refine tkX1 (i:=17) (v:=?_) rfl (Or.inl ⟨by rfl,?_⟩) hS10 ?_;rotate_left
 ·(intro w hSw;(try dsimp only at hSw);go_simp)<;>with_reducible rfl
 (try simp only[Act.put,lZ])
 refine rdX (i:=18) (by kernel_rfl) rfl fun K hK=>?_;go_simp;refine hK.out _ _ (fun h=>by cases h) ?_;clear hK K;(try simp only[Act.put,lZ])
 refine wpAnyX_done (by kernel_rfl) ?_ _;obtain⟨W11,hW11⟩:∃W,w10.setCell ⟨bn,2,none⟩ (.slice A10 (nd.vals.length+1) c10)=W:=⟨_,rfl⟩;rw[hnv] at hW11;rw[hW11];have hV11:=NdV.setV (W2:=W11) H9.out.2.1 H10.out.2.2.1 (by rw[H10.out.2.2.2];exact H10.out.2.1) (by rw[hnv];exact hW11)
 have hc11:Chg (fun j=>j=bn) w10 W11:=hW11▸(Chg.refl (fun j=>j=bn) w10).setCell (p:=⟨bn,2,none⟩) (fun _=>rfl) _;have hsp11:=H10.out.1.st hc11 (.inl (.inl HV.out.nb));have H11:=yH (yA3 hV11 hsp11 hc11);clear hHeld hS9 hS9' hS10 hV11 hsp11 hc11 hW11 d9 f9 s9;obtain⟨d9,f9,s9⟩:=H11.out.1.blk.facts
 obtain⟨W12,hW12⟩:∃W,W11.alloc (.cells #[.int .i64 r] 3)=W:=⟨_,rfl⟩;have hg12:Grew W11 W12:=hW12▸(Chg.refl _ _).alloc _;have hlit:Blk W12 W11.heap.size 3 #[.int .i64 r]:=hW12▸Blk.new _ _ _;have hV12:=H11.out.1.chg hg12 fun _ _=>id;have hiv:nv nd.kids=iv (nd.kids.map Int.ofNat):=by simp[nv,iv]
 have hlc:(nd.kids.map Int.ofNat).length=nd.kids.length:=by simp
 have hins:=binsert_any 1 vc (nd.kids.map Int.ofNat) (i+1) W11.heap.size r W12 (by have h9:=hV12.rc;rw[hiv,iv_len] at h9;exact h9) (by omega) (by omega) hlit (fun e=>by have:=H11.out.1.lt _ (H11.out.1.nc _ e);omega) (by have:=tab_pos H11.out.2.1.bt.gp.tab;have:=hg12.size;omega);rw[show((i+1:Nat):Int)=(i:Int)+1 from by omega] at hins
 have H12:=yH (yA4 hins hV12 hg12 hW12);clear hins hV12 hg12 hlit hW12 hiv hlc;go_wp2_with fail
 rw[H12.out.2.2.2];refine H12.out.1.mono ?_;rintro e w13 ⟨v13,rfl,ho13,ha13⟩;rw[List.length_map] at ho13;obtain⟨A13,c13,rfl, -⟩:=own_shape ho13;have hl13:(iv (insI (nd.kids.map Int.ofNat) (i+1) (r:Int))).length=nd.kids.length+1:=by rw[iv_len,insI_len _ (by rw[List.length_map];omega),List.length_map]
 have hb13:=H12.out.2.1.blk.chg ha13.chg H12.out.2.1.ne.2.2;have hownN:∀g,vc.ownBlock=some g→((N1 g∨(Value.slice A7 (nd.keys.length+1) c7).ownBlock=some g)∨(Value.slice A10 (nd.vals.length+1) c10).ownBlock=some g):=H11.out.1.nc;have hsp13:=(H11.out.2.1.grew H12.out.2.2.1).ap ha13 hownN fun g hg=>(ho13.lt g hg).2
 obtain⟨W14,hW14⟩:∃W,w13.setCell ⟨bn,3,none⟩ (.slice A13 (nd.kids.length+1) c13)=W:=⟨_,rfl⟩;have hV14:=NdV.setC (W2:=W14) H12.out.2.1 ha13 (by rw[hl13];exact ho13) hW14;have hc14:Chg (fun j=>j=bn) w13 W14:=hW14▸(Chg.refl (fun j=>j=bn) w13).setCell (p:=⟨bn,3,none⟩) (fun _=>rfl) _;have hsp14:=hsp13.st hc14 (.inl (.inl (.inl HV.out.nb)));clear d9 f9 s9
 obtain⟨d9,f9,s9⟩:=hb13.facts;obtain⟨N13,hN13⟩:∃N:Nat→Prop,(fun j=>((N1 j∨(Value.slice A7 (nd.keys.length+1) c7).ownBlock=some j)∨(Value.slice A10 (nd.vals.length+1) c10).ownBlock=some j)∨(Value.slice A13 (nd.kids.length+1) c13).ownBlock=some j)=N:=⟨_,rfl⟩;have hN1:∀j,N1 j→N13 j:=fun j hj=>by subst hN13;exact .inl (.inl (.inl hj))
 have hNv:∀j,(N1 j∨(Value.slice A7 (nd.keys.length+1) c7).ownBlock=some j)→N13 j:=fun j hj=>by subst hN13;exact .inl (.inl hj)
 have hNc:∀j,((N1 j∨(Value.slice A7 (nd.keys.length+1) c7).ownBlock=some j)∨(Value.slice A10 (nd.vals.length+1) c10).ownBlock=some j)→N13 j:=fun j hj=>by subst hN13;exact .inl hj
 have z5:=H5.out.2.2.2.1.size;have z6:=H6.out.2.2.1.size;have z8:=H8b.out.1.size;have z9:=H9.out.2.2.1.size;have z10:=H10.out.2.2.1.chg.size;have z11:=H11.out.2.2.size;have z12:=H12.out.2.2.1.size;have z1:=H1.out.2.1.chg.size
 have hNi:∀j,N13 j→N1 j∨W5.heap.size≤j:=fun j hj=>by
  subst hN13;rcases hj with ((hj | hj) | hj) | hj
  ·exact .inl hj
  ·exact(H7.out.2.2.1.at_ j hj).elim (fun e=> .inl (HV.out.nk j e)) fun e=> .inr (by omega)
  ·exact(H10.out.2.2.1.at_ j hj).elim (fun e=> .inl (HV.out.nv j e)) fun e=> .inr (by omega)
  ·exact(ha13.at_ j hj).elim (fun e=> .inl (HV.out.nc j e)) fun e=> .inr (by omega)
 have hg8:Chg N13 W8 W14:=Chg.trans (Grew.then H9.out.2.2.1 (H10.out.2.2.1.chg.mono fun j _ e=>hNv j (H8.out.1.nv j e))) (Chg.trans (H11.out.2.2.mono fun j _ e=>by subst e;exact hN1 _ HV.out.nb) (Chg.trans (Grew.then H12.out.2.2.1 (ha13.chg.mono fun j _ e=>hNc j (hownN j e))) (hc14.mono fun j _ e=>by subst e;exact hN1 _ HV.out.nb) fun _ _ e=>e) fun _ _ e=>e) fun _ _ e=>e
 have hg5:Chg N13 W5 W14:=Chg.trans (H8b.out.1.mono fun j _ e=>hNv j e) hg8 fun _ _ e=>e;rw[hN13] at hV14 hsp14;have hd12:=hsp14.d12;have hN1lt:∀j,N1 j→j< w.heap.size:=fun j hj=>(H.out.2.2.1.d1F j hj).2.2.2;have hbk14:=H8b.out.2.1.chg hg8 fun e=>hd12 _ e (yP6 H1.out).1
 have hR14:=H5.out.1.chg hg5 fun j hj e=>(hNi j e).elim (fun e=>by have:=hN1lt j e;omega) fun e=>by omega
 have hRd:∀j,(w1.heap.size≤j∧j< W5.heap.size)→¬N13 j:=fun j hj e=>(hNi j e).elim (fun e=>by have:=hN1lt j e;omega) fun e=>by omega
 have hkN:∀j,N2 j→j< w.heap.size:=fun j hj=>H.out.2.2.1.kd.at.lt j hj;have hc114:Chg (fun j=>F j∨N1 j∨N2 j) w W14:=Chg.trans ((H1.out.2.1.chg.mono fun j _ e=> .inl e).grew H5.out.2.2.2.1) hg5 fun j hj e=>(hNi j e).elim (fun e=> .inr (.inl e)) fun e=>by omega
 have hs14:Sl W14 1 (some ⟨gk,0,none⟩) kd.keys.length (iv kd.keys)∧Sl W14 1 (some ⟨gv,0,none⟩) kd.vals.length (iv kd.vals)∧Sl W14 1 Ac kd.kids.length (nv kd.kids):=⟨(H1.out.2.2.2.1.grew H5.out.2.2.2.1).chg hg5 (fun a ha e=>by cases ha;exact hd12 _ e (yP6 H1.out).2.1),((yP4 H1.out).1.grew H5.out.2.2.2.1).chg hg5 (fun a ha e=>by cases ha;exact hd12 _ e (yP8 H1.out).1),((yP4 H1.out).2.1.grew H5.out.2.2.2.1).chg hg5 (fun a ha e=>hd12 _ e ((yP8 H1.out).2.1 a ha).1)⟩
 have hno:NdOwn W14 N13 bn qn (nd.ins i k0 v0 r):=by
  refine NdV.own (vk:= .slice A7 (nd.keys.length+1) c7) (vv:= .slice A10 (nd.vals.length+1) c10) (vc:= .slice A13 (nd.kids.length+1) c13) (nd:=nd.ins i k0 v0 r) ?_;have e1:nv (nd.ins i k0 v0 r).kids=iv (insI (nd.kids.map Int.ofNat) (i+1) (r:Int)):=nv_insN _ _ _;rw[e1];exact hV14
 have hk0i:i64 k0:=HX.out.2.1.ki _ (List.mem_of_getElem? HC.out.1);have hv0i:i64 v0:=HX.out.2.1.vi _ (List.mem_of_getElem? HC.out.2.1);have hmost:2*h - 1≤mostN x.sz:=by have:=HX.out.2.1.most;omega
 have hfits:=yA3 (Nd.ins_fit (sz:=x.sz) (nd:=nd) (i:=i) (k0:=k0) (v0:=v0) (r:=r) hnv hnc HX.out.1.ki HX.out.1.vi HX.out.1.ci (by omega) hi hk0i hv0i (by omega)) (Nd.lo_fit (h:=h) HX.out.2.1 (by omega) hf) (Nd.hi_fit (h:=h) HX.out.2.1 (by omega) hf);have hlf:=leaf_any bk qk kd N2 W14 hsp14.kd.at;rw[hnc] at hW14;have HL:=yH (yA hlf hW14)
 have HF:=yH (yA5 hsp14 hno hR14 hRd (yA5 hc114 hs14 hfits hkN (yA hbk14 hNi)));have z14:W5.heap.size≤W14.heap.size:=hg5.size;clear hsp14 hno hR14 hRd hc114 hs14 hfits hlf hW14 hk0i hv0i hmost hbk14 hNi hN1 hNv hNc hg8 hg5 hV14 hc14 hsp13 hb13 hl13 hownN ho13 ha13 hd12 hN1lt hkN hN13;have HZ:=yH (yA5 z1 z5 z6 z8 (yA5 z9 z10 z11 z12 z14));clear z1 z5 z6 z8 z9 z10 z11 z12 z14
 rcases hkc with h0 | h0
 case' _=>
  have t1:decide (kd.kids.length=0)=true:=decide_eq_true h0;go_wp2_with fail
  rw[HL.out.2];refine HL.out.1.mono ?_;rintro e w15 ⟨rfl,rfl⟩;clear d9 f9 s9;obtain⟨d9,f9,s9⟩:=(yP8 HF.out).1.facts;go_wp2_with fail
  go_region
  go_wp2_with fail
  obtain⟨cn,hcn,hcn2⟩:=HX.out.2.2.1;obtain⟨cq,hcq,hcq2⟩:=HX.out.2.2.2.1;have hkid:kd.kids=[]:=List.eq_nil_of_length_eq_zero h0;have hhi:(⟨kd.keys.drop h,kd.vals.drop h,[]⟩:Nd)=kd.hi h:=by unfold Nd.hi;rw[hkid,List.drop_nil]
  refine(split_fin (w:=w) (W:=W14) (kd:=kd) (nd:=nd) (F:=F) (F1:=F1) (N1:=N1) (N13:=N13) (N2:=N2) (NR:=fun j=>w1.heap.size≤j∧j< W5.heap.size) (G:=fun j=>F j∨N1 j∨N2 j) (k0:=k0) (v0:=v0) (i:=i) (x:=x) (root:=root) (p:=p) (qn:=qn) (r:=r)
   HF.out.1.bt (yP4 H.out) (yP10 H1.out).1 hcq hcq2 hcn hcn2 HF.out.2.1 (fun j hj=>(HF.out.1.d1F j hj).1) (yP6 HF.out).1.1 (yP8 HF.out).1 (yP4 HF.out).2.1.1 (yP4 HF.out).2.1.2.1 (yP4 HF.out).2.1.2.2 (by omega) (by omega) (by rw[hkid,List.take_nil])
   (yP6 H1.out).1 (yP6 H1.out).2.1 (yP8 H1.out).1 (fun a ha=>((yP8 H1.out).2.1 a ha).1) HF.out.1.kd.at.lt (yP12 H1.out).2.1 (yP12 H1.out).2.2.1 (yP12 H1.out).2.2.2 HF.out.1.d2F HF.out.1.d12 (yP6 HF.out).1.2.1
   (hhi▸HF.out.2.2.1.at) (fun j hj e=>by have:=H1.out.1.bt.gp.lt j e;omega) (fun j hj e=>by have:=(yP6 HF.out).2.1 j e;have:=HZ.out.1;omega) (yP6 HF.out).1.2.2 (yP4 HX.out) (yP4 HF.out).1 H1.out.2.1.new (fun j e=> .inl e) (fun j e=> .inr (.inr e)) (fun j hj=>((yP8 HF.out).2 j hj).imp id fun e=>by have:=HZ.out.1;have:=HZ.out.2.1;omega) HC.out.1 HC.out.2.1).mono ?_
 rotate_left
 case' _=>
  have t1:decide (kd.kids.length=0)=false:=decide_eq_false (by omega);have t2:decide (kd.kids=[])=false:=decide_eq_false (fun e=>by rw[e] at h0;simp only[List.length_nil] at h0;omega);obtain⟨gc,oc,hA,hgcl, -⟩:=(yP4 HF.out).2.1.2.2.2 (by omega);obtain rfl:oc=0:=by have:=((yP8 H1.out).2.1 _ hA).2.1;exact this
  subst hA;obtain⟨vk',vv',vc',hVR⟩:=HF.out.2.2.1.v;have hbk:=(yP8 HF.out).1;rw[h0] at hbk
  have hsl:Sl W14 1 (some ⟨gc,h,none⟩) h ((nv kd.kids).drop h):=by
   have h9:=Sl.cut ((yP4 HF.out).2.1.2.2) h h (by omega);rw[List.take_of_length_le (by rw[List.length_drop,nv_len];omega),Nat.zero_add] at h9;exact h9
  have hcl:=bclone_int gc h h (cc - h) _ W14 hsl (fun u hu=>nv_one _ u (List.mem_of_mem_drop hu)) (by omega) (by omega);have hcc:=(yP12 H1.out).1;have s5:¬cc=h:=by omega
  have s6:(h:Int)≤((2*h:Nat):Int):=by omega
  have s7:h≤cc:=by omega
  have s8:2*h - h=h:=by omega
  have hRb:w1.heap.size≤R∧R< W5.heap.size:=hVR.nb;have hne:bk≠R:=fun e=>by have:=(yP6 HF.out).2.1 bk (yP6 H1.out).1;have:=HZ.out.1;omega
  have HB:=yH (yA4 hcl hVR hbk hRb);have HHc:=yH (yA hcc hgcl);have H0:=yH h0;clear hcl hsl hVR hRb hcc hgcl h0;go_wp2_with fail
  rw[HL.out.2];refine HL.out.1.mono ?_;rintro e w15 ⟨rfl,rfl⟩;clear d9 f9 s9;obtain⟨d9,f9,s9⟩:=hbk.facts;go_wp2_with fail
  refine HB.out.1.mono ?_;rintro e w15 ⟨A15,c15,rfl,ho15,hg15⟩;clear d9 f9 s9;obtain⟨d9,f9,s9⟩:=(hbk.grew hg15).facts;obtain⟨d8,f8,s8'⟩:=(HB.out.2.1.blk.grew hg15).facts;have HO:=yH (yA ho15 hg15);clear ho15 hg15 hbk;go_wp2_with fail
  obtain⟨W16,hW16⟩:∃W,w15.setCell ⟨R,3,none⟩ (.slice A15 h c15)=W:=⟨_,rfl⟩;rw[hW16];obtain⟨W17,hW17⟩:∃W,W16.setCell ⟨bk,3,none⟩ (.slice (some ⟨gc,0,none⟩) h cc)=W:=⟨_,rfl⟩;rw[hW17];have hkl:((nv kd.kids).drop h).length=h:=by have:=H0.out;rw[List.length_drop,nv_len];omega
  have hVR16:=NdV.setC (W2:=W16) (l':=(nv kd.kids).drop h) (v':= .slice A15 h c15) HB.out.2.1 ⟨HO.out.2.chg,fun j hj=> .inr (HO.out.1.lt j hj).1⟩ (by rw[hkl];exact own_base HO.out.1 (by have:=tab_pos HF.out.1.bt.gp.tab;omega)) hW16;have hc16:Chg (fun j=>j=R) w15 W16:=hW16▸(Chg.refl (fun j=>j=R) w15).setCell (p:=⟨R,3,none⟩) (fun _=>rfl) _
  have hc17:Chg (fun j=>j=bk) W16 W17:=hW17▸(Chg.refl (fun j=>j=bk) W16).setCell (p:=⟨bk,3,none⟩) (fun _=>rfl) _
  have hb17:Blk W17 bk 73 #[.int .i64 qk,.slice (some ⟨gk,0,none⟩) (2*h - 1) ck,.slice (some ⟨gv,0,none⟩) (2*h - 1) cv,.slice (some ⟨gc,0,none⟩) h cc]:=by
   have h9:=((HB.out.2.2.1.grew HO.out.2).chg hc16 hne).put 3 (.slice (some ⟨gc,0,none⟩) h cc);rw[hW17] at h9;simpa using h9
  have hcA:Chg (fun j=>j=R∨j=bk) W14 W17:=Chg.trans (Grew.then HO.out.2 (hc16.mono fun j _ e=> .inl e)) (hc17.mono fun j _ e=> .inr e) fun _ _ e=>e;have n1:=(yP6 H1.out).1;have hzw:=HZ.out.1;have hN2R:∀j,N2 j→j≠R:=fun j hj e=>by have:=(yP6 HF.out).2.1 j hj;have:=HB.out.2.2.2;omega
  have hR17:NdAt W17 (fun j=>(w1.heap.size≤j∧j< W5.heap.size)∨(Value.slice A15 h c15).ownBlock=some j) R r (kd.hi h):=by
   have h9:NdOwn W16 (fun j=>(w1.heap.size≤j∧j< W5.heap.size)∨(Value.slice A15 h c15).ownBlock=some j) R r (kd.hi h):=by
    refine NdV.own (vk:=vk') (vv:=vv') (vc:= .slice A15 h c15) (nd:=kd.hi h) ?_;have e1:nv (kd.hi h).kids=(nv kd.kids).drop h:=nv_drop _ _;rw[e1];exact hVR16
   refine h9.at.chg hc17 fun j hj e=>?_;subst e;rcases hj with hj | hj
   ·have:=(yP6 HF.out).2.1 _ n1;omega
   ·have:=(HO.out.1.lt _ hj).1;have:=HF.out.1.kd.at.lt _ n1;omega
  obtain⟨cn,hcn,hcn2⟩:=HX.out.2.2.1;obtain⟨cq,hcq,hcq2⟩:=HX.out.2.2.2.1;have z17:W14.heap.size≤W17.heap.size:=hcA.size;have HG:=yH (yA5 hcA hR17 hN2R hb17 (yA4 hcq hcq2 hcn hcn2));clear d9 f9 s9 d8 f8 s8';obtain⟨d9,f9,s9⟩:=hb17.facts;clear hVR16 hc16 hc17 hW16 hW17 hcA hR17 hN2R hb17 hkl;go_region
  go_wp2_with fail
  have h0:=H0.out;have hF14:∀j,F1 j→j< w1.heap.size:=fun j hj=>H1.out.1.bt.gp.lt j hj;have hRb:=HB.out.2.2.2;have hz5:=HZ.out.2.1;have hz14:=(yP8 HZ.out)
  refine(split_fin (w:=w) (W:=W17) (kd:=kd) (nd:=nd) (F:=F) (F1:=F1) (N1:=N1) (N13:=N13) (N2:=N2) (NR:=fun j=>(w1.heap.size≤j∧j< W5.heap.size)∨(Value.slice A15 h c15).ownBlock=some j) (G:=fun j=>F j∨N1 j∨N2 j) (k0:=k0) (v0:=v0) (i:=i) (x:=x) (root:=root) (p:=p) (qn:=qn) (r:=r)
   (HF.out.1.bt.chg HG.out.1 (fun j hj e=>e.elim (fun e=>by have:=hF14 j hj;omega) fun e=>HF.out.1.d2F j (e▸n1) hj) (fun e=>e.elim (fun e=>by have:=tab_pos H1.out.1.bt.gp.tab;omega) fun e=>(yP4 HX.out).2 (e▸n1)) (fun e=>e.elim (fun e=>by have:=H1.out.1.bt.blk.lt;omega) fun e=>(yP4 HX.out).1 (e▸n1)))
   (yP4 H.out) (yP10 H1.out).1 (yP4 HG.out).1 (yP4 HG.out).2.1 (yP6 HG.out).1 (yP6 HG.out).2
   (HF.out.2.1.chg HG.out.1 fun j hj e=>e.elim (fun e=>HF.out.2.2.2.1 R HB.out.2.2.2 (e▸hj)) fun e=>HF.out.1.d12 j hj (e▸n1))
   (fun j hj=>(HF.out.1.d1F j hj).1) (yP6 HF.out).1.1 HG.out.2.2.2.1
   ((yP4 HF.out).2.1.1.chg HG.out.1 fun a ha e=>by cases ha;exact e.elim (HG.out.2.2.1 _ (yP6 H1.out).2.1) (yP12 H1.out).2.1)
   ((yP4 HF.out).2.1.2.1.chg HG.out.1 fun a ha e=>by cases ha;exact e.elim (HG.out.2.2.1 _ (yP8 H1.out).1) (yP12 H1.out).2.2.1)
   ((yP4 HF.out).2.1.2.2.chg HG.out.1 fun a ha e=>e.elim (HG.out.2.2.1 _ ((yP8 H1.out).2.1 a ha).1) ((yP12 H1.out).2.2.2 a ha))
   (by omega) (by omega) (by rw[List.length_take];omega)
   n1 (yP6 H1.out).2.1 (yP8 H1.out).1 (fun a ha=>((yP8 H1.out).2.1 a ha).1) (fun j hj=>Nat.lt_of_lt_of_le (HF.out.1.kd.at.lt j hj) HG.out.1.size) (yP12 H1.out).2.1 (yP12 H1.out).2.2.1 (yP12 H1.out).2.2.2 HF.out.1.d2F HF.out.1.d12 (yP6 HF.out).1.2.1
   HG.out.2.1 (fun j hj e=>hj.elim (fun hj=>by have:=hF14 j e;omega) fun hj=>by have:=hF14 j e;have:=(HO.out.1.lt _ hj).1;omega) (fun j hj e=>hj.elim (fun hj=>by have:=(yP6 HF.out).2.1 j e;omega) fun hj=>by have:=HF.out.1.kd.at.lt j e;have:=(HO.out.1.lt _ hj).1;omega) (yP6 HF.out).1.2.2 (yP4 HX.out)
   (Chg.trans (yP4 HF.out).1 HG.out.1 fun j hj e=>e.elim (fun e=>by omega) fun e=> .inr (.inr (e▸n1))) H1.out.2.1.new (fun j e=> .inl e) (fun j e=> .inr (.inr e)) (fun j hj=>((yP8 HF.out).2 j hj).imp id fun e=>by have:=HZ.out.2.1;omega) HC.out.1 HC.out.2.1).mono ?_
 rotate_left
 all_goals
  rintro e w' (⟨rfl,hr1⟩ | ⟨rfl,hr1⟩)
  ·have HR1:=yH hr1
   clear hr1;go_wp2_with fail
   go_ret
   exact .inl ⟨rfl,HR1.out⟩
  ·have HR1:=yH hr1
   clear hr1;go_wp2_with fail
   go_ret
   exact .inr ⟨rfl,HR1.out⟩
end
section
open Go.RowKit Go.Maps
theorem NdOwn.move {W:World} {N:Nat→Prop} {b q:Nat} {nd:Nd} (h:NdOwn W N b q nd):∃Ak ck Av cv Ac cc,Blk W b 73 #[.int .i64 q,.slice Ak nd.keys.length ck,.slice Av nd.vals.length cv,.slice Ac nd.kids.length cc]∧
  ∀ (W':World) (b' q':Nat),Grew W W'→W.heap.size≤b'→Blk W' b' 73 #[.int .i64 q',.slice Ak nd.keys.length ck,.slice Av nd.vals.length cv,.slice Ac nd.kids.length cc]→NdOwn W' (fun j=>(N j∧j≠b)∨j=b') b' q' nd:=by
 obtain⟨vk,vv,vc,hV⟩:=h.v;have hne:=hV.ne;have rk:=hV.rk;have rv:=hV.rv;have rc:=hV.rc;rw[iv_len] at rk rv;rw[nv_len] at rc;obtain⟨Ak,ck,rfl, -⟩:=own_shape rk;obtain⟨Av,cv,rfl, -⟩:=own_shape rv;obtain⟨Ac,cc,rfl, -⟩:=own_shape rc;refine⟨Ak,ck,Av,cv,Ac,cc,hV.blk,fun W' b' q' hg hb hB=>?_⟩;have hsz:=hg.size
 refine NdV.own (vk:= .slice Ak nd.keys.length ck) (vv:= .slice Av nd.vals.length cv) (vc:= .slice Ac nd.kids.length cc) ⟨hB,own_grew hV.rk hg,own_grew hV.rv hg,own_grew hV.rc hg,.inr rfl,fun g e=> .inl ⟨hV.nk g e,fun e2=>hne.1 (e2▸e)⟩,fun g e=> .inl ⟨hV.nv g e,fun e2=>hne.2.1 (e2▸e)⟩,fun g e=> .inl ⟨hV.nc g e,fun e2=>hne.2.2 (e2▸e)⟩,fun j hj=>?_,hV.kv,hV.kc,hV.vc_⟩
 rcases hj with ⟨hj, -⟩ | rfl
 ·exact Nat.lt_of_lt_of_le (hV.lt j hj) hsz
 ·exact hB.lt
def GwOut (G:Nat→Prop) (w w':World) (t p root:Nat) (F:Nat→Prop) (x:Rp) (D:Nat) (L:List KV) (e:Ending):Prop:=
 (∃bt N' nd' F' y P',e= .returned (.tuple #[.pointer (some ⟨bt,0,none⟩),.int .i64 0])∧BT w' t p root F' y∧Chg G w w'∧(∀j,F' j→F j∨w.heap.size≤j)∧NdOwn w' N' bt root nd'∧(∀j,N' j→¬F' j)∧(∀j,N' j→w.heap.size≤j)∧
  TS y (D+1) root L P'∧x.like y∧y.nd root=some nd'∧nd'.keys.length=1∧y.now.countP Pk.used=x.now.countP Pk.used+2)∨
 (∃v,e= .returned (.tuple #[v,.int .i64 21])∧FullG G w w' t p root F x 2)
theorem FullG.more {G:Nat→Prop} {w w1 w':World} {t p root m m':Nat} {F F1:Nat→Prop} {x y:Rp} {G':Nat→Prop} (h:FullG G w1 w' t p root F1 y m) (hl:x.like y) (hu:y.now.countP Pk.used+m≤x.now.countP Pk.used+m') (hc:Chg G' w w1) (hF:∀j,F1 j→F j∨w.heap.size≤j) (hG:∀j,j< w.heap.size→G j→G' j):FullG G' w w' t p root F x m':=by
 obtain⟨z,F',h1,h2,h3,h4,h5,h6⟩:=h;have hsz:=hc.size;exact⟨z,F',h1,Chg.trans hc h2 hG,fun j hj=>(h3 j hj).elim (hF j) fun e=> .inr (by omega),hl.trans h4,by omega,h6⟩
theorem TS.grow {x:Rp} {D root c r:Nat} {L:List KV} {P:List Nat} {kd:Nd} (s:TS x D root L P) (hn:x.nd root=some kd) (hc:x.now[c]? =some .no) (hr:(x.put c .zero).now[r]? =some .no) (hh:2≤halfN x.sz) (hf:kd.keys.length=2*halfN x.sz - 1) (hz:x.sz≤4096)
  {k0 v0:Int} (hk:kd.keys[halfN x.sz - 1]? =some k0) (hv:kd.vals[halfN x.sz - 1]? =some v0) (f1:(kd.hi (halfN x.sz)).Fit x.sz) (f2:(kd.lo (halfN x.sz)).Fit x.sz) (f3:(Nd.ins ⟨[],[],[c]⟩ 0 k0 v0 r).Fit x.sz) :
  ∃P',TS ((x.put c .zero).splitP r c root (kd.hi (halfN x.sz)) (kd.lo (halfN x.sz)) (Nd.ins ⟨[],[],[c]⟩ 0 k0 v0 r)) (D+1) root L P'∧((x.put c .zero).splitP r c root (kd.hi (halfN x.sz)) (kd.lo (halfN x.sz)) (Nd.ins ⟨[],[],[c]⟩ 0 k0 v0 r)).nd root=some (Nd.ins ⟨[],[],[c]⟩ 0 k0 v0 r)∧
   ((x.put c .zero).splitP r c root (kd.hi (halfN x.sz)) (kd.lo (halfN x.sz)) (Nd.ins ⟨[],[],[c]⟩ 0 k0 v0 r)).now.countP Pk.used=x.now.countP Pk.used+2:=by
 have hcl:=(List.getElem?_eq_some_iff.1 hc).1;have hcP:=s.new hc;have c1:(x.put c .zero).now[c]? =some .zero:=by rw[Rp.put_at hcl,if_pos rfl]
 have hcr:c≠r:=fun e=>by rw[←e,c1] at hr;cases hr
 have hr0:x.now[r]? =some .no:=by
  rw[Rp.put_at hcl,if_neg (Ne.symm hcr)] at hr;exact hr
 have hrP:=s.new hr0;have hrt:root∈P:=s.tr.root_mem;obtain⟨ct,ht1,ht2⟩:=s.pgs root hrt;have hctr:c≠root:=fun e=>hcP (e▸hrt);have hrtr:r≠root:=fun e=>hrP (e▸hrt);obtain⟨k1,v1,g1,g2,g3⟩:=s.tr.grow (r:=r) (c:=c) s.nd hh hn hf hcP hrP hcr;rw[hk] at g1;cases g1;rw[hv] at g2;cases g2;have hrl:=(List.getElem?_eq_some_iff.1 hr).1
 have hl:(x.put c .zero).now.length=x.now.length:=Rp.put_len _ _ _;obtain⟨n1,n2,n3,n4⟩:=Rp.splitP_nd (x:=x.put c .zero) (r:=r) (qk:=c) (qn:=root) hrl (by rw[hl];exact hcl) (by rw[hl];exact(List.getElem?_eq_some_iff.1 ht1).1) f1 f2 f3 hz (Ne.symm hcr) hrtr hctr
 obtain⟨P',h1,h2⟩:=g3 _ n2 n1 n3 fun j hj hjr=>by
  have e1:j≠r:=fun e=>hrP (e▸hj);have e2:j≠c:=fun e=>hcP (e▸hj);rw[n4 j e1 e2 hjr,Rp.nd_other e2]
 have u1:=Rp.put_usedN (c:= .zero) hc rfl;obtain⟨ct2,ht3,ht4⟩:=Rp.put_same (q:=c) (c:= .zero) ht1 ht2 rfl;have u2:=Rp.splitP_used (x:=x.put c .zero) (hi:=kd.hi (halfN x.sz)) (lo:=kd.lo (halfN x.sz)) (pn:=Nd.ins ⟨[],[],[c]⟩ 0 k0 v0 r) hr c1 rfl ht3 ht4
 have hu:((x.put c .zero).splitP r c root (kd.hi (halfN x.sz)) (kd.lo (halfN x.sz)) (Nd.ins ⟨[],[],[c]⟩ 0 k0 v0 r)).now.countP Pk.used=x.now.countP Pk.used+2:=by omega
 refine⟨P',⟨h1,h2.nodup_iff.2 (List.nodup_cons.2 ⟨by simp;exact⟨fun e=>hcr e.symm,hrP⟩,List.nodup_cons.2 ⟨hcP,s.nd⟩⟩),s.srt,?_⟩,n3,hu⟩;rw[hu,h2.length_eq,s.used];rfl
theorem half_two {sz:Nat} (h:64≤sz):2≤halfN sz:=by unfold halfN mostN;omega
theorem bgrow_any (t p root bn D:Nat) (L:List KV) (P:List Nat) (F N:Nat→Prop) (x:Rp) (nd:Nd) (w:World) (hb:BT w t p root F x) (ho:x.was≠none) (hs:TS x D root L P) (hn:NdOwn w N bn root nd) (hnd:x.nd root=some nd) (hf:nd.keys.length=2*halfN x.sz - 1) (hNF:∀j,N j→¬F j) (hN0:¬N t∧¬N 0) :
  Calls prog 40 #[.pointer (some ⟨t,0,none⟩),.pointer (some ⟨bn,0,none⟩)] w fun e w'=>GwOut (fun j=>F j∨N j) w w' t p root F x D L e:=by
 have hz:=hb.gp.szs;have hal:=gp_alloc_any p F x w hb.gp ho;obtain⟨c0,f0,s0⟩:=hb.blk.facts;have H:=yH (yA5 hal hb ho hs (yA5 hn hnd hf hNF (yA hN0 hz)));clear hal hb ho hs hn hnd hf hNF hN0 hz;go_enter func40,ntmps40
 go_wp2_with fail
 refine H.out.1.mono ?_;rintro e w1 (⟨c,hc,hcf,rfl,hto⟩ | ⟨hno,rfl,hg1⟩);rotate_left
 ·have HN:=yH (yA hno hg1)
  clear hno hg1;go_wp2_with fail
  go_ret2
  exact .inr ⟨_,rfl,x,F,H.out.2.1.grew HN.out.2,HN.out.2.chg,fun _ e=> .inl e,Rp.like.refl x,by omega,fun e=>HN.out.1 ⟨by omega,e.2⟩⟩
 obtain⟨F1,hb1,hc1,hn1⟩:=H.out.2.1.to hto;have hc4:c< 4096:=by have h1:=(List.getElem?_eq_some_iff.1 hc).1;have:=(yP8 H.out).2;omega
 have hnode1:=(yP4 H.out).1.chg hc1 (yP6 H.out).2.1;obtain⟨Ak,ck,Av,cv,Ac,cc,bB,bmv⟩:=hnode1.move;have hd1:w1.drew.cell? ⟨bn,1,none⟩=some (.slice Ak nd.keys.length ck)∧w1.drew.cell? ⟨bn,2,none⟩=some (.slice Av nd.vals.length cv)∧w1.drew.cell? ⟨bn,3,none⟩=some (.slice Ac nd.kids.length cc):=⟨bB.drew.cell 1,bB.drew.cell 2,bB.drew.cell 3⟩
 have H1:=yH (yA5 hb1 hc1 hn1 hc (yA bB bmv));clear hb1 hc1 hn1 hc hcf hto hnode1 bB bmv c0 f0 s0;go_wp2_with fail
 refine wp_region_held_drew (S:=fun w'=>w'.cell? ⟨bn,1,none⟩=some (.slice Ak nd.keys.length ck)∧w'.cell? ⟨bn,2,none⟩=some (.slice Av nd.vals.length cv)∧w'.cell? ⟨bn,3,none⟩=some (.slice Ac nd.kids.length cc)) (by kernel_rfl) hd1 (fun hHeld=>?_);refine Todo.out (is:=[0,1,2,3,4,5,6,7,8,9,10,11,12,13]) ?_
 repeat
  refine tkH (v:=?_) rfl (Or.inl ⟨by rfl,?_⟩) hHeld ?_;rotate_left
  ·(intro w hSw;(try dsimp only at hSw);go_simp)<;>with_reducible rfl
  (try simp only[Act.put,lZ])
 refine Todo.fin ?_;refine rdH (i:=14) (by kernel_rfl) rfl fun K hK=>?_;go_simp;obtain⟨W4,hW4⟩:∃W,(w1.alloc (.cells #[.int .i64 c,.slice Ak nd.keys.length ck,.slice Av nd.vals.length cv,.slice Ac nd.kids.length cc] 73)).drew=W:=⟨_,rfl⟩;rw[hW4];have hg4:Grew w1 W4:=hW4▸((Chg.refl NoF w1).alloc _).drew
 have hb4:Blk W4 w1.heap.size 73 #[.int .i64 c,.slice Ak nd.keys.length ck,.slice Av nd.vals.length cv,.slice Ac nd.kids.length cc]:=hW4▸(Blk.new w1 _ _).drew;have hz4:W4.heap.size=w1.heap.size+1:=by subst hW4;simp
 have hd4:W4.cell? ⟨bn,1,none⟩=some (.slice Ak nd.keys.length ck)∧W4.cell? ⟨bn,2,none⟩=some (.slice Av nd.vals.length cv)∧W4.cell? ⟨bn,3,none⟩=some (.slice Ac nd.kids.length cc):=by
  have h9:=(yP4 H1.out).1.grew hg4;exact⟨h9.cell 1,h9.cell 2,h9.cell 3⟩
 refine hK.out _ _ hd4 (fun _=>?_);clear hK K;(try simp only[Act.put,lZ])
 refine rdH (i:=15) (by kernel_rfl) rfl fun K hK=>?_;go_simp;refine hK.out _ _ hd4 (fun _=>?_);clear hK K;(try simp only[Act.put,lZ])
 refine wpAnyH_done (by kernel_rfl) ?_ _;clear hHeld hd1 hd4 hW4;have hb1':=H1.out.1.grew hg4;obtain⟨c0,f0,s0⟩:=hb1'.blk.facts;obtain⟨W5,hW5⟩:∃W,W4.alloc (.cells #[.int .i64 c] 3)=W:=⟨_,rfl⟩;obtain⟨W6,hW6⟩:∃W,W5.alloc (.cells #[.int .i64 root,.slice none 0 0,.slice none 0 0,.slice (some ⟨W4.heap.size,0,none⟩) 1 1] 73)=W:=⟨_,rfl⟩
 have hg45:Grew W4 W5:=hW5▸(Chg.refl _ _).alloc _;have hg56:Grew W5 W6:=hW6▸(Chg.refl _ _).alloc _;have hz5:W5.heap.size=W4.heap.size+1:=by subst hW5;simp
 have hz6:W6.heap.size=W5.heap.size+1:=by subst hW6;simp
 have hrow:W5.ownsRow 1 3 1 (.slice (some ⟨W4.heap.size,0,none⟩) 1 1) 1 (nv [c]):=by
  subst hW5;have:=World.ownsRow_lit W4 #[.int .i64 c] 1 (tab_pos hb1'.gp.tab) (by simp[maxLen]) (by simp) (e:=3) (size:=1) (base:=1);simpa [nv] using this
 have htop:Blk W6 W5.heap.size 73 #[.int .i64 root,.slice none 0 0,.slice none 0 0,.slice (some ⟨W4.heap.size,0,none⟩) 1 1]:=hW6▸Blk.new _ _ _;have hg16:Grew w1 W6:=Grew.trans hg4 (Grew.trans hg45 hg56);have hsz1:=H1.out.2.1.size
 have hown:NdOwn W6 (fun j=>j=W4.heap.size∨j=W5.heap.size) W5.heap.size root ⟨[],[],[c]⟩:=
  ⟨none,0,none,0,some ⟨W4.heap.size,0,none⟩,1,htop,World.ownsRow_nil _ _ _ _,World.ownsRow_nil _ _ _ _,own_grew hrow hg56,Or.inr rfl,(fun a ha=>by cases ha),(fun a ha=>by cases ha),(fun a ha=>by cases ha;exact Or.inl rfl),(fun j hj=>by rcases hj with e | e<;>omega),(fun a a' ha=>by cases ha),(fun a a' ha=>by cases ha),(fun a a' ha=>by cases ha)⟩
 have hkid:NdOwn W6 (fun j=>(N j∧j≠bn)∨j=w1.heap.size) w1.heap.size c nd:=(yP4 H1.out).2 W6 w1.heap.size c hg16 (Nat.le_refl _) (hb4.grew (Grew.trans hg45 hg56));have hNlt:∀j,N j→j< w.heap.size:=fun j hj=>(yP4 H.out).1.at.lt j hj;have hF1lt:∀j,F1 j→j< w1.heap.size:=fun j hj=>H1.out.1.gp.lt j hj;have htl:=H.out.2.1.blk.lt;have hpos:=tab_pos H.out.2.1.gp.tab
 have hNF1:∀j,N j→¬F1 j:=fun j hj e=>(H1.out.2.2.1 j e).elim ((yP6 H.out).2.1 j hj) fun e=>by have:=hNlt j hj;omega
 have hSp:Sp W6 t p root F1 (x.put c .zero) (fun j=>j=W4.heap.size∨j=W5.heap.size) (fun j=>(N j∧j≠bn)∨j=w1.heap.size) w1.heap.size c nd:=
  ⟨H1.out.1.grew hg16,hkid,fun j hj e=>by
   rcases e with ⟨e, -⟩ | e
   ·have:=hNlt j e;rcases hj with hj | hj<;>omega
   ·rcases hj with hj | hj<;>omega,fun j hj=>⟨fun e=>by have:=hF1lt j e;rcases hj with hj | hj<;>omega,by rcases hj with hj | hj<;>omega,by rcases hj with hj | hj<;>omega,by rcases hj with hj | hj<;>omega⟩,fun j hj e=>by
   rcases hj with ⟨hj, -⟩ | hj
   ·exact hNF1 j hj e
   ·have:=hF1lt j e;omega⟩
 have hft:=H.out.2.1.gp.fit (yP4 H.out).2.1;have hz:=(yP8 H.out).2;have hcl:=(List.getElem?_eq_some_iff.1 H1.out.2.2.2.1).1;obtain⟨ct,ht1,ht2⟩:=H.out.2.2.2.1.pgs root H.out.2.2.2.1.tr.root_mem;have hfl:=(yP6 H.out).1;have h2h:=half_two hz.2.2.1
 have hspl:=bsplit_any t p root W5.heap.size root 0 w1.heap.size c (halfN x.sz) F1 _ _ (x.put c .zero) ⟨[],[],[c]⟩ nd W6 hSp hown rfl h2h H.out.2.2.1 hfl (hft.1.vals.trans hfl) (by rcases hft.1.kids with e | e<;>omega) (by simp only[List.length_nil];omega) rfl rfl (Nat.le_refl _)
  ⟨rfl,Nat.zero_le _,.inr rfl,fun k h=>(by cases h),fun k h=>(by cases h),fun k h=>by rw[List.mem_singleton] at h;omega⟩ hft.1 (Rp.put_same ht1 ht2 rfl) ⟨.zero,by rw[Rp.put_at hcl,if_pos rfl],rfl⟩
  ⟨fun e=>e.elim (fun e=>(yP8 H.out).1.1 e.1) fun e=>by omega,fun e=>e.elim (fun e=>(yP8 H.out).1.2 e.1) fun e=>by omega⟩
 rw[show((0:Nat):Int)=0 from rfl,hz5] at hspl;have H6:=yH (yA5 hspl hg16 hW5 hW6 (yA3 hNlt hz4 hz5));clear hspl hg16 hW5 hW6 hown hkid hSp htop hrow hg45 hg56 hb4 hg4 hft hz hcl ht1 ht2 hfl h2h hb1' hNF1 hNlt hF1lt hz4 hz5 hz6;go_wp2_with fail
 rw[H6.out.2.2.1,H6.out.2.2.2.1];have z1:=H1.out.2.1.size;have z6:=H6.out.2.1.size;have z4:=(yP4 H6.out).2.1;have hNlt:=(yP4 H6.out).1;have hc6:Chg (fun j=>F j∨N j) w W6:=(H1.out.2.1.mono fun j _ e=> .inl e).grew H6.out.2.1
 have hG6:∀j,j< w.heap.size→(F1 j∨(j=W4.heap.size∨j=W4.heap.size+1)∨((N j∧j≠bn)∨j=w1.heap.size))→F j∨N j:=fun j hj e=>by
  rcases e with e | e | e
  ·exact .inl ((H1.out.2.2.1 j e).resolve_right (by omega))
  ·omega
  ·rcases e with e | e
   ·exact .inr e.1
   ·omega
 have hz:=(yP8 H.out).2;have hus1:=Rp.put_usedN (c:= .zero) H1.out.2.2.2.1 rfl;have hF6:∀j,F1 j→F j∨w.heap.size≤j:=H1.out.2.2.1;have HP:=yH (yA5 hc6 hG6 hF6 z1 (yA3 z6 z4 hus1));clear hc6 hG6 hF6 hNlt z1 z6 z4 hus1 hz;refine H6.out.1.mono ?_;rintro e w' (⟨rfl,r,k0,v0,F',N',hr,hk0,hv0,hbt',hcg,hFn,hno,hdis,hNn,ff1,ff2,ff3⟩ | ⟨rfl,hfu⟩)
 ·obtain⟨P',hts,hnr,hus⟩:=H.out.2.2.2.1.grow (yP4 H.out).2.1 H1.out.2.2.2.1 hr (half_two (yP10 H.out).2.1) (yP6 H.out).1 (yP12 H.out).1 hk0 hv0 ff1 ff2 ff3
  have hout:GwOut (fun j=>F j∨N j) w w' t p root F x D L (.returned (.tuple #[.pointer (some ⟨W4.heap.size+1,0,none⟩),.int .i64 0])):=by
   obtain⟨hc6,hG6,hF6,z1,z6,z4,hus1⟩:=HP.out;refine .inl ⟨_,N',_,F',_,P',rfl,hbt',Chg.trans hc6 hcg hG6,fun j hj=>(hFn j hj).elim (hF6 j) fun e=> .inr (by omega),hno,hdis,fun j hj=>(hNn j hj).elim (fun e=>by omega) fun e=>by omega,hts,(x.put_like _ _).trans Rp.splitP_like,hnr,by simp[Nd.ins,insI],hus⟩
  have HO:=yH hout;clear hout hts hnr hus hr hk0 hv0 hbt' hcg hFn hno hdis hNn ff1 ff2 ff3;go_wp2_with fail
  go_ret2
  exact HO.out
 ·have hout:GwOut (fun j=>F j∨N j) w w' t p root F x D L (.returned (.tuple #[.pointer (some ⟨W4.heap.size+1,0,none⟩),.int .i64 21])):=by
   obtain⟨hc6,hG6,hF6,z1,z6,z4,hus1⟩:=HP.out;exact .inr ⟨_,rfl,hfu.more (x.put_like _ _) (by omega) hc6 hF6 hG6⟩
  have HO:=yH hout;clear hout hfu;go_wp2_with fail
  go_ret2
  exact HO.out
end
section
open Go.RowKit Go.Maps
section
variable {W W':World} {N G:Nat→Prop} {b q:Nat} {nd:Nd} {vk vv vc v':Value} {lk lv lc l':List Value}
structure Rws (W:World) (N:Nat→Prop) (vk vv vc:Value) (lk lv lc:List Value):Prop where
 rk:W.ownsRow 1 3 1 vk lk.length lk
 rv:W.ownsRow 1 3 1 vv lv.length lv
 rc:W.ownsRow 1 3 1 vc lc.length lc
 nk:∀g,vk.ownBlock=some g→N g
 nv:∀g,vv.ownBlock=some g→N g
 nc:∀g,vc.ownBlock=some g→N g
 lt:∀j,N j→j< W.heap.size
 kv:∀g,vk.ownBlock=some g→vv.ownBlock≠some g
 kc:∀g,vk.ownBlock=some g→vc.ownBlock≠some g
 vc_:∀g,vv.ownBlock=some g→vc.ownBlock≠some g
theorem NdV.rws (h:NdV W N b q vk vv vc lk lv lc):Rws W N vk vv vc lk lv lc:=⟨h.rk,h.rv,h.rc,h.nk,h.nv,h.nc,h.lt,h.kv,h.kc,h.vc_⟩
theorem Rws.ndv (h:Rws W N vk vv vc lk lv lc) (hb:Blk W b 73 #[.int .i64 q,vk,vv,vc]) (hn:N b):NdV W N b q vk vv vc lk lv lc:=⟨hb,h.rk,h.rv,h.rc,hn,h.nk,h.nv,h.nc,h.lt,h.kv,h.kc,h.vc_⟩
theorem Rws.chg (h:Rws W N vk vv vc lk lv lc) (hc:Chg G W W') (hk:∀g,vk.ownBlock=some g→¬G g) (hv:∀g,vv.ownBlock=some g→¬G g) (hcc:∀g,vc.ownBlock=some g→¬G g):Rws W' N vk vv vc lk lv lc:=
 ⟨own_chg h.rk hc hk,own_chg h.rv hc hv,own_chg h.rc hc hcc,h.nk,h.nv,h.nc,fun j hj=>Nat.lt_of_lt_of_le (h.lt j hj) hc.size,h.kv,h.kc,h.vc_⟩
theorem Rws.grew (h:Rws W N vk vv vc lk lv lc) (hc:Grew W W'):Rws W' N vk vv vc lk lv lc:=h.chg hc (fun _ _=>id) (fun _ _=>id) fun _ _=>id
theorem Rws.setK (h:Rws W N vk vv vc lk lv lc) (ha:Ap W W' vk v') (ho:W'.ownsRow 1 3 1 v' l'.length l'):Rws W' (fun j=>N j∨v'.ownBlock=some j) v' vv vc l' lv lc:=by
 obtain⟨a1,a2⟩:=ha.own h.rv h.kv;obtain⟨b1,b2⟩:=ha.own h.rc h.kc;have hz1:=ha.chg.size;refine⟨ho,a1,b1,fun g hg=> .inr hg,fun g hg=> .inl (h.nv g hg),fun g hg=> .inl (h.nc g hg),fun j hj=>?_,fun g hg e=>a2 g hg e,fun g hg e=>b2 g hg e,h.vc_⟩;rcases hj with e | e
 ·have:=h.lt j e;omega
 ·exact(ho.lt j e).2
theorem Rws.setV (h:Rws W N vk vv vc lk lv lc) (ha:Ap W W' vv v') (ho:W'.ownsRow 1 3 1 v' l'.length l'):Rws W' (fun j=>N j∨v'.ownBlock=some j) vk v' vc lk l' lc:=by
 obtain⟨a1,a2⟩:=ha.own h.rk fun g hg e=>h.kv g e hg;obtain⟨b1,b2⟩:=ha.own h.rc h.vc_;have hz1:=ha.chg.size;refine⟨a1,ho,b1,fun g hg=> .inl (h.nk g hg),fun g hg=> .inr hg,fun g hg=> .inl (h.nc g hg),fun j hj=>?_,fun g hg e=>a2 g e hg,h.kc,fun g hg e=>b2 g hg e⟩;rcases hj with e | e
 ·have:=h.lt j e;omega
 ·exact(ho.lt j e).2
theorem own_set {w:World} {base g n cap i:Nat} {xs:List Value} {u:Value} (h:w.ownsRow base 3 1 (.slice (some ⟨g,0,none⟩) n cap) n xs) (hi:i< n) :
  (w.setCell ⟨g,i,none⟩ u).ownsRow base 3 1 (.slice (some ⟨g,0,none⟩) n cap) n (xs.set i u):=by
 obtain⟨cur,hb,hg,hnc,hcm,hcs,htake,hxl⟩:=own_row h;have hB:Blk w g 3 cur:=hg;have hB2:=hB.put i u;refine own_mk hb hB2 hnc hcm (by simpa using hcs) (by rw[List.length_set];omega) fun j hj=>?_;rw[Array.getElem?_setIfInBounds,List.getElem?_set]
 have hj2:cur[j]? =xs[j]? :=by
  rw[←htake,List.getElem?_take,if_pos (by omega)];simp
 by_cases e:i=j
 ·subst e
  rw[if_pos rfl,if_pos rfl,if_pos (by omega),if_pos (by omega)]
 ·rw[if_neg e,if_neg e,hj2]
end
theorem NdOwn.setVal {W:World} {N:Nat→Prop} {b q:Nat} {nd:Nd} {i:Nat} (h:NdOwn W N b q nd) (hi:i< nd.vals.length) :
  ∃gv ck cv cc Ak Ac,Blk W b 73 #[.int .i64 q,.slice Ak nd.keys.length ck,.slice (some ⟨gv,0,none⟩) nd.vals.length cv,.slice Ac nd.kids.length cc]∧N gv∧gv< W.heap.size∧(∃u,W.cell? ⟨gv,i,none⟩=some u)∧W.frozen? ⟨gv,i,none⟩=false∧
   ∀ (v:Int) (W2:World),W.setCell ⟨gv,i,none⟩ (.int .i64 v)=W2→NdOwn W2 N b q { nd with vals:=nd.vals.set i v }∧Chg N W W2:=by
 obtain⟨vk,vv,vc,hV⟩:=h.v;have hne:=hV.ne;have rk:=hV.rk;have rv:=hV.rv;have rc:=hV.rc;rw[iv_len] at rk rv;rw[nv_len] at rc;obtain⟨Ak,ck,rfl, -⟩:=own_shape rk;obtain⟨Av,cv,rfl, -⟩:=own_shape rv;obtain⟨Ac,cc,rfl, -⟩:=own_shape rc;obtain⟨gv,rfl,hgl⟩:=own_block rv (by omega)
 have hown:(Value.slice (some ⟨gv,0,none⟩) nd.vals.length cv).ownBlock=some gv:=own_blockOf rv _ rfl;obtain⟨cur,hb,hg,hnc,hcm,hcs,htake,hxl⟩:=own_row rv;have hB:Blk W gv 3 cur:=hg;have hcell:W.cell? ⟨gv,i,none⟩=some cur[i]:=by rw[hB.cell];exact Array.getElem?_eq_getElem (by omega)
 refine⟨gv,ck,cv,cc,Ak,Ac,hV.blk,hV.nv _ hown,hgl,⟨_,hcell⟩,hB.frozen i,fun v W2 hW=>?_⟩;have hc:Chg (fun j=>j=gv) W W2:=hW▸(Chg.refl (fun j=>j=gv) W).setCell (p:=⟨gv,i,none⟩) (fun _=>rfl) _;have hl:(iv (nd.vals.set i v)).length=nd.vals.length:=by rw[iv_len,List.length_set]
 refine⟨NdV.own (vk:= .slice Ak nd.keys.length ck) (vv:= .slice (some ⟨gv,0,none⟩) nd.vals.length cv) (vc:= .slice Ac nd.kids.length cc) (nd:= { nd with vals:=nd.vals.set i v })
  ⟨hV.blk.chg hc fun e=>hne.2.1 (by rw[e];exact hown),own_chg hV.rk hc fun g hg e=>hV.kv g hg (by rw[e];exact hown),?_,own_chg hV.rc hc fun g hg e=>hV.vc_ gv hown (by rw[←e];exact hg),hV.nb,hV.nk,hV.nv,hV.nc,fun j hj=>Nat.lt_of_lt_of_le (hV.lt j hj) hc.size,hV.kv,hV.kc,hV.vc_⟩,hc.mono fun j _ e=>by subst e;exact hV.nv _ hown⟩
 rw[hl];have:=own_set (u:= .int .i64 v) rv hi;rw[hW] at this;have e:(iv nd.vals).set i (.int .i64 v)=iv (nd.vals.set i v):=by simp[iv,List.map_set]
 rw[e] at this;exact this
end
section
open Go.RowKit Go.Maps
theorem WayAt.whole {rd:Nat→Option Nd} {h D root:Nat} {k:Int} {L:List KV} {P:List Nat} {d q:Nat} {nd:Nd} {A M B:List KV} {P1 PM P2:List Nat} (a:WayAt rd h D root k L P d q nd A M B P1 PM P2):Tr rd h D root L P:=by
 have:=a.ctx.plug rd M PM (fun _ _=>rfl) (fun _ _=>rfl) a.tr a.occ;rwa[←a.l,←a.p] at this
theorem TS.depth {x:Rp} {D root:Nat} {L:List KV} {P:List Nat} (h:TS x D root L P) (hh:2≤halfN x.sz) (hl:L.length≤1000):D≤9:=by
 rcases h.tr.deep hh with e | e
 ·omega
 ·by_cases hD:D≤9
  ·exact hD
  ·have:2 ^ 10≤2 ^ (D+1):=Nat.pow_le_pow_right (by omega) (by omega)
   omega
theorem TS.write {x:Rp} {D root q:Nat} {L L':List KV} {P:List Nat} {bs:List Int} (h:TS x D root L P) (hq:q∈P) (t:Tr (x.put q (.new bs)).nd (halfN x.sz) D root L' P) (hs:Srt L'):TS (x.put q (.new bs)) D root L' P:=by
 obtain⟨c,h1,h2⟩:=h.pgs q hq;refine⟨t,h.nd,hs,?_⟩;rw[Rp.put_usedU h1 h2 rfl,h.used]
theorem WayAt.q_mem {rd:Nat→Option Nd} {h D root:Nat} {k:Int} {L:List KV} {P:List Nat} {d q:Nat} {nd:Nd} {A M B:List KV} {P1 PM P2:List Nat} (a:WayAt rd h D root k L P d q nd A M B P1 PM P2):q∈P:=by
 rw[a.p];exact List.mem_append_left _ (List.mem_append_right _ a.tr.root_mem)
def PuOut (w w':World) (t p root:Nat) (F:Nat→Prop) (x:Rp) (D0:Nat) (k v:Int) (L:List KV) (e:Ending):Prop:=
 (e= .returned (.int .i64 0)∧∃y F' D P,BT w' t p root F' y∧Rch F F' w w'∧x.like y∧TS y D root (putL L k v) P)∨(e= .returned (.int .i64 21)∧Full w w' t p root F x (L.length+3 - x.now.countP Pk.used))
theorem FullG.full {w w':World} {t p root m m':Nat} {F:Nat→Prop} {x:Rp} (h:FullG F w w' t p root F x m) (hm:m≤m'):Full w w' t p root F x m':=by
 obtain⟨z,F',h1,h2,h3,h4,h5,h6⟩:=h;exact⟨z,⟨F',h1,h2,h3⟩,h4,by omega,h6⟩
structure PuJ (w W:World) (t p root:Nat) (F:Nat→Prop) (x:Rp) (k:Int) (L:List KV) (bn d q:Nat) (nd:Nd) (F':Nat→Prop) (y:Rp) (D:Nat) (P:List Nat) (A M B:List KV) (P1 PM P2:List Nat) (N:Nat→Prop) (D0:Nat):Prop where
 bt:BT W t p root F' y
 rch:Rch F F' w W
 like:x.like y
 ts:TS y D root L P
 way:WayAt y.nd (halfN y.sz) D root k L P d q nd A M B P1 PM P2
 own:NdOwn W N bn q nd
 nF:∀j,N j→¬F' j
 nw:∀j,N j→w.heap.size≤j
 room:nd.keys.length+1≤2*halfN y.sz - 1
 used:y.now.countP Pk.used+d≤x.now.countP Pk.used+2+D
 dep:D≤D0+1
 tl:t< w.heap.size
theorem nd_put_fit {nd:Nd} {sz i:Nat} {k v:Int} (f:nd.Fit sz) (hi:i≤nd.keys.length) (hm:nd.keys.length+1≤mostN sz) (hk:i64 k) (hv:i64 v):(⟨insI nd.keys i k,insI nd.vals i v,[]⟩:Nd).Fit sz:=by
 have l1:=insI_len (l:=nd.keys) (i:=i) k hi;have l2:=insI_len (l:=nd.vals) (i:=i) v (by rw[f.vals];exact hi);have hvl:=f.vals;exact⟨by simp only;omega,by simp only;omega,.inl rfl,fun a ha=>(insI_mem ha).elim (fun e=>e▸hk) (f.ki a),fun a ha=>(insI_mem ha).elim (fun e=>e▸hv) (f.vi a),fun c hc=>(by cases hc)⟩
theorem half_most {sz:Nat} (h:64≤sz):2*halfN sz - 1≤mostN sz:=by unfold halfN;unfold mostN;omega
section
variable {w W:World} {t p root:Nat} {F:Nat→Prop} {x:Rp} {k v:Int} {L:List KV} {bn d q:Nat} {nd:Nd} {F':Nat→Prop} {y:Rp} {D:Nat} {P:List Nat} {A M B:List KV} {P1 PM P2:List Nat} {N:Nat→Prop} {D0:Nat}
theorem PuJ.fail (h:PuJ w W t p root F x k L bn d q nd F' y D P A M B P1 PM P2 N D0) {W1 w':World} {G G1:Nat→Prop} {m:Nat} (hc:Chg G1 W W1) (hG1:∀j,G1 j→F' j∨w.heap.size≤j) (hf:FullG G W1 w' t p root F' y m) (hm:m≤1) (hG:∀j,G j→F' j∨w.heap.size≤j):Full w w' t p root F x (L.length+3 - x.now.countP Pk.used):=by
 have hu:=h.ts.used;have hd:=h.ts.tr.pages (half_two h.bt.gp.szs.2.2.1);have hF':∀j,j< w.heap.size→F' j→F j:=fun j hj e=>(h.rch.new j e).resolve_right (by omega);have h1:Chg F w W1:=Chg.trans h.rch.chg hc fun j hj e=>hF' j hj ((hG1 j e).resolve_right (by omega))
 exact(hf.more (m':=L.length+3 - x.now.countP Pk.used) h.like (by omega) h1 h.rch.new fun j hj e=>hF' j hj ((hG j e).resolve_right (by omega))).full (Nat.le_refl _)
theorem PuJ.put (h:PuJ w W t p root F x k L bn 0 q nd F' y D P A M B P1 PM P2 N D0) (hk:getK L k=none) {W1 w':World} {G1:Nat→Prop} (hc:Chg G1 W W1) (hG1:∀j,G1 j→F' j∨w.heap.size≤j) (hz:y.sz≤4096)
  (hto:BTTo W1 w' t p root F' (y.put q (.new (ndL ⟨insI nd.keys (atI nd.keys k) k,insI nd.vals (atI nd.keys k) v,[]⟩ y.sz)))) (hfit:(⟨insI nd.keys (atI nd.keys k) k,insI nd.vals (atI nd.keys k) v,[]⟩:Nd).Fit y.sz) :
  ∃y F' D P,BT w' t p root F' y∧Rch F F' w w'∧x.like y∧TS y D root (putL L k v) P:=by
 obtain⟨F2,h1,h2,h3⟩:=hto;have hsz:=hc.size;have hw:=h.rch.chg.size;have hF':∀j,j< w.heap.size→F' j→F j:=fun j hj e=>(h.rch.new j e).resolve_right (by omega);have hr1:Chg F w W1:=Chg.trans h.rch.chg hc fun j hj e=>hF' j hj ((hG1 j e).resolve_right (by omega));obtain⟨c,p1,p2⟩:=h.ts.pgs q h.way.q_mem
 have ht:=h.way.put (v:=v) h.ts.srt h.ts.nd (h.way.miss hk) h.room (Rp.nd_new hfit (List.getElem?_eq_some_iff.1 p1).1 hz) fun i _ hi=>Rp.nd_other hi;exact⟨_,F2,D,P,h1,⟨Chg.trans hr1 h2 fun j hj e=>hF' j hj e,fun j hj=>(h3 j hj).elim (h.rch.new j) fun e=> .inr (by omega)⟩,h.like.trans (y.put_like _ _),h.ts.write h.way.q_mem ht (putL_srt h.ts.srt k v)⟩
theorem PuJ.down (h:PuJ w W t p root F x k L bn (d+1) q nd F' y D P A M B P1 PM P2 N D0) {W1:World} {b3 c:Nat} {kd:Nd} {N3:Nat→Prop} {A' M' B':List KV} {P1' PM' P2':List Nat} (hw:WayAt y.nd (halfN y.sz) D root k L P d c kd A' M' B' P1' PM' P2') (hc:Chg F' W W1) (hb:BT W1 t p root F' y) (hn:NdOwn W1 N3 b3 c kd) (hN:∀j,N3 j→W.heap.size≤j) (hr:kd.keys.length+1≤2*halfN y.sz - 1) :
  PuJ w W1 t p root F x k L b3 d c kd F' y D P A' M' B' P1' PM' P2' N3 D0:=by
 have hsz:=h.rch.chg.size;have hlt:=h.bt.gp.lt;exact⟨hb,h.rch.trans ⟨hc,fun j e=> .inl e⟩,h.like,h.ts,hw,hn,fun j hj e=>by have:=hN j hj;have:=hlt j e;omega,fun j hj=>by have:=hN j hj;omega,hr,by have:=h.used;omega,h.dep,h.tl⟩
theorem PuJ.split (h:PuJ w W t p root F x k L bn (d+1) q nd F' y D P A M B P1 PM P2 N D0) (hk:getK L k=none) {W1 w':World} {c r:Nat} {kd:Nd} {N' F2:Nat→Prop} {k0 v0:Int} {G:Nat→Prop} (hci:nd.kids[atI nd.keys k]? =some c) (hkd:y.nd c=some kd) (hf:kd.keys.length=2*halfN y.sz - 1) (hh:2≤halfN y.sz) (hz:y.sz≤4096)
  (hr:y.now[r]? =some .no) (hk0:kd.keys[halfN y.sz - 1]? =some k0) (hv0:kd.vals[halfN y.sz - 1]? =some v0) (hb:BT w' t p root F2 (y.splitP r c q (kd.hi (halfN y.sz)) (kd.lo (halfN y.sz)) (nd.ins (atI nd.keys k) k0 v0 r)))
  (hc1:Chg F' W W1) (hc:Chg G W1 w') (hG:∀j,G j→F' j∨w.heap.size≤j) (hF2:∀j,F2 j→F' j∨W1.heap.size≤j) (hn:NdOwn w' N' bn q (nd.ins (atI nd.keys k) k0 v0 r)) (hnF:∀j,N' j→¬F2 j) (hnw:∀j,N' j→N j∨W1.heap.size≤j)
  (f1:(kd.hi (halfN y.sz)).Fit y.sz) (f2:(kd.lo (halfN y.sz)).Fit y.sz) (f3:(nd.ins (atI nd.keys k) k0 v0 r).Fit y.sz) :
  ∃P' PM' e ke A' M' B' P1' PM2 P2',(BT w' t p root F2 (y.splitP r c q (kd.hi (halfN y.sz)) (kd.lo (halfN y.sz)) (nd.ins (atI nd.keys k) k0 v0 r))∧Rch F F2 w w'∧x.like (y.splitP r c q (kd.hi (halfN y.sz)) (kd.lo (halfN y.sz)) (nd.ins (atI nd.keys k) k0 v0 r))∧
   TS (y.splitP r c q (kd.hi (halfN y.sz)) (kd.lo (halfN y.sz)) (nd.ins (atI nd.keys k) k0 v0 r)) D root L P'∧WayAt (y.splitP r c q (kd.hi (halfN y.sz)) (kd.lo (halfN y.sz)) (nd.ins (atI nd.keys k) k0 v0 r)).nd (halfN y.sz) D root k L P' (d+1) q (nd.ins (atI nd.keys k) k0 v0 r) A M B P1 PM' P2)∧
   (nd.ins (atI nd.keys k) k0 v0 r).kids[atI (nd.ins (atI nd.keys k) k0 v0 r).keys k]? =some e∧WayAt (y.splitP r c q (kd.hi (halfN y.sz)) (kd.lo (halfN y.sz)) (nd.ins (atI nd.keys k) k0 v0 r)).nd (halfN y.sz) D root k L P' d e ke A' M' B' P1' PM2 P2'∧ke.keys.length+1≤2*halfN y.sz - 1∧
   (y.splitP r c q (kd.hi (halfN y.sz)) (kd.lo (halfN y.sz)) (nd.ins (atI nd.keys k) k0 v0 r)).now.countP Pk.used=y.now.countP Pk.used+1:=by
 have hrP:=h.ts.new hr;have hqP:=h.way.q_mem;obtain⟨cq,q1,q2⟩:=h.ts.pgs q hqP;obtain⟨cc,c1,c2, -⟩:=Rp.nd_some hkd
 have hcP:c∈P:=by
  obtain⟨e,nd',A',M',B',P1',PM',P2',g1,g2⟩:=h.way.down h.ts.srt (h.way.miss hk);rw[hci] at g1;cases g1;exact g2.q_mem
 have hrc:r≠c:=fun e=>hrP (e▸hcP);have hrq:r≠q:=fun e=>hrP (e▸hqP)
 have hcq:c≠q:=fun e=>by
  subst e;obtain⟨nd',P0,g1,g2,g3,g4,g5,g6⟩:=h.way.tr;rw[h.way.nd] at g1;cases g1;obtain⟨e1,e2,e3,e4⟩:=h.way.apart h.ts.nd;obtain⟨M',Q,t1,t2⟩:=g5.mem (List.mem_of_getElem? hci);rw[g6] at e3;exact(List.nodup_cons.1 e3).1 (t2 c t1.1.root_mem)
 obtain⟨k1,v1,g1,g2,g3⟩:=h.way.split (r:=r) h.ts.nd hh hci hkd hf h.room hrP;rw[hk0] at g1;cases g1;rw[hv0] at g2;cases g2;obtain⟨n1,n2,n3,n4⟩:=Rp.splitP_nd (x:=y) (r:=r) (qk:=c) (qn:=q) (List.getElem?_eq_some_iff.1 hr).1 (List.getElem?_eq_some_iff.1 c1).1 (List.getElem?_eq_some_iff.1 q1).1 f1 f2 f3 hz hrc hrq hcq
 obtain⟨P',PM',w1,w2⟩:=g3 _ n2 n1 n3 fun j hj j1 j2=>n4 j (fun e=>hrP (e▸hj)) j1 j2;have hu:=Rp.splitP_used (hi:=kd.hi (halfN y.sz)) (lo:=kd.lo (halfN y.sz)) (pn:=nd.ins (atI nd.keys k) k0 v0 r) hr c1 c2 q1 q2
 have hts:TS (y.splitP r c q (kd.hi (halfN y.sz)) (kd.lo (halfN y.sz)) (nd.ins (atI nd.keys k) k0 v0 r)) D root L P':=⟨w1.whole,w2.nodup_iff.2 (List.nodup_cons.2 ⟨hrP,h.ts.nd⟩),h.ts.srt,by rw[hu,w2.length_eq,h.ts.used];rfl⟩;obtain⟨e,ke,A',M',B',P1',PM2,P2',d1,d2⟩:=w1.down h.ts.srt (w1.miss hk)
 have hke:ke.keys.length+1≤2*halfN y.sz - 1:=by
  have l1:(kd.lo (halfN y.sz)).keys.length=halfN y.sz - 1:=by simp[Nd.lo];omega
  have l2:(kd.hi (halfN y.sz)).keys.length=halfN y.sz - 1:=by simp[Nd.hi];omega
  have hen:=d2.nd;rcases ins_kid (kd:=kd) hci d1 with e1 | e1
  ·rw[e1,n2] at hen;cases hen;omega
  ·rw[e1,n1] at hen;cases hen;omega
 have hsz:=h.rch.chg.size;have hsz1:=hc1.size;have hF':∀j,j< w.heap.size→F' j→F j:=fun j hj e=>(h.rch.new j e).resolve_right (by omega)
 refine⟨P',PM',e,ke,A',M',B',P1',PM2,P2',⟨hb,⟨Chg.trans (Chg.trans h.rch.chg hc1 hF') hc fun j hj e=>hF' j hj ((hG j e).resolve_right (by omega)),fun j hj=>(hF2 j hj).elim (h.rch.new j) fun e=> .inr (by omega)⟩,h.like.trans Rp.splitP_like,hts,w1⟩,d1,d2,hke,hu⟩
end
end
section
open Go.RowKit Go.Maps
theorem bat_any (p r:Nat) (w W:World) (hW:w.alloc (.cells #[.pointer (some ⟨p,0,none⟩),.int .i64 r] 78)=W) :
  Calls prog 22 #[.pointer (some ⟨p,0,none⟩),.int .i64 r] w fun e w'=>e= .returned (.pointer (some ⟨w.heap.size,0,none⟩))∧W=w':=by
 subst hW;go_enter func22,ntmps22
 go_wp2
 go_ret
 exact⟨rfl,rfl⟩
def nd0:Nd:=⟨[],[],[]⟩
theorem nd0_fit (sz:Nat):nd0.Fit sz:=⟨rfl,Nat.zero_le _,.inl rfl,fun k h=>(by cases h),fun k h=>(by cases h),fun k h=>(by cases h)⟩
def NwOut (w w':World) (p:Nat) (F:Nat→Prop) (x:Rp) (e:Ending):Prop:=
 ∃t r F',e= .returned (.tuple #[.pointer (some ⟨t,0,none⟩),.int .i64 0])∧x.now[r]? =some .no∧BT w' t p r F' ((x.put r .zero).put r (.new (ndL nd0 x.sz)))∧Chg F w w'∧(∀j,F' j→F j∨w.heap.size≤j)∧w.heap.size≤t
theorem bnew_any (p:Nat) (F:Nat→Prop) (x:Rp) (w:World) (h:GP w p F x) (ho:x.was≠none) (hs:1≤x.slack) (hn:Pk.no∈x.now) :
  Calls prog 35 #[.pointer (some ⟨p,0,none⟩)] w fun e w'=>NwOut w w' p F x e:=by
 have hal:=gp_alloc_any p F x w h ho;have H:=yH (yA5 hal h ho hs hn);clear hal h ho hs hn;go_enter func35,ntmps35
 go_wp2_with fail
 refine H.out.1.mono ?_;rintro e w1 (⟨r,hr,hrf,rfl,F1,h1,hc1,hn1⟩ | ⟨hno,rfl, -⟩);rotate_left
 ·exact absurd ⟨by have:=H.out.2.2.2.1;omega,(yP4 H.out)⟩ hno
 obtain⟨W2,hW2⟩:∃W,w1.alloc (.cells #[.pointer (some ⟨p,0,none⟩),.int .i64 r] 78)=W:=⟨_,rfl⟩;have hr4:r< 4096:=by have:=(List.getElem?_eq_some_iff.1 hr).1;have:=H.out.2.1.szs;omega
 have H1:=yH (yA4 h1 hc1 hn1 hr);clear h1 hc1 hn1 hr hrf;go_wp2_with (go_at_call 22;(refine(bat_any p r w1 W2 hW2).mono ?_);rintro e w2 ⟨rfl,rfl⟩)
 have hb2:Blk W2 w1.heap.size 78 #[.pointer (some ⟨p,0,none⟩),.int .i64 r]:=hW2▸Blk.new _ _ _;have hg2:Grew w1 W2:=hW2▸(Chg.refl _ _).alloc _;have hz2:W2.heap.size=w1.heap.size+1:=by subst hW2;simp
 obtain⟨W3,hW3⟩:∃W,W2.alloc (.cells #[.int .i64 r,.slice none 0 0,.slice none 0 0,.slice none 0 0] 73)=W:=⟨_,rfl⟩;rw[hW3];have hg3:Grew w1 W3:=hW3▸hg2.alloc _;have hb3:Blk W3 W2.heap.size 73 #[.int .i64 r,.slice none 0 0,.slice none 0 0,.slice none 0 0]:=hW3▸Blk.new _ _ _;have hz3:W3.heap.size=W2.heap.size+1:=by subst hW3;simp
 have hbt:BT W3 w1.heap.size p r F1 (x.put r .zero):=⟨H1.out.1.grew hg3,hb2.grew (hW3▸(Chg.refl _ _).alloc _),fun e=>by have:=H1.out.1.lt _ e;omega⟩
 have hna:NdAt W3 (fun j=>j=W2.heap.size) W2.heap.size r nd0:=⟨none,0,none,0,none,0,hb3,Sl.nil _ _ _,Sl.nil _ _ _,Sl.nil _ _ _,rfl,fun a h=>(by cases h),fun a h=>(by cases h),fun a h=>(by cases h),fun j hj=>by omega⟩;have hil:r< x.now.length:=(List.getElem?_eq_some_iff.1 H1.out.2.2.2).1
 have hsv:=bsave_any w1.heap.size p r W2.heap.size r F1 (fun j=>j=W2.heap.size) (x.put r .zero) .zero nd0 W3 hbt hna (nd0_fit _) H.out.2.2.1 (by rw[Rp.put_at hil,if_pos rfl]) rfl (fun e=>by have:=H1.out.1.lt _ e;omega);have H3:=yH (yA3 hsv hg3 hz3);clear hsv hbt hna hb2 hb3 hg2 hg3 hW3 hW2 hz2 hz3 hil;refine H3.out.1.mono ?_;rintro e w4 (⟨rfl,F2,k1,k2,k3⟩ | ⟨hns, -, -, -⟩)
 rotate_left
 ·have h9:=Rp.put_slack (c:= .zero) H.out.2.2.1 H1.out.2.2.2
  simp[Pk.isNew] at h9
  have:=H.out.2.2.2.1;omega
 have H4:=yH (yA3 k1 k2 k3);clear k1 k2 k3;go_wp2_with fail
 go_ret2
 have hs1:=H1.out.2.1.size;have hs3:=H3.out.2.1.size;refine⟨w1.heap.size,r,F2,rfl,H1.out.2.2.2,H4.out.1,Chg.trans (H1.out.2.1.grew H3.out.2.1) H4.out.2.1 fun i hi e=>(H1.out.2.2.1 i e).resolve_right (by omega),fun j hj=>(H4.out.2.2 j hj).elim (H1.out.2.2.1 j) fun e=> .inr (by omega),hs1⟩
end
end Go.Proofs.YtpkkcicaeldodaaGreatDoor
