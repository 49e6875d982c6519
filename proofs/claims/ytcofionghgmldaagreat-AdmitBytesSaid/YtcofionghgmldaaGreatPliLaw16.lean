/- Whether an image is taken in: it is told of every image; more room does no harm. -/
import Derived.Test.YtcofionghgmldaaGreatPliTar
import Derived.Test.YtcofionghgmldaaGreatPliReach
import Derived.Test.YtcofionghgmldaaGreatPliInst
import Derived.Test.YtcofionghgmldaaGreatPMLaw
import Derived.Test.YtcofionghgmldaaGreatPliL5E
import Derived.KernelRfl
import Derived.Test.YtcofionghgmldaaGreatPliTy
import Derived.Test.YtcofionghgmldaaGreatPliNt
namespace Go.Pli
open Go Go.PM
theorem aOn:∀l:List Int,(eJ l).length≤l.length
 | []=>bL _
 | a::l=>by
  have:=aOn l;unfold eJ;cases h:eJ l with
  | nil=>simp
  | cons b r=>
   rw[h] at this;simp only[aJ] at this⊢;cases a==b <;> simp only[aA,aB,aJ] <;> omega
theorem aGo {m:Im} (hs:aM m=true) {e:List Int} (he:e∈eF m):e.length≤1000∧∀x∈e,inM m x=true:=by
 obtain⟨f,hf,rfl⟩:=gE.1 he;have hfm:inM m f=true:=bR.2 (gH.1 hf);have ht:=aFi (cX hs).2;constructor
 ·unfold ofB;rw[hfm];simp only[aA];have h1:=aOn (gQ (uX m f));have h2:=bAw (cX hs).1 hfm;rw[(wB _).length_eq] at h1;omega
 ·intro x hx;exact aFg ht hfm ((aLU hfm).1 hx)
theorem aNU {m:Im} (hs:aM m=true):wZ m=true:=by
 simp only[wZ,bT,aC];intro e he;obtain⟨h1,h2⟩:=aGo hs he;exact⟨gB (by omega),h2⟩
theorem bAp {m:Im} (hs:aM m=true) {l:List (List Sh)} (hl:dK l=true):∃r,pH m l=some r:=by
 have h12:=(cH (cX hs).1).methods;have hlen:=aGp m;obtain⟨r,hr,R⟩:=aKc (ED:=eF m) (by omega) fun e he=>(aGo hs he).1;have hfew:=R.few;have hall:(okL r&&r.all (fun p=>okL p&&p.all (inM m)))=true:=by
  simp only[aC,bT];refine⟨gB (by omega),fun p hp=>?_⟩;have h4:∀x∈p,inM m x=true:=fun x hx=>by
   obtain⟨x0,x1⟩:=(R.all x).1 (iY.2 ⟨p,hp,hx⟩);exact bR.2 ⟨x0,by omega⟩
  have:=aGt (a:=p) (b:=ints m.2.2.2.1.length) ((R.srt p hp).imp fun h=>by omega) fun x hx=>gH.2 (bR.1 (h4 x hx));rw[hY] at this;exact⟨gB (by omega),h4⟩
 unfold pH sO;rw[hs,hl,aNU hs,hr];simp only[aG,aA,aF,hall];exact⟨_,rfl⟩
theorem aFC {m:Im} (h:gA m=0):aM m=true:=by
 unfold gA at h;unfold aM;cases h1:bI m <;> cases h2:kL m <;> simp only[h1,h2,aA,aB] at h⊢ <;> first | rfl | (exact absurd h (by decide))
structure xK (m:Im) (t:List (List Sh)×Int×Int×Int×Unit) (n:Int×Int×Int×Unit) (p:Int×Int×Unit):Prop where
 check:nF m=some t
 ok:dK t.1=true
 needs:pH m t.1=some n
 pot:tZ m t.1=some p
theorem told {m:Im} (hs:aM m=true):∃t n p,xK m t n p:=by
 obtain⟨t,h1,h2,-⟩:=aPY hs;obtain⟨n,h3⟩:=bAp hs h2;exact⟨t,n,qA m t.1 (ints m.2.2.2.1.length),h1,h2,h3,by unfold tZ;rw[hs,h2];rfl⟩
def qY (m:Im) (t:List (List Sh)×Int×Int×Int×Unit) (n:Int×Int×Int×Unit) (p:Int×Int×Unit):List (List Sh)×Int×Unit:=
 bif t.2.2.2.1 !=0 then ([],t.2.2.2.1,())
 else bif n.2.2.1 !=0 then ([],n.2.2.1,())
 else bif p.2.1 !=0 then ([],p.2.1,())
 else bif decide (n.1>m.2.2.2.2.2.1) then ([],7,())
 else bif decide (n.2.1>m.2.2.2.2.2.2.1) then ([],7,())
 else (t.1,0,())
theorem aCj {m:Im} (h0:gA m=0) {t n p} (h:xK m t n p):nX m=some (qY m t n p):=by
 have h0':(gA m !=0)=false:=by simp[h0]
 unfold nX qY;rw[h0',h.check];simp only[aB,aF];cases t.2.2.2.1 !=0 <;> simp only[aA,aB];rw[h.needs];simp only[aF];cases n.2.2.1 !=0 <;> simp only[aA,aB];rw[h.pot];simp only[aF];cases p.2.1 !=0 <;> simp only[aA,aB];cases decide (n.1>m.2.2.2.2.2.1) <;> simp only[aA,aB];cases decide (n.2.1>m.2.2.2.2.2.2.1) <;> simp only[aA,aB]
theorem aIg {m:Im} (h0:gA m≠0):nX m=some ([],gA m,()):=by
 have h0':(gA m !=0)=true:=by simp[h0]
 unfold nX;rw[h0'];rfl
theorem bAn {m:Im} {t n p} (h:xK m t n p):dK (qY m t n p).1=true∧((qY m t n p).2.1≠0→(qY m t n p).1=[]):=by
 have hn:dK []=true:=by rfl
 unfold qY;cases h1:t.2.2.2.1 !=0 <;> simp only[aA,aB]
 ·cases n.2.2.1 !=0 <;> simp only[aA,aB]
  ·cases p.2.1 !=0 <;> simp only[aA,aB]
   ·cases decide (n.1>m.2.2.2.2.2.1) <;> simp only[aA,aB]
    ·cases decide (n.2.1>m.2.2.2.2.2.2.1) <;> simp only[aA,aB]
     ·exact⟨h.ok,fun h=>absurd rfl h⟩
     ·exact⟨hn,fun _=>trivial⟩
    ·exact⟨hn,fun _=>trivial⟩
   ·exact⟨hn,fun _=>trivial⟩
  ·exact⟨hn,fun _=>trivial⟩
 ·exact⟨hn,fun _=>trivial⟩
theorem bAB (m:Im):∃r,nX m=some r∧dK r.1=true∧(r.2.1≠0→r.1=[]):=by
 by_cases h0:gA m=0
 ·obtain⟨t,n,p,ht⟩:=told (aFC h0);exact⟨_,aCj h0 ht,bAn ht⟩
 ·exact⟨_,aIg h0,rfl,fun _=>rfl⟩
def aJ4 (m:Im) (s h:Int):Im:=(m.1,m.2.1,m.2.2.1,m.2.2.2.1,m.2.2.2.2.1,s,h,())
end Go.Pli

namespace Go.Pli
open Go Go.PM
theorem aE7 (v:Nat) (h:v<4294967296):IntKind.i32.wrap ((BitVec.ofInt 32 (IntKind.i32.wrap ((IntKind.u32.wrap (v:Int)).fdiv 2)) ^^^ BitVec.ofInt 32 (IntKind.i32.wrap (0 - (IntKind.i32.wrap (IntKind.u32.wrap ((BitVec.ofInt 32 (IntKind.u32.wrap (v:Int))&&&BitVec.ofInt 32 1).toNat)))))).toNat)=if v % 2=0 then ((v/2:Nat):Int) else -((v/2:Nat):Int) - 1:=by
 have h1:IntKind.u32.wrap (v:Int)=v:=by rw[IntKind.wrap_u32];omega
 have h2:((v:Int)).fdiv 2=((v/2:Nat):Int):=by rw[Int.fdiv_eq_ediv_of_nonneg _ (by omega)];omega
 have h3:IntKind.i32.wrap ((v/2:Nat):Int)=((v/2:Nat):Int):=by rw[IntKind.wrap_i32];omega
 have h4:(BitVec.ofInt 32 (v:Int)&&&BitVec.ofInt 32 1).toNat=v % 2:=by
  have a1:(BitVec.ofInt 32 (v:Int)).toNat=v:=by simp;omega
  have a2:(BitVec.ofInt 32 1).toNat=1:=rfl;rw[BitVec.toNat_and,a1,a2,Nat.and_one_is_mod]
 have h5:IntKind.u32.wrap ((v % 2:Nat):Int)=((v % 2:Nat):Int):=by rw[IntKind.wrap_u32];omega
 have h6:IntKind.i32.wrap ((v % 2:Nat):Int)=((v % 2:Nat):Int):=by rw[IntKind.wrap_i32];omega
 have hv2:(BitVec.ofInt 32 ((v/2:Nat):Int)).toNat=v/2:=by simp;omega
 rw[h1,h2,h3,h4,h5,h6];by_cases hp:v % 2=0
 ·rw[if_pos hp,hp];have hz:BitVec.ofInt 32 (IntKind.i32.wrap (0 - ((0:Nat):Int)))=0#32:=by decide
  rw[hz,BitVec.xor_zero,hv2,IntKind.wrap_i32];omega
 ·have hp1:v % 2=1:=by omega
  rw[if_neg hp,hp1];have hz:BitVec.ofInt 32 (IntKind.i32.wrap (0 - ((1:Nat):Int)))=BitVec.allOnes 32:=by decide
  rw[hz,BitVec.xor_allOnes,BitVec.toNat_not,hv2,IntKind.wrap_i32];omega
theorem aIo {m:Int} (h0: -2147483648≤m) (h1:m≤2147483647):zg m<4294967296:=by unfold zg;split <;> omega
theorem aPF {m:Int} (h0: -2147483648≤m) (h1:m≤2147483647):(if zg m % 2=0 then ((zg m/2:Nat):Int) else -((zg m/2:Nat):Int) - 1)=m:=by
 unfold zg;split <;> split <;> omega
theorem aXa {m:Int} {rest:List Int} (h0: -2147483648≤m) (h1:m≤2147483647) (hb:bC rest=true):kQ (enc (zg m)++rest,false,())=some (m,(rest,false,()),()):=by
 have hz:=aIo h0 h1;unfold kQ;rw[uI (by omega) hb (by omega) (by omega)];simp only[aF,aE7 (zg m) hz,aPF h0 h1]
def aW3 (l:List Int):Prop:=∀u∈l,-2147483648≤u∧u≤2147483647
end Go.Pli

namespace Go.Pli
open Go Go.PM
theorem aI9 (l:List Int):(strOfNums l).toList=l.map fun n=>UInt8.ofNat n.toNat:=by
 rw[ByteArray.toList_eq,strOfNums_data]
theorem aH3:∀{l:List Int},bC l=true→(l.map fun n=>UInt8.ofNat n.toNat).map (fun u=>(u.toNat:Int))=l
 | [],_=>rfl
 | x::l,h=>by
  simp only[bC,fA,aC,aO] at h;have ih:=aH3 (l:=l) (by simpa[bC] using h.2);rw[dM,dM,ih];congr 1;have:(UInt8.ofNat x.toNat).toNat=x.toNat:=by
   rw[UInt8.toNat_ofNat'];omega
  rw[this];omega
theorem aJa {a b:List Int} (ha:bC a=true) (hb:bC b=true) (h:(strOfNums a).toList=(strOfNums b).toList):a=b:=by
 rw[aI9,aI9] at h;rw[←aH3 ha,←aH3 hb,h]
end Go.Pli

namespace Go.Pli
open Go Go.PM
theorem aBe {l:List Int} {n:Int} (hb:bC l=true) (h0:0≤n) (h1:n<9223372036854775808):
  (∃v m:Nat,aFO l=some ((v:Int),(m:Int),())∧1≤m∧m≤l.length∧l.take m=enc v∧v<128 ^ 5∧(v:Int)≤n∧bS (l,false,()) n=some ((v:Int),(l.drop m,false,()),()))∨
  (∃(x y:Int) (l':List Int),aFO l=some (x,y,())∧¬(y>0∧x≤n)∧bS (l,false,()) n=some (0,(l',true,()),())):=by
 have hbs:bC (l.take 5)=true:=aEJ 5 hb;unfold bS next aFO
 simp only[hbs,aA,aB];have hw:IntKind.u64.wrap n=n:=by rw[IntKind.wrap_u64];omega
 have hn0:decide (n<0)=false:=aT (by omega);cases hd:kD 5 0 0 l with
 | none=>exact .inr ⟨0,0,l,rfl,by omega,rfl⟩
 | some x=>
  obtain⟨y,m,ok⟩:=x;cases ok with
  | false=>exact .inr ⟨0,0,l.drop m,rfl,by omega,rfl⟩
  | true=>
   obtain⟨v,m',e1,e2,e3,e4,e5,e6,e7⟩:=aHS 5 0 0 l y m hbs hd;have hy:y=v:=by omega
   have hm:m=m':=by omega
   subst hy;subst hm;simp only[aF,aV,aB,hn0,hw];by_cases hgt:(y:Int)>n
   ·rw[aH hgt];exact .inr ⟨_,_,l.drop m,rfl,by omega,rfl⟩
   ·rw[aT hgt];have hw2:IntKind.i64.wrap (y:Int)=y:=w64 (by omega) (by omega);refine .inl ⟨y,m,rfl,e3,e4,?_,by omega,by omega,by simp only[aB,hw2]⟩;rw[e5];exact (aEp e6 (by omega)).symm
theorem aXb (l:List Int):kQ (l,true,())=some (0,(l,true,()),()):=by
 have h:bS (l,true,()) (4294967295:Int)=some (((0:Nat):Int),(l,true,()),()):=rfl;unfold kQ;rw[h];simp only[aF,aE7 0 (by omega)];rfl
def unz (v:Nat):Int:=if v % 2=0 then ((v/2:Nat):Int) else -((v/2:Nat):Int) - 1
theorem aMW {l l':List Int} {bad:Bool} {v:Nat} (h:bS (l,false,()) (4294967295:Int)=some ((v:Int),(l',bad,()),())) (hv:v<4294967296):kQ (l,false,())=some (unz v,(l',bad,()),()):=by
 unfold kQ;rw[h];simp only[aF,aE7 v hv];rfl
theorem aPw {v:Nat} (hv:v<4294967296):zg (unz v)=v∧-2147483648≤unz v∧unz v≤2147483647:=by
 unfold zg unz;refine⟨?_,?_,?_⟩ <;> split <;> (try split) <;> omega
structure bAF (s:List Int) (at_:Nat) (bad:Bool) (r:Rd):Prop where
 le:at_≤s.length
 rd:r=(if bad then r.1 else s.drop at_,bad,())
end Go.Pli

namespace Go.Pli
open Go Go.PM
theorem aZ3 {P:Program} {e:TypeId} {l:List Int} (h:Wf P (.sl e (.int .u8)) l):bC l=true:=by
 simp only[bC,bT];intro x hx;obtain⟨i,hi⟩:=List.mem_iff_getElem?.1 hx;have:=h.2 i x hi;have h1:IntKind.u8.min=0:=by decide
 have h2:IntKind.u8.max=255:=by decide
 have h3:IntKind.u8.min≤x∧x≤IntKind.u8.max:=this;rw[h1,h2] at h3;have:x<256:=by omega
 simp[h3.1,this]
theorem aV0 {P:Program} {e:TypeId} {k:IntKind} {l:List Int} (h:Wf P (.sl e (.int k)) l):∀u∈l,k.min≤u∧u≤k.max:=by
 intro x hx;obtain⟨i,hi⟩:=List.mem_iff_getElem?.1 hx;exact h.2 i x hi
theorem aW2 {P:Program} {e:TypeId} {l:List Int} (h:Wf P (.sl e (.int .i32)) l):aW3 l:=fun u hu=>by
 have:=aV0 h u hu;rw[show IntKind.i32.min= -2147483648 by decide,show IntKind.i32.max=2147483647 by decide] at this;omega
end Go.Pli

namespace Go.Pli
open Go Go.PM
def Fwd {α:Type} (f:Rd→Option (α×Rd×Unit)) (e:α→List Int) (x:α):Prop:=
 bC (e x)=true∧∀rest,bC rest=true→f (e x++rest,false,())=some (x,(rest,false,()),())
def Inv {α:Type} (f:Rd→Option (α×Rd×Unit)) (e:α→List Int) (Q:α→Prop):Prop:=
 ∀l b,bC l=true→∃x l' bad,f (l,b,())=some (x,(l',bad,()),())∧bC l'=true∧(bad=true∨(b=false∧bad=false∧l=e x++l'∧Q x))
theorem sG {v n:Int} (h0:0≤v) (h1:v≤n) (hn:n<4294967296):Fwd (fun r=>bS r n) bQ v:=by
 refine⟨wX (by omega),fun rest hr=>?_⟩;have:=uI (v:=v.toNat) (n:=n) (rest:=rest) (by omega) hr (by omega) (by omega);rw[show ((v.toNat:Nat):Int)=v by omega] at this;exact this
theorem sA {n:Int} (h0:0≤n) (hn:n<9223372036854775808):Inv (fun r=>bS r n) bQ (fun v=>0≤v∧v≤n):=by
 intro l b hb;cases b with
 | true=>exact⟨0,l,true,rfl,hb,.inl rfl⟩
 | false=>
  obtain⟨v,l',bad,g1,g2,g3⟩:=aBP hb h0 hn;exact⟨v,l',bad,g1,g2,g3.imp id fun⟨a,b,c,_,d⟩=>⟨rfl,a,d,b,c⟩⟩
theorem aXt {i:Ins} (h:dV i=true):Fwd mN kB i:=by
 unfold Fwd;rw[aHI];exact⟨aWT h,fun rest hr=>aXl h hr⟩
theorem aWJ (l:List Int):mN (l,true,())=some ((0,0,0,()),(l,true,()),()):=by
 unfold mN;rw[aEb];simp only[aF];have h0:¬bD 0>0:=by decide
 have h1:¬bD 0>1:=by decide
 rw[aT h0,aT h1];rfl
theorem aVU:Inv mN kB (fun _=>True):=by
 intro l b hb;cases b with
 | true=>exact⟨_,l,true,aWJ l,hb,.inl rfl⟩
 | false=>
  obtain⟨i,l',bad,g1,g2,g3⟩:=aWI hb;exact⟨i,l',bad,g1,g2,g3.imp id fun⟨a,b,_⟩=>⟨rfl,a,by rw[aHI];exact b,trivial⟩⟩
theorem aXs {n:Int} (h0: -2147483648≤n) (h1:n≤2147483647):Fwd kQ mR n:=
 ⟨wX (Nat.lt_trans (aIo h0 h1) (by omega)),fun _ hr=>aXa h0 h1 hr⟩
theorem aVS:Inv kQ mR (fun n=> -2147483648≤n∧n≤2147483647):=by
 intro l b hb;cases b with
 | true=>exact⟨0,l,true,aXb l,hb,.inl rfl⟩
 | false=>
  obtain⟨v,l',bad,g1,g2,g3⟩:=aBP (n:=4294967295) hb (by omega) (by omega);rcases g3 with h | ⟨h,v0,v1,_,e⟩
  ·subst h;obtain⟨a0,a1⟩:=wR (by omega) g1;simp only at a0 a1;have g1':bS (l,false,()) (4294967295:Int)=some (((v.toNat:Nat):Int),(l',true,()),()):=by rw[g1,show ((v.toNat:Nat):Int)=v by omega]
   exact⟨unz v.toNat,l',true,aMW g1' (by omega),g2,.inl rfl⟩
  ·subst h;have g1':bS (l,false,()) (4294967295:Int)=some (((v.toNat:Nat):Int),(l',false,()),()):=by rw[g1,show ((v.toNat:Nat):Int)=v by omega]
   obtain⟨z1,z2,z3⟩:=aPw (v:=v.toNat) (by omega);refine⟨unz v.toNat,l',false,aMW g1' (by omega),g2,.inr ⟨rfl,rfl,?_,z2,z3⟩⟩;rw[aYk,z1];exact e
theorem aNc {t:Tp} (h:ityp t=true):Fwd lO gK t:=by
 obtain⟨⟨t1,t2⟩,⟨t3,t4⟩,t5⟩:=aIC h;obtain⟨k,c,u⟩:=t;simp only at t1 t2 t3 t4 t5;have f1:=sG (v:=k) (n:=5) t1 t2 (by omega);have f2:=sG (v:=c) (n:=7) t3 t4 (by omega);unfold Fwd lO gK;simp only;by_cases h3:k=3
 ·subst h3;have hb:bC (bQ 3++bQ c)=true:=by rw[gN,f1.1,f2.1];rfl
  refine⟨hb,fun rest hr=>?_⟩;have e1:=f1.2 (bQ c++rest) (by rw[gN,f2.1,hr];rfl);have e2:=f2.2 rest hr;simp only at e1 e2;show (bS ((bQ 3++bQ c)++rest,false,()) 5).bind _=_;rw[bG,e1];simp only[aF];show (bS (bQ c++rest,false,()) 7).bind _=_;rw[e2];rfl
 ·have hk:(k==3)=false:=by simpa using h3
  have hc:=t5 h3;subst hc;simp only[hk,aB,bZ];refine⟨f1.1,fun rest hr=>?_⟩;have e1:=f1.2 rest hr;show (bS (bQ k++rest,false,()) 5).bind _=_;simp only at e1;rw[e1];simp only[aF,hk,aB]
theorem aMB:Inv lO gK (fun _=>True):=by
 intro l b hb;obtain⟨k,l1,b1,g1,g2,g3⟩:=sA (n:=5) (by omega) (by omega) l b hb;obtain⟨c,l2,b2,g4,g5,g6⟩:=sA (n:=7) (by omega) (by omega) l1 b1 g2;simp only at g1 g4;unfold lO;rw[g1];simp only[aF];by_cases h3:k=3
 ·subst h3;refine⟨(3,c,()),l2,b2,?_,g5,g6.imp id fun⟨e1,e2,e3,_⟩=>?_⟩
  ·show (bS (l1,b1,()) 7).bind _=_;rw[g4];rfl
  ·subst e1;rcases g3 with h | ⟨a1,_,a3,_⟩
   ·cases h
   ·refine⟨a1,e2,?_,trivial⟩;rw[a3,e3];show bQ 3++(bQ c++l2)=(bQ 3++bQ c)++l2;rw[bG]
 ·have hk:(k==3)=false:=by simpa using h3
  refine⟨(k,0,()),l1,b1,by rw[hk];rfl,g2,g3.imp id fun⟨a1,a2,a3,_⟩=>⟨a1,a2,?_,trivial⟩⟩;unfold gK;simp only[hk,aB,bZ];exact a3
theorem aNd {α:Type} {f:Rd→Option (α×Rd×Unit)} {e:α→List Int}:∀{l:List α},(∀x∈l,Fwd f e x)→Fwd (jC f l.length) (eD e) l
 | [],_=>⟨rfl,fun _ _=>rfl⟩
 | x::l,h=>by
  have hx:=h x (by simp);have ih:=aNd (l:=l) fun y hy=>h y (by simp[hy]);refine⟨by simp only[eD];rw[gN,hx.1,ih.1];rfl,fun rest hr=>?_⟩;simp only[eD,aJ,jC,bG];rw[hx.2 _ (by rw[gN,ih.1,hr];rfl)];simp only[aF];rw[ih.2 rest hr];rfl
theorem aMC {α:Type} {f:Rd→Option (α×Rd×Unit)} {e:α→List Int} {Q:α→Prop} (hf:Inv f e Q):∀n,Inv (jC f n) (eD e) (fun l=>l.length=n∧∀x∈l,Q x)
 | 0=>fun l b hb=>⟨[],l,b,rfl,hb,by cases b <;> simp[eD]⟩
 | n+1=>fun l b hb=>by
  obtain⟨x,l1,b1,g1,g2,g3⟩:=hf l b hb;obtain⟨xs,l2,b2,g4,g5,g6⟩:=aMC hf n l1 b1 g2;refine⟨x::xs,l2,b2,?_,g5,g6.imp id fun⟨e1,e2,e3,e4,e5⟩=>?_⟩
  ·simp only[jC];rw[g1];simp only[aF];rw[g4];rfl
  ·subst e1;rcases g3 with h | ⟨a1,_,a3,a4⟩
   ·cases h
   ·refine⟨a1,e2,?_,by simp[e4],fun y hy=>?_⟩
    ·rw[a3,e3];simp[eD]
    ·rcases cB.1 hy with rfl | hy
     ·exact a4
     ·exact e5 y hy
def mS {α:Type} (e:α→List Int) (l:List α):List Int:=enc l.length++eD e l
theorem aAn {α:Type} {f:Rd→Option (α×Rd×Unit)} {e:α→List Int} {m:Int} {l:List α} (hl:(l.length:Int)≤m) (hm:m<4294967296) (h:∀x∈l,Fwd f e x):Fwd (fun r=>kR f r m) (mS e) l:=by
 have f1:=sG (v:=(l.length:Int)) (n:=m) (by omega) hl hm;have f2:=aNd h;refine⟨?_,fun rest hr=>?_⟩
 ·unfold mS;rw[gN,f2.1];have:=f1.1;unfold bQ at this;rw[aL] at this;rw[this];rfl
 ·unfold kR mS;have e1:=f1.2 (eD e l++rest) (by rw[gN,f2.1,hr];rfl);unfold bQ at e1;simp only[aL] at e1;show (bS ((enc l.length++eD e l)++rest,false,()) m).bind _=_;rw[bG,e1];simp only[aF,aL];exact f2.2 rest hr
theorem aAe {α:Type} {f:Rd→Option (α×Rd×Unit)} {e:α→List Int} {Q:α→Prop} {m:Int} (h0:0≤m) (hm:m<4294967296) (hf:Inv f e Q):Inv (fun r=>kR f r m) (mS e) (fun l=>∀x∈l,Q x):=by
 intro l b hb;obtain⟨n,l1,b1,g1,g2,g3⟩:=sA (n:=m) h0 (by omega) l b hb;obtain⟨xs,l2,b2,g4,g5,g6⟩:=aMC hf n.toNat l1 b1 g2;refine⟨xs,l2,b2,?_,g5,g6.imp id fun⟨e1,e2,e3,e4,e5⟩=>?_⟩
 ·show (bS (l,b,()) m).bind _=_;simp only at g1;rw[g1];exact g4
 ·subst e1;rcases g3 with h | ⟨a1,_,a3,a4,a5⟩
  ·cases h
  ·refine⟨a1,e2,?_,e5⟩;unfold mS;rw[a3,e3,e4,bG];rfl
theorem aM2 {m:Int} (hm:m≤1000) (r:Rd):hZ r m=kR lO r m:=by unfold hZ;rw[aH hm];rfl
theorem aM5 {c m:Int} (hc:c≤1000) (r:Rd):iJ r c m=kR (fun r=>bS r m) r c:=by unfold iJ;rw[aH hc];rfl
theorem aEh {m:Int} {l:List Tp} (hm:m≤1000) (h:dH l m=true):Fwd (fun r=>hZ r m) dW l:=by
 obtain⟨h1,h2⟩:=aFa h;have:=aAn (f:=lO) (e:=gK) h1 (by omega) fun t ht=>aNc (h2 t ht);refine⟨this.1,fun rest hr=>?_⟩;show hZ _ m=_;rw[aM2 hm];exact this.2 rest hr
theorem aDU {m:Int} (h0:0≤m) (hm:m≤1000):Inv (fun r=>hZ r m) dW (fun _=>True):=by
 intro l b hb;obtain⟨x,l',bad,g1,g2,g3⟩:=aAe (m:=m) h0 (by omega) aMB l b hb;refine⟨x,l',bad,?_,g2,g3.imp id fun⟨a,b,c,_⟩=>⟨a,b,c,trivial⟩⟩;show hZ _ m=_;rw[aM2 hm];exact g1
theorem aHt {c m:Int} {l:List Int} (hc:c≤1000) (hm:m<4294967296) (h:eG l c m=true):Fwd (fun r=>iJ r c m) kV l:=by
 obtain⟨h1,h2⟩:=aGq h;have:=aAn (f:=fun r=>bS r m) (e:=bQ) h1 (by omega) fun t ht=>sG (h2 t ht).1 (h2 t ht).2 hm;refine⟨this.1,fun rest hr=>?_⟩;show iJ _ c m=_;rw[aM5 hc];exact this.2 rest hr
theorem aG6 {c m:Int} (h0:0≤c) (hc:c≤1000) (hm0:0≤m) (hm:m<4294967296):Inv (fun r=>iJ r c m) kV (fun _=>True):=by
 intro l b hb;obtain⟨x,l',bad,g1,g2,g3⟩:=aAe (m:=c) h0 (by omega) (sA (n:=m) hm0 (by omega)) l b hb;refine⟨x,l',bad,?_,g2,g3.imp id fun⟨a,b,c,_⟩=>⟨a,b,c,trivial⟩⟩;show iJ _ c m=_;rw[aM5 hc];exact g1
theorem jI {α β:Type} {f:Rd→Option (α×Rd×Unit)} {e:α→List Int} {x:α} (hf:Fwd f e x) {s:List Int} (hs:bC s=true) {g:α×Rd×Unit→Option β} {y:Option β}
  (h:g (x,(s,false,()),())=y):(f (e x++s,false,())).bind g=y:=by
 rw[hf.2 s hs];exact h
structure Got {α:Type} (o:Option (α×Rd×Unit)) (l:List Int) (b:Bool) (C:α→List Int→Prop):Prop where
 ex:∃x l' bad,o=some (x,(l',bad,()),())∧bC l'=true∧(bad=true∨(b=false∧bad=false∧C x l'))
theorem jG {α β:Type} {f:Rd→Option (α×Rd×Unit)} {e:α→List Int} {Q:α→Prop} (hf:Inv f e Q) {l:List Int} {b:Bool} (hb:bC l=true) {g:α×Rd×Unit→Option (β×Rd×Unit)} {C:β→List Int→Prop}
  (h:∀x l' bad,bC l'=true→∃y l2 bad2,g (x,(l',bad,()),())=some (y,(l2,bad2,()),())∧bC l2=true∧(bad2=true∨(bad=false∧bad2=false∧(Q x→l=e x++l'→C y l2)))):
  ∃y l2 bad2,(f (l,b,())).bind g=some (y,(l2,bad2,()),())∧bC l2=true∧(bad2=true∨(b=false∧bad2=false∧C y l2)):=by
 obtain⟨x,l',bad,g1,g2,g3⟩:=hf l b hb;obtain⟨y,l2,bad2,h1,h2,h3⟩:=h x l' bad g2;refine⟨y,l2,bad2,by rw[g1];exact h1,h2,?_⟩;rcases h3 with h3 | ⟨h3,h4,h5⟩
 ·exact .inl h3
 ·rcases g3 with g3 | ⟨a1,a2,a3,a4⟩
  ·rw[g3] at h3;cases h3
  ·exact .inr ⟨a1,h4,h5 a4 a3⟩
theorem aXr {x:Mt} (h:imethod x=true):Fwd lP mT x:=by
 obtain⟨_,_,hret,⟨x4,hgood⟩,x5,x6,_⟩:=jW h;have hm:=h;simp only[imethod,aC] at hm;obtain⟨hm1,hm2,_,_,_,_,_,hm7⟩:=hm;have f1:=aEh (m:=4) (by omega) hm1;have f2:=aEh (m:=8) (by omega) hm2;have f3:=aNc hret;have f4:=aAn (f:=mN) (e:=kB) (m:=64) (l:=x.2.2.2.1) (by omega) (by omega) fun i hi=>aXt (hgood i hi);have f5:=sG (n:=8) x5.1 x5.2 (by omega);have f6:=sG (n:=4096) x6.1 x6.2 (by omega);have f7:=aHt (c:=64) (m:=4096) (by omega) (by omega) hm7;have he:mT x=dW x.1++(dW x.2.1++(gK x.2.2.1++(mS kB x.2.2.2.1++(bQ x.2.2.2.2.1++(bQ x.2.2.2.2.2.1++kV x.2.2.2.2.2.2.1))))):=by
  unfold mT mS;simp only[bG]
 have hbytes:∀rest,bC rest=true→bC (dW x.2.1++(gK x.2.2.1++(mS kB x.2.2.2.1++(bQ x.2.2.2.2.1++(bQ x.2.2.2.2.2.1++(kV x.2.2.2.2.2.2.1++rest))))))=true:=fun rest hr=>by
  simp only[gN,f2.1,f3.1,f4.1,f5.1,f6.1,f7.1,hr,aG]
 have hb2:=fun rest (hr:bC rest=true)=>hbytes rest hr;refine⟨by rw[he];simp only[gN,f1.1,f2.1,f3.1,f4.1,f5.1,f6.1,f7.1,aG],fun rest hr=>?_⟩;rw[he];simp only[bG];unfold lP;refine jI f1 (hbytes rest hr) (jI f2 ?_ (jI f3 ?_ (jI f4 ?_ (jI f5 ?_ (jI f6 ?_ (jI f7 hr rfl))))))
 all_goals simp only[gN,f3.1,f4.1,f5.1,f6.1,f7.1,hr,aG]
theorem aVR:Inv lP mT (fun _=>True):=by
 intro l b hb;unfold lP;refine jG (aDU (m:=4) (by omega) (by omega)) hb fun a l1 b1 h1=>?_;refine jG (aDU (m:=8) (by omega) (by omega)) h1 fun c l2 b2 h2=>?_;refine jG aMB h2 fun d l3 b3 h3=>?_;refine jG (aAe (m:=64) (by omega) (by omega) aVU) h3 fun e l4 b4 h4=>?_;refine jG (sA (n:=8) (by omega) (by omega)) h4 fun f l5 b5 h5=>?_;refine jG (sA (n:=4096) (by omega) (by omega)) h5 fun g l6 b6 h6=>?_;refine jG (aG6 (c:=64) (m:=4096) (by omega) (by omega) (by omega) (by omega)) h6 fun i l7 b7 h7=>?_;refine⟨_,l7,b7,rfl,h7,?_⟩;cases b7 with
 | true=>exact .inl rfl
 | false=>
  refine .inr ⟨rfl,rfl,fun _ e7 _ e6 _ e5 _ e4 _ e3 _ e2 _ e1=>⟨?_,trivial⟩⟩;rw[e1,e2,e3,e4,e5,e6,e7];unfold mT mS;simp only[bG]
theorem aXu {c:Cl} (h:iclass c=true):Fwd sF jL c:=by
 obtain⟨⟨c1,c2⟩,_,_⟩:=pG h;have hm:=h;simp only[iclass,aC] at hm;have f1:=sG (v:=c.1+1) (n:=8) (by omega) (by omega) (by omega);have f2:=aEh (m:=8) (by omega) hm.2.2.1;have f3:=aHt (c:=4) (m:=11) (by omega) (by omega) hm.2.2.2;refine⟨by unfold jL;simp only[gN,f1.1,f2.1,f3.1,aG],fun rest hr=>?_⟩;unfold jL sF;simp only[bG];refine jI f1 (by simp only[gN,f2.1,f3.1,hr,aG]) (jI f2 (by simp only[gN,f3.1,hr,aG]) (jI f3 hr ?_));have hw:IntKind.i64.wrap (c.1+1 - 1)=c.1:=by rw[bV (by omega) (by omega)];omega
 rw[hw]
theorem aVV:Inv sF jL (fun _=>True):=by
 intro l b hb;unfold sF;refine jG (sA (n:=8) (by omega) (by omega)) hb fun a l1 b1 h1=>?_;refine jG (aDU (m:=8) (by omega) (by omega)) h1 fun c l2 b2 h2=>?_;refine jG (aG6 (c:=4) (m:=11) (by omega) (by omega) (by omega) (by omega)) h2 fun d l3 b3 h3=>?_;refine⟨_,l3,b3,rfl,h3,?_⟩;cases b3 with
 | true=>exact .inl rfl
 | false=>
  refine .inr ⟨rfl,rfl,fun _ e3 _ e2 q1 e1=>⟨?_,trivial⟩⟩;rw[e1,e2,e3];unfold jL;have hw:IntKind.i64.wrap (a - 1)+1=a:=by rw[bV (by omega) (by omega)];omega
  simp only[hw,bG]
theorem aHL (m:Im):uM m=mS jL m.1++(dW m.2.1++(mS mR m.2.2.1++(mS mT m.2.2.2.1++(kV m.2.2.2.2.1++(bQ m.2.2.2.2.2.1++bQ m.2.2.2.2.2.2.1))))):=by
 unfold uM mS;simp only[bG]
theorem aNe {m:Im} (hi:bI m=true) (h32:lL m.2.2.1=true):Fwd aAl uM m:=by
 have hf:=cH hi;have h8:=hf.classes;have h12:=hf.methods;have h16:=hf.ints;have hs1:=hf.stack;have hs2:=hf.heap;simp only[cY,aC,aO] at hs1 hs2;have hint:∀n∈m.2.2.1,-2147483648≤n∧n≤2147483647:=by simpa[lL] using h32
 have f1:=aAn (f:=sF) (e:=jL) (m:=8) (l:=m.1) (by omega) (by omega) fun c hc=>aXu (hf.cls c hc);have f2:=aEh (m:=8) (by omega) hf.statics;have f3:=aAn (f:=kQ) (e:=mR) (m:=16) (l:=m.2.2.1) (by omega) (by omega) fun n hn=>aXs (hint n hn).1 (hint n hn).2;have f4:=aAn (f:=lP) (e:=mT) (m:=12) (l:=m.2.2.2.1) (by omega) (by omega) fun x hx=>aXr (hf.mts x hx);have f5:=aHt (c:=12) (m:=11) (by omega) (by omega) hf.entries;have f6:=sG (n:=4096) hs1.1 hs1.2 (by omega);have f7:=sG (n:=4096) hs2.1 hs2.2 (by omega);refine⟨by rw[aHL];simp only[gN,f1.1,f2.1,f3.1,f4.1,f5.1,f6.1,f7.1,aG],fun rest hr=>?_⟩;rw[aHL];simp only[bG];unfold aAl;refine jI f1 ?_ (jI f2 ?_ (jI f3 ?_ (jI f4 ?_ (jI f5 ?_ (jI f6 ?_ (jI f7 hr rfl))))))
 all_goals simp only[gN,f2.1,f3.1,f4.1,f5.1,f6.1,f7.1,hr,aG]
theorem aVT:Inv aAl uM (fun m=>lL m.2.2.1=true):=by
 intro l b hb;unfold aAl;refine jG (aAe (m:=8) (by omega) (by omega) aVV) hb fun a l1 b1 h1=>?_;refine jG (aDU (m:=8) (by omega) (by omega)) h1 fun c l2 b2 h2=>?_;refine jG (aAe (m:=16) (by omega) (by omega) aVS) h2 fun d l3 b3 h3=>?_;refine jG (aAe (m:=12) (by omega) (by omega) aVR) h3 fun e l4 b4 h4=>?_;refine jG (aG6 (c:=12) (m:=11) (by omega) (by omega) (by omega) (by omega)) h4 fun f l5 b5 h5=>?_;refine jG (sA (n:=4096) (by omega) (by omega)) h5 fun g l6 b6 h6=>?_;refine jG (sA (n:=4096) (by omega) (by omega)) h6 fun i l7 b7 h7=>?_;refine⟨_,l7,b7,rfl,h7,?_⟩;cases b7 with
 | true=>exact .inl rfl
 | false=>
  refine .inr ⟨rfl,rfl,fun _ e7 _ e6 _ e5 _ e4 q3 e3 _ e2 _ e1=>⟨?_,by simpa[lL] using q3⟩⟩;rw[e1,e2,e3,e4,e5,e6,e7,aHL];simp only[bG]
theorem aNw (l:List Int) (b:Bool):aAp (l,b,())=some (!b&&(l.length==0),(l,b,()),()):=by
 unfold aAp;cases b
 ·simp;cases l <;> simp;omega
 ·rfl
theorem aU8 {l:List Int}:((mark++l).take 4)=mark:=by simp[mark]
theorem aVa {l:List Int}:((mark++l).drop 4)=l:=by simp[mark]
theorem aL0:(strOfNums mark).toList=(⟨#[112,108,105,109]⟩:ByteArray).toList:=by kernel_rfl
theorem aU9 {l:List Int} (hb:bC l=true) (h:(strOfNums (l.take 4)).toList=(⟨#[112,108,105,109]⟩:ByteArray).toList):l.take 4=mark:=by
 rw[←aL0] at h;exact aJa (aEJ 4 hb) rfl h
theorem aYA {m:Im} (hi:bI m=true) (h32:lL m.2.2.1=true) {rest:List Int} (hr:bC rest=true) (hl:(eY m++rest).length≤8192):
  pA (eY m++rest)=some (bif decide (rest.length=0) then m else zIm,bif decide (rest.length=0) then 0 else 2,()):=by
 have hf:=(aNe hi h32).2 rest hr;have he:eY m++rest=mark++(uM m++rest):=by unfold eY;rw[bG]
 rw[he] at hl⊢;have h1:¬((mark++(uM m++rest)).length:Int)>8192:=by omega
 have h2:¬((mark++(uM m++rest)).length:Int)<4:=by rw[aS];simp only[mark,aJ,bJ];omega
 unfold pA;rw[aT h1,aT h2,aU8,aVa,aL0];simp only[beq_self_eq_true,aV,rF,aB];unfold zK;rw[hf];simp only[aF,aNw,bU,cZ,hi,aV,rF];cases rest <;> simp
theorem aYz {b:List Int} (hb:bC b=true):pA b=some (zIm,2,())∨∃m:Im,pA b=some (m,0,())∧bI m=true∧lL m.2.2.1=true∧b=eY m∧b.length≤8192:=by
 unfold pA;by_cases h1:(b.length:Int)>8192
 ·simp[h1]
 by_cases h2:(b.length:Int)<4
 ·simp[h2]
 cases hm:(strOfNums (b.take 4)).toList==(⟨#[112,108,105,109]⟩:ByteArray).toList
 ·simp
 have hmk:=aU9 hb (by simpa using hm);simp only[h1,h2,bB,aV,rF,aB];obtain⟨m,l',bad,g1,g2,g3⟩:=aVT (b.drop 4) false (aEK 4 hb);unfold zK;rw[g1];simp only[aF,aNw];cases hx: !(!bad&&(l'.length==0)) || !bI m
 ·right;simp only[Bool.or_eq_false_iff,Bool.not_eq_false',aC,tE,hC] at hx;obtain⟨⟨hbad,hl'⟩,hfit⟩:=hx;rcases g3 with g3 | ⟨_,_,g4,g5⟩
  ·rw[g3] at hbad;cases hbad
  ·refine⟨m,rfl,hfit,g5,?_,by omega⟩;have:l'=[]:=List.length_eq_zero_iff.1 hl';rw[this,bZ] at g4;unfold eY;rw[←g4,←hmk,xL]
 ·left;rfl
theorem aYq (m:Im):4≤(eY m).length:=by unfold eY;rw[aS];simp only[mark,aJ,bJ];omega
theorem aNP {m:Im} (hi:bI m=true) (h32:lL m.2.2.1=true):bC (eY m)=true:=by
 unfold eY;rw[gN,(aNe hi h32).1];rfl
theorem aV1 {P:Program} {e:TypeId} {l:List Int} (h:Wf P (.sl e (.int .i32)) l):lL l=true:=by
 simp only[lL,bT,aC,aO];exact fun n hn=>aW2 h n hn
theorem aPH {P:Program} {u:Int} (h:Wf P (.int .u16) u):0≤u∧u<65536:=by
 have h':IntKind.u16.min≤u∧u≤IntKind.u16.max:=h;rw[show IntKind.u16.min=0 by decide,show IntKind.u16.max=65535 by decide] at h';omega
end Go.Pli

namespace Go.Pli
open Go Go.PM
theorem aGe {α:Type} {f:Nat→Option α} {r:α} (K:Nat) (hK:f K=some r) (h:∀k,f k=none∨f k=some r):pick f=some r:=by
 unfold pick;have hs:∃k,(f k).isSome:=⟨K,by rw[hK];rfl⟩;rw[dif_pos hs];have:=hs.choose_spec;rcases h hs.choose with h | h
 ·rw[h] at this;cases this
 ·exact h
theorem aUj:aAo ([[]],[1],[1],[true],[0],1,[],()) 0=some (([[]],[1],[1],[false],[],1,[[0]],()),()):=by
 refine aGe 1 (by kernel_rfl) fun k=>?_
 match k with
 | 0=>exact .inl (by kernel_rfl)
 | k+1=>exact .inr (by kernel_rfl)
theorem aUk:aAr ([[]],[0],[0],[false],[],0,[],()) 0=some (([[]],[1],[1],[true],[0],1,[],()),()):=by kernel_rfl
theorem aLw (k:Nat) (rec):sJ (k+1) ([((0:Int),(0:Int),())],[1],[1],[true],[0],[],([[]],(),(),(),(),1,(),()),()) rec=rec ([],[1],[1],[false],[],[[0]],([[]],(),(),(),(),1,(),()),()):=by
 have h1:∀rec3 rec5,wU ([((0:Int),(0:Int),())],[1],[1],[true],[0],[],([[]],(),(),(),(),1,(),()),()) rec3 ([((0:Int),(0:Int),())],0,[1],()) rec5=(aAo ([[]],[1],[1],[true],[0],1,[],()) 0).bind fun r9=>rec3 ([],r9.1.2.1,r9.1.2.2.1,r9.1.2.2.2.1,r9.1.2.2.2.2.1,r9.1.2.2.2.2.2.2.1,(r9.1.1,(),(),(),(),r9.1.2.2.2.2.2.1,(),()),()):=fun rec3 rec5=>by kernel_rfl
 have h2:sJ (k+1) ([((0:Int),(0:Int),())],[1],[1],[true],[0],[],([[]],(),(),(),(),1,(),()),()) rec=aD (wU ([((0:Int),(0:Int),())],[1],[1],[true],[0],[],([[]],(),(),(),(),1,(),()),()) rec) (k+1) ([((0:Int),(0:Int),())],0,[1],()):=by kernel_rfl
 rw[h2,aZ,h1,aUj];rfl
theorem aLx:aAq ([[]],[0],[0],[false],[],0,[],()) 0=some (([[]],[1],[1],[false],[],1,[[0]],()),()):=by
 have h0:∀k,uK k ([[]],[0],[0],[false],[],0,[],()) 0=aD (sJ k) k ([((0:Int),(0:Int),())],[1],[1],[true],[0],[],([[]],(),(),(),(),1,(),()),()):=by
  intro k;unfold uK;rw[aUk];rfl
 have h2:∀k,uK (k+2) ([[]],[0],[0],[false],[],0,[],()) 0=some (([[]],[1],[1],[false],[],1,[[0]],()),()):=by
  intro k;rw[h0,aZ,aLw (k+1),aZ];kernel_rfl
 refine aGe 2 (h2 0) fun k=>?_
 match k with
 | 0=>rw[h0];exact .inl rfl
 | 1=>rw[h0,aZ,aLw 0];exact .inl rfl
 | k+2=>exact .inr (h2 k)
theorem aUi:nK [[]]=some ([[0]],()):=by
 have h0:∀k,vU k [[]]=aD (aBc [[]]) k (0,[0],[0],[false],[],[],([[]],(),(),(),(),0,(),()),()):=fun k=>by kernel_rfl
 have h1:∀rec,aBc [[]] (0,[0],[0],[false],[],[],([[]],(),(),(),(),0,(),()),()) rec=(aAq ([[]],[0],[0],[false],[],0,[],()) 0).bind fun r3=>rec (1,r3.1.2.1,r3.1.2.2.1,r3.1.2.2.2.1,r3.1.2.2.2.2.1,r3.1.2.2.2.2.2.2.1,(r3.1.1,(),(),(),(),r3.1.2.2.2.2.2.1,(),()),()):=fun rec=>by kernel_rfl
 have h2:∀k,vU (k+2) [[]]=some ([[0]],()):=by
  intro k;rw[h0,aZ,h1,aLx];simp only[aF];rw[aZ];kernel_rfl
 refine aGe 2 (h2 0) fun k=>?_
 match k with
 | 0=>rw[h0];exact .inl rfl
 | 1=>rw[h0,aZ,h1,aLx];exact .inl rfl
 | k+2=>exact .inr (h2 k)
def oG (s:Int):Im:=([],[],[],[([],[],(5,0,()),[(33,0,0,())],0,0,[0],())],[0],s,0,())
theorem aIN {s:Int} (hs:aM (oG s)=true) (ht:nF (oG s)=some ([[(true,[],())]],0,0,0,())) (hp:tZ (oG s) [[(true,[],())]]=some (0,0,())):xK (oG s) ([[(true,[],())]],0,0,0,()) (3,0,0,()) (0,0,()):=by
 refine⟨ht,rfl,?_,hp⟩;have h1:eF (oG s)=[[]]:=by kernel_rfl
 have h2:wZ (oG s)=true:=by kernel_rfl
 have h3:dK [[((true,[],()):Sh)]]=true:=by rfl
 unfold pH sO;rw[hs,h1,h2,h3,aUi];show _=_;kernel_rfl
theorem aPS:xK (oG 3) ([[(true,[],())]],0,0,0,()) (3,0,0,()) (0,0,()):=aIN (by kernel_rfl) (by kernel_rfl) (by kernel_rfl)
theorem tiny2:xK (oG 2) ([[(true,[],())]],0,0,0,()) (3,0,0,()) (0,0,()):=aIN (by kernel_rfl) (by kernel_rfl) (by kernel_rfl)
theorem aH8:awake16N=some (true,()):=by
 have c3:nX (oG 3)=some ([[(true,[],())]],0,()):=(aCj (by kernel_rfl) aPS).trans (by kernel_rfl);have c2:nX (oG 2)=some ([],7,()):=(aCj (by kernel_rfl) tiny2).trans (by kernel_rfl);have n2:=tiny2.needs;have b0:nY []=some ((([],[],[],[],[],0,0,()):Im),[],2,()):=by kernel_rfl
 unfold awake16N;simp only[oG] at c3 c2 n2;rw[c3,c2,b0];simp only[aF];rw[n2];show _=_;kernel_rfl
end Go.Pli

namespace Go.Pli
open Go Go.PM
theorem aIy {m:Im} {f:Int}:∀(n:Nat) (h:List Sh) (q:List Bool) (r),mZ m f n h q=some r→r.2.2.1=0∨r.2.2.1=4
 | 0,_,_,_,h=>by cases h
 | n+1,h,q,r,hr=>by
  unfold mZ at hr;cases ha:q.any id <;> simp only[ha,aA,aB] at hr
  ·have:=fL hr;subst this;exact .inl rfl
  ·cases ht:nD m f (q.findIdx id:Int) h (q.set (q.findIdx id) false) with
   | none=>rw[ht] at hr;cases hr
   | some z=>
    rw[ht,aF] at hr;cases hz:z.1 <;> simp only[hz,aV,bU,aA,aB] at hr
    ·have:=fL hr;subst this;exact .inr rfl
    ·exact aIy n _ _ r hr
theorem aUU {m:Im} {f:Int} {r} (h:nE m f=some r):r.2.2.1=0∨r.2.2.1=4:=by
 unfold nE at h;cases hg:aM m&&inM m f <;> simp only[hg,aA,aB] at h
 ·cases h
 ·exact aIy _ _ _ _ h
theorem aH0 {m:Im} (hs:aM m=true):∀(l:List Int) (out:List (List Sh)) (r),(∀f∈l,inM m f=true)→qU m l out=some r→
  (r.2.2.2.1=0∨r.2.2.2.1=4)∧(r.2.2.2.1=0→∃add,r.1=out++add∧add.length=l.length∧∀k,k<l.length→PF m (l.getD k 0) (add.getD k []))
 | [],out,r,_,hr=>by
  have:=fL hr;subst this;exact⟨.inl rfl,fun _=>⟨[],by simp,rfl,fun _ h=>by cases h⟩⟩
 | f::l,out,r,hl,hr=>by
  have hf:=hl f (cF ..);obtain⟨z,hz,-,-,-,hP⟩:=aLO hs hf;unfold qU at hr;rw[hz,aF] at hr;cases he:z.2.2.1 !=0 <;> simp only[he,aA,aB] at hr
  ·have h0:z.2.2.1=0:=by simpa using he
   obtain⟨i1,i2⟩:=aH0 hs l (out++[z.1]) r (fun x hx=>hl x (bW _ hx)) hr;refine⟨i1,fun hr0=>?_⟩;obtain⟨add,a1,a2,a3⟩:=i2 hr0;refine⟨z.1::add,by rw[a1];simp,by simp[a2],fun k hk=>?_⟩;cases k with
   | zero=>exact hP h0
   | succ k=>
    rw[List.getD_cons_succ,List.getD_cons_succ];exact a3 k (by simpa using hk)
  ·have h0:z.2.2.1≠0:=by simpa using he
   have:=fL hr;subst this;refine⟨.inr ((aUU hz).resolve_left h0),fun h=>absurd h h0⟩
structure aPu (m:Im) (t:List (List Sh)×Int×Int×Int×Unit) (n:Int×Int×Int×Unit) (p:Int×Int×Unit):Prop where
 told:xK m t n p
 bad:t.2.2.2.1≠0→t.2.2.2.1=4∧∃f,0≤f∧pX m=some ([],f,())
 good:t.2.2.2.1=0→pX m=some (t.1,-1,())∧
  ((n.2.2.1=5∧∃x,tX m t.1=some x∧x.2.2.1=false)∨(n.2.2.1=0∧tX m t.1=some (n.1,n.2.1,true,())∧0≤n.1∧0≤n.2.1))∧
  ((p.2.1=0∧tW m t.1=some (-1,()))∨(p.2.1=6∧∃f,0≤f∧tW m t.1=some (f,())))
theorem aGA (m:Im) (bd:List Int):∀(q:List Int) (s h:Int),0≤s→0≤h→0≤(eW m bd q s h).1∧0≤(eW m bd q s h).2∧s≤(eW m bd q s h).1
 | [],s,h,h1,h2=>⟨h1,h2,fB _⟩
 | f::q,s,h,h1,h2=>by
  unfold eW;cases decide (f≥0)&&decide (f<(bd.length:Int)) <;> simp only[aA,aB]
  ·exact aGA m bd q s h h1 h2
  ·obtain⟨i1,i2,i3⟩:=aGA m bd q (max s (bd.getD f.toNat 0)) (max h (eE m f)) (by omega) (by omega);exact⟨i1,i2,by omega⟩
theorem aGz {m:Im} (hs:aM m=true) (bd:List Int):∀(q:List Int) (s h:Int),(∀f∈q,inM m f=true)→h≤4096→(eW m bd q s h).2≤4096
 | [],_,_,_,h=>h
 | f::q,s,h,hq,h2=>by
  have hf:=aLb hs (hq f (cF ..));unfold eW;cases decide (f≥0)&&decide (f<(bd.length:Int)) <;> simp only[aA,aB]
  ·exact aGz hs bd q s h (fun x hx=>hq x (bW _ hx)) h2
  ·exact aGz hs bd q _ _ (fun x hx=>hq x (bW _ hx)) (by omega)
theorem aCa {m:Im} (hs:aM m=true):∃t n p,aPu m t n p:=by
 obtain⟨t,n,p,ht⟩:=told hs;refine⟨t,n,p,ht,fun h0=>?_,fun h0=>?_⟩
 ·obtain⟨t',h1,-,h3⟩:=aIU hs;rw[ht.check] at h1;have:=fL h1;subst this;obtain⟨h4,h5⟩:=h3 h0;have hc:=ht.check;unfold nF at hc;rw[hs] at hc;simp only[aA] at hc;obtain⟨i1,-⟩:=aH0 hs _ _ _ (fun f hf=>bR.2 (gH.1 hf)) hc;exact⟨i1.resolve_left h0,t.2.1,(bR.1 h5).1,h4⟩
 ·obtain⟨t',h1,h2,-⟩:=aIU hs;rw[ht.check] at h1;have:=fL h1;subst this;obtain⟨h4,h5⟩:=h2 h0;have hc:=ht.check;unfold nF at hc;rw[hs] at hc;simp only[aA] at hc;obtain⟨-,i2⟩:=aH0 hs _ _ _ (fun f hf=>bR.2 (gH.1 hf)) hc;obtain⟨add,a1,a2,a3⟩:=i2 h0;rw[oC] at a1;rw[hY] at a2 a3;have P:∀f,inM m f=true→PF m f (t.1.getD f.toNat []):=fun f hf=>by
   obtain⟨f0,f1⟩:=bR.1 hf;have hk:f.toNat<m.2.2.2.1.length:=by omega
   have:=a3 f.toNat hk;rw[aG8 hk,Int.toNat_of_nonneg f0] at this;rw[a1];exact this
  have hmaps:aBD m t.1=true:=by
   simp only[aBD,aC,aO,bT];exact⟨ht.ok,h5,fun f hf=>(P f (bR.2 (gH.1 hf))).gd.len⟩
  have htg:=aFi (cX hs).2;have hed:=aUr htg;have h12:=(cH (cX hs).1).methods;have hsm:=aYs (cX hs).1;have hen:=aNK hs;have hst:m.2.1.length≤8:=by
   have:=(cH (cX hs).1).statics;simp only[dH,aC,aO] at this;omega
  refine⟨h4,?_,?_⟩
  ·have hb:rS m t.1=some (nU m t.1):=by unfold rS;rw[hs,ht.ok,htg,hsm];rfl
   have hn14:tX m t.1=some (aDF m (nU m t.1)):=by unfold tX;rw[hs,hb];rfl
   obtain⟨r,hr,R⟩:=aKc (ED:=eF m) (by rw[aGp];omega) fun e he=>(aGo hs he).1;rw[hed] at R;have hall:(okL r&&r.all (fun p=>okL p&&p.all (inM m)))=true:=by
    have hfew:=R.few;rw[iN] at hfew;simp only[aC,bT];refine⟨gB (by omega),fun p hp=>?_⟩;have hpi:∀x∈p,inM m x=true:=fun x hx=>by
     have:=mH R hp hx;rw[inN,iN] at this;exact bR.2 this
    refine⟨gB ?_,hpi⟩;have:=aGt (a:=p) (b:=ints m.2.2.2.1.length) ((R.srt p hp).imp fun h=>by omega) fun x hx=>gH.2 (bR.1 (hpi x hx));rw[hY] at this;omega
   have hd:pH m t.1=some (aDG m (nJ m t.1 (aR m) r (List.replicate m.2.2.2.1.length 0))):=by
    unfold pH sO;rw[hs,ht.ok,aNU hs,hr,hed];simp only[aG,aA,aF,hall]
   have hn:=ht.needs;rw[hd] at hn;have hn:=fL hn;obtain⟨B1,B2⟩:=bAa (l:=t.1) R;cases hsh:kJ m
   ·obtain⟨V,-,v1,v2⟩:=B2 hsh;refine .inr ?_;rw[hn14,v2];rw[v1] at hn;have hp:=aGA m V m.2.2.2.2.1 0 0 (fB _) (fB _);have hq:=aGz hs V m.2.2.2.2.1 0 0 hen (by decide);have hw:IntKind.i64.wrap ((m.2.1.length:Int)+(eW m V m.2.2.2.2.1 0 0).2)=(m.2.1.length:Int)+(eW m V m.2.2.2.2.1 0 0).2:=rG (by omega) (by omega);rw[←hn];unfold aDG aDF;simp only[uW,aA,aB,hw];exact⟨trivial,trivial,hp.1,by omega⟩
   ·obtain⟨v1,v2⟩:=B1 hsh;refine .inl ?_;rw[hn14,v2];rw[v1] at hn;rw[←hn];exact⟨rfl,_,rfl,rfl⟩
  ·have h14:tW m t.1=some (zE m t.1,()):=by unfold tW;rw[hs,hmaps];rfl
   have hp:=ht.pot;unfold tZ at hp;rw[hs,ht.ok] at hp;simp only[aG,aA] at hp;have hp:=fL hp;rw[h14,←hp];rcases aTX hs P with⟨q1,q2⟩ | ⟨q1,q2⟩
   ·exact .inl ⟨q1,by rw[q2]⟩
   ·exact .inr ⟨q1,_,q2,rfl⟩
theorem aJG (m:Im):tU m=gA m:=rfl
theorem aSG {m:Im} (h0:gA m=0) {t n p} (h:aPu m t n p):oO m=some (qY m t n p):=by
 have h0':(tU m !=0)=false:=by rw[aJG,h0];rfl
 unfold oO qY;rw[h0'];simp only[aB];by_cases ht:t.2.2.2.1=0
 ·obtain⟨h1,h2,h3⟩:=h.good ht;rw[h1,ht];simp only[aF,uW,aB];rw[show decide ((-1:Int)≥0)=false from rfl];simp only[aB];rcases h2 with⟨q1,x,q2,q3⟩ | ⟨q1,q2,-,-⟩
  ·rw[q2,q1,aF,q3];rfl
  ·rw[q2,q1];simp only[aF,uW,aV,aB];rcases h3 with⟨r1,r2⟩ | ⟨r1,f,r2,r3⟩
   ·rw[r2,r1];simp only[aF,uW,aB];rw[show decide ((-1:Int)≥0)=false from rfl];simp only[aB];cases decide (n.1>m.2.2.2.2.2.1) <;> simp only[aA,aB];cases decide (n.2.1>m.2.2.2.2.2.2.1) <;> simp only[aA,aB]
   ·rw[r3,r1];simp only[aF];rw[aH (show f≥0 from r2)];rfl
 ·obtain⟨h1,f,h2,h3⟩:=h.bad ht;rw[h3,h1];simp only[aF];rw[aH (show f≥0 from h2)];rfl
theorem aSH {m:Im} (h0:gA m≠0):oO m=some ([],gA m,()):=by
 have h0':(tU m !=0)=true:=by rw[aJG];simp[h0]
 unfold oO;rw[h0'];rfl
theorem bAy (m:Im):nX m=oO m:=by
 by_cases h0:gA m=0
 ·obtain⟨t,n,p,h⟩:=aCa (aFC h0);rw[aCj h0 h.told,aSG h0 h]
 ·rw[aIg h0,aSH h0]
end Go.Pli

namespace Go.Pli
open Go Go.PM
theorem aYp:aF5=r5encodeL1:=by
 funext m a b c d;unfold aF5 r5encodeL1;simp only[kZ];rfl
theorem aYo:aF4=r5encodeL2:=by
 funext m k a b;unfold aF4 r5encodeL2;simp only[kZ,aYp]
theorem aYn:aF3=r5encodeL3:=by
 funext m k a b;unfold aF3 r5encodeL3;simp only[kZ,aYo]
theorem aYm:aF2=r5encodeL4:=by
 funext m k a b;unfold aF2 r5encodeL4;simp only[kZ,aYn]
theorem aYl (k:Nat) (m:Im):aF1 k m=aDn k m:=by
 unfold aF1 aDn;simp only[kZ,aYm];rfl
theorem aTC (m:Im) (r) (h:gU m=some r):∃k,aF1 k m=some r:=by
 obtain⟨k,hk⟩:=aTB m r h;exact⟨k,by rw[aYl];exact hk⟩
noncomputable def aAV (m:Im) (b:List Int):Option (Bool×Unit):=
 (nY b).bind fun r4=>
 bif r4.2.2.1 !=0 then
  awake16N.bind fun r5=>
  bif r5.1 then
   bif (r4.2.1.length:Int)==0 then
    bif (pY r4.1 (([]:List Cl),(([]:List Tp),(([]:List Int),(([]:List Mt),(([]:List Int),((0:Int),((0:Int),())))))))) then
     bif r4.2.2.1 !=2 then some (true,())
     else bif decide ((b.length:Int)>8192) then some (true,())
     else bif !(jT m) then some (true,())
     else (gU m).bind fun r6=>some (!((strOfNums r6.1).toList==(strOfNums b).toList),())
    else some (false,())
   else some (false,())
  else some (false,())
 else
  (oO r4.1).bind fun r7=>
  awake16N.bind fun r8=>
  bif r8.1 then
   bif r7.2.1==0 then
    (pW r7.1 r4.2.1).bind fun r9=>
    bif r9.1 then (gU r4.1).bind fun r10=>some ((strOfNums r10.1).toList==(strOfNums b).toList,())
    else some (false,())
   else some (false,())
  else some (false,())
theorem aP6 {a b:List Int} (ha:bC a=true) (hb:bC b=true) (h:a≠b):((strOfNums a).toList==(strOfNums b).toList)=false:=by
 cases hh:(strOfNums a).toList==(strOfNums b).toList
 ·rfl
 ·exact absurd (aJa ha hb (by simpa using hh)) h
theorem aFk {m:Im} (h32:lL m.2.2.1=true) {b:List Int} (hb:bC b=true):aAV m b=some (true,()):=by
 unfold aAV;rw[aH8];have hz:pY zIm (([]:List Cl),(([]:List Tp),(([]:List Int),(([]:List Mt),(([]:List Int),((0:Int),((0:Int),())))))))=true:=by unfold pY;exact beq_self_eq_true _
 have h0:((0:Int) !=0)=false:=rfl;rcases aYz hb with h | ⟨x,h,xi,x32,xe,xl⟩
 ·have ha:nY b=some (zIm,[],2,()):=by unfold nY;rw[h];rfl
  rw[ha];simp only[aF];have e1:((2:Int) !=0)=true:=rfl;have e2:((2:Int) !=2)=false:=rfl;have e3:((([]:List (List Sh)).length:Int)==0)=true:=rfl;simp only[e1,e2,e3,hz,aA,aB];by_cases hl:(b.length:Int)>8192
  ·rw[aH hl];rfl
  rw[aT hl];cases hf:jT m
  ·rfl
  have hi:bI m=true:=hf;have hr:gU m=some (eY m,()):=by unfold gU;rw[hi,h32];rfl
  rw[hr];simp only[aV,aB,aF];have hne:eY m≠b:=fun e=>by
   have hd:=aYA hi h32 (rest:=[]) rfl (by rw[bZ,e];omega);rw[bZ,e,h] at hd;cases hd
  rw[aP6 (aNP hi h32) hb hne];rfl
 ·obtain⟨r,hr,hok,hnil⟩:=bAB x;have ha:nY b=some (bif r.2.1 !=0 then (zIm,[],r.2.1,()) else (x,r.1,0,())):=by
   unfold nY;rw[h];simp only[aF,h0,aB,hr];cases r.2.1 !=0 <;> rfl
  rw[ha];simp only[aF];by_cases q0:r.2.1=0
  ·have q1:(r.2.1 !=0)=false:=by simp[q0]
   have hsame:pW r.1 r.1=some (true,()):=by unfold pW;rw[hok];simp
   have hre:gU x=some (eY x,()):=by unfold gU;rw[xi,x32];rfl
   simp only[q1,h0,aB];rw[←bAy,hr];simp only[aF,q0,beq_self_eq_true,aA,hsame,hre,←xe]
  ·have q1:(r.2.1 !=0)=true:=by simp[q0]
   have q2:(r.2.1 !=2)=true:=by
    cases hq:r.2.1 !=2
    ·exfalso;have hq2:r.2.1=2:=by simpa using hq
     by_cases hs:gA x=0
     ·obtain⟨t,n,p,hB⟩:=aCa (aFC hs);rw[aCj hs hB.told] at hr;have e:=fL hr;rw[←e] at hq2;have hne2:(qY x t n p).2.1≠2:=by
       unfold qY;by_cases ht:t.2.2.2.1=0
       ·obtain⟨-,g2,g3⟩:=hB.good ht;rw[ht];simp only[uW,aB];rcases g2 with⟨e1,-⟩ | ⟨e1,-⟩
        ·rw[e1];exact (by decide:(5:Int)≠2)
        ·rw[e1];simp only[uW,aB];rcases g3 with⟨e2,-⟩ | ⟨e2,-⟩
         ·rw[e2];simp only[uW,aB];cases decide (n.1>x.2.2.2.2.2.1) <;> simp only[aA,aB]
          ·cases decide (n.2.1>x.2.2.2.2.2.2.1) <;> simp only[aA,aB] <;> decide
          ·decide
         ·rw[e2];exact (by decide:(6:Int)≠2)
       ·rw[(hB.bad ht).1];exact (by decide:(4:Int)≠2)
      exact hne2 hq2
     ·rw[aIg hs] at hr;have e:=fL hr;rw[←e] at hq2;have hq2:gA x=2:=hq2;unfold gA at hq2;rw[xi] at hq2;cases hsb:kL x <;> rw[hsb] at hq2 <;> exact absurd hq2 (by decide)
    ·rfl
   have e3:((([]:List (List Sh)).length:Int)==0)=true:=rfl;simp only[q1,q2,e3,hz,aA]
theorem bAz (b:List Int) (m:Im) (t:Int) (hb:bC b=true) (h32:lL m.2.2.1=true) (ht:0≤t∧t<65536):aIf b m t=some (true,()):=by
 unfold aIf;by_cases hl:(b.length:Int)>2000
 ·rw[aH hl,aH8];rfl
 rw[aT hl];cases hsm:aA2 m
 ·rw[aH8];rfl
 cases hf:jT m
 ·have:=aFk h32 hb;unfold aAV at this;rw[hf] at this;exact this
 have hi:bI m=true:=hf;have hr:gU m=some (eY m,()):=by unfold gU;rw[hi,h32];rfl
 have hbe:=aNP hi h32;have h4:=aYq m;simp only[aV,aA,aB];by_cases ht0:t>0
 ·rw[aH ht0];have hz:decide (((eY m).length:Int)>0)=true:=aH (by omega);have hz2:decide (((eY m).length:Int)=0)=false:=aT (by omega);have hw:(IntKind.i64.wrap t).tmod ((eY m).length:Int)=((t.toNat % (eY m).length:Nat):Int):=by
   rw[bV (by omega) (by omega)];rw[show t=((t.toNat:Nat):Int) by omega,aL];exact (Int.ofNat_tmod _ _).symm
  have hlt:=Nat.mod_lt t.toNat (show (eY m).length>0 by omega);have hlt':decide (((t.toNat % (eY m).length:Nat):Int)<((eY m).length:Int))=true:=aH (by omega);have hge:decide ((0:Int)≤((t.toNat % (eY m).length:Nat):Int))=true:=aH (by omega);rw[hr];simp only[aF,hz,hz2,hw,hge,hlt',bU,aG,aA];generalize hy:IntKind.u8.wrap (((BitVec.ofInt 8 ((eY m).getD (((t.toNat % (eY m).length:Nat):Int)).toNat 0) ^^^ BitVec.ofInt 8 (IntKind.u8.wrap (t.fdiv 256))).toNat:Nat):Int)=y;have hyr:0≤y∧y<256:=by
   subst hy;have:∀n:Int,0≤IntKind.u8.wrap n∧IntKind.u8.wrap n<256:=fun n=>by
    have:IntKind.u8.wrap n=n % 256:=rfl;rw[this];omega
   exact this _
  have:=aFk h32 (bytes_set (i:=(((t.toNat % (eY m).length:Nat):Int)).toNat) hbe hyr);unfold aAV at this;rw[hf,hr] at this;simp only[aF,aV,aB] at this⊢;exact this
 ·rw[aT ht0,hr];simp only[aF,aB];have:=aFk h32 hbe;unfold aAV at this;rw[hf,hr] at this;exact this
where
 bytes_set {l:List Int} {i:Nat} {x:Int} (h:bC l=true) (hx:0≤x∧x<256):bC (l.set i x)=true:=by
  simp only[bC,bT,aC,aO] at h⊢
  intro y hy
  rcases sY hy with hy | rfl
  ·exact h y hy
  ·exact hx
end Go.Pli
