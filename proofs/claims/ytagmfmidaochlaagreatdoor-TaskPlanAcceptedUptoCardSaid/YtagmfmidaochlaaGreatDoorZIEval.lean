import Derived.Test.YtagmfmidaochlaaGreatDoorZICore
open Bool renaming true->D,false->E
open List renaming length->A
open Option renaming some->B,none->C
open Go renaming TypeId->qp,Operand->zw,Value->qq,Program->qn
namespace Go.Abs
structure Out where
 val:ac
 rd:List Nat
 wr:Mem
 obl:Option Prop
def Out.v (v:ac):Out:=⟨v,[],[],C⟩
def holds:Option Prop->Prop
 |none=>True
 |some p=>p
def gc (o:Option Prop)(p:Prop):Prop:=
 match o with
 |none=>p
 |some q=>q/\p
def ac.toP:ac->Option ae
 | .pure p=>B p
 | .tt=>B (.bool D)
 | .ff=>B (.bool E)
 |_=>C
def allP:List ac->Option (List ae)
 |[]=>B []
 |a::l=>match a.toP with
  |some p=>match allP l with
   |some b=>B (p::b)
   |none=>C
  |none=>C
def mkAgg (a:List ac):ac:=
 match allP a with
 |some b=>.pure (.agg b)
 |none=>.agg a
def ac.cells:ac->List ac
 | .agg b=>b
 | .pure (.agg ps)=>ps.map .pure
 |a=>[a]
def ac.scalar:ac->Bool
 | .any| .agg _| .tup _| .pure (.agg _)=>E
 |_=>D
def eX:qq->ac
 | .bool D=>.tt
 | .bool E=>.ff
 | .int k n=>.pure (.int k n)
 | .string s=>.pure (.str s)
 | .slice C 0 0=>.pure (.lst 0 0 λ_=>.unk)
 | .nilIface=>.pure .nilI
 | .pointer C=>.nilp
 | .agg _| .tuple _=>.any
 |_=>.pure .unk
def oI:qq->ac
 | .agg a=>mkAgg (a.toList.map eX)
 |v=>eX v
def fc (id:Nat):List qq->List ac
 |[]=>[]
 | .slice C 0 0::l=>.vec id::fc (id+1) l
 |v::l=>eX v::fc (id+1) l
def gu:List qq->List ac
 |[]=>[]
 | .slice C 0 0::l=>.pure (.lst 0 0 λ_=>.unk)::gu l
 |v::l=>eX v::gu l
def zmem (id:Nat):List qq->Mem
 |[]=>[]
 | .slice C 0 0::l=>(id,.nilv)::zmem (id+1) l
 |_::l=>zmem (id+1) l
section
variable (P:qn)
def aQ (t:qp):Option Nat:=(P.info? t).map (·.size)
def iT (t:qp):Option Nat:=(P.info? t).map (·.bytes)
def ee (t:qp):Option (List qq):=(P.info? t).bind λi=>i.zero.map (·.cells.toList)
def bA (t:qp):Option Bool:=
 match P.underlying t with
 |some (.struct _)=>B D
 |some (.array _ _)=>B D
 |some _=>B E
 |none=>C
def tN (t:qp)(a:List ac)(b:Nat):Option ac:=
 match bA P t,aQ P t with
 |some D,B s=>if b+s<=A a then B (mkAgg ((a.drop b).take s))else C
 |some E,B _=>a[b]?
 |_,_=>C
def f9 (t:qp)(a:List ae)(b:Nat):Option ae:=
 match bA P t,aQ P t with
 |some D,B s=>if b+s<=A a then B (.agg ((a.drop b).take s))else C
 |some E,B _=>match a[b]? with
  |some p=>if p.scalar then B p else C
  |none=>C
 |_,_=>C
def Fi (s:qp)(f:Nat):Option (Nat×qp):=
 match P.underlying s with
 |some (.struct a)=>match a[f]? with
  |some x=>match aQ P x.type with
   |some (_+1)=>B (x.offset,x.type)
   |_=>C
  |none=>C
 |_=>C
def gv (t:qp)(a:ac)(m:Mem):Option Out:=
 match a with
 | .ref p=>match bA P t,aQ P t,p with
   |some D,B s,.agg b=>if A b=s then B (.v (.pure (.agg b)))else C
   |some E,B _,p=>if p.scalar then B (.v (.pure p))else C
   |_,_,_=>C
 | .ptr id d=>match m.get id with
   |some (.box b)=>match tN P t b d with
    |some v=>B ⟨v,[id],[],C⟩
    |none=>C
   |_=>C
 | .eptr id e i d=>match m.get id with
   |some (.vec c n f _ _)=>if e=c then(match f9 P t (f i).cells d with
    |some p=>B ⟨.pure p,[id],[],B (i<n)⟩
    |none=>C)else C
   |_=>C
 |_=>C
def nilP (m:Mem)(a b:ac):ac:=
 match a,b with
 | .vec i,.pure _=>(match m.get i with
   |some .nilv=>.pure (.lst 0 0 λ_=>.unk)
   |_=>.vec i)
 |a,_=>a
def ll (t:qp)(a v:ac)(m:Mem):Option Out:=
 match aQ P t with
 |none=>C
 |some s=>if A v.cells=s then(match a with
  | .ptr id d=>match m.get id with
    |some (.box c)=>if d+s<=A c&&v.cells.all (·.scalar)then
     B ⟨.any,[id],[(id,.box (c.take d++v.cells++c.drop (d+s)))],C⟩else C
    |_=>C
  | .eptr id h i d=>match m.get id with
    |some (.vec b n f k e)=>match allP v.cells with
     |some g=>if h=b&&d+s<=(f i).cells.length&&g.all (·.scalar)then
      B ⟨.any,[id],[(id,.vec h n (λj=>if j=i then lu (f i) ((f i).cells.take d++g++(f i).cells.drop (d+s))else f j) k e)],B (i<n/\k<=i)⟩else C
     |none=>C
    |_=>C
  |_=>C)else C
def Ep (t:qp)(id:Nat):Option Out:=
 match ee P t with
 |some z=>if z.all (λv=>v.oneCell')then B ⟨.ptr id 0,[],[(id,.box (gu z))],C⟩else C
 |none=>C
def Se (_:Nat)(_:qp)(_:Nat):Option Out:=(λ(_:qn)=>C) P
def EA (t:qp)(a v:ac)(m:Mem):Option Out:=
 match a with
 | .eptr id c i 0=>match m.get id with
   |some (.vec b n f k e)=>match allP v.cells with
    |some d=>if c=b&&aQ P t=B c&&A d=c&&d.all (·.scalar)then(match bA P e with
     |some D=>B ⟨.any,[id],[(id,.vec c n (λj=>if j=i then .agg d else f j) k e)],B (i<n/\k<=i)⟩
     |some E=>match d with
      |[p]=>B ⟨.any,[id],[(id,.vec c n (λj=>if j=i then p else f j) k e)],B (i<n/\k<=i)⟩
      |_=>C
     |none=>C)else C
    |none=>C
   |_=>C
 |_=>C
def E9 (s:qp)(x:ac)(f:Nat):Option Out:=
 match Fi P s f with
 |some (a,b)=>match x with
  | .ptr id d=>B (.v (.ptr id (d+a)))
  | .eptr id e i d=>B (.v (.eptr id e i (d+a)))
  | .ref (.agg c)=>match f9 P b c a with
    |some q=>B (.v (.ref q))
    |none=>C
  |_=>C
 |none=>C
def Et (s:qp)(x:ac)(f:Nat):Option Out:=
 match P.underlying s with
 |some (.struct b)=>match b[f]? with
  |some a=>match x with
   | .agg c=>(tN P a.type c a.offset).map .v
   | .pure (.agg d)=>(f9 P a.type d a.offset).map (λp=>.v (.pure p))
   |_=>C
  |none=>C
 |_=>C
def Ct (t:qp)(x i:ac)(m:Mem):Option Out:=
 match i with
 | .pure (.int _ i)=>match P.underlying t with
   |some (.slice e)=>match x with
    | .pure (.lst c n f)=>if aQ P e=B c then B ⟨.ref (f i.toNat),[],[],B (0<=i/\i<n)⟩else C
    | .vec id=>match m.get id with
      |some (.vec c n _ _ _)=>if aQ P e=B c then B ⟨.eptr id c i.toNat 0,[id],[],B (0<=i/\i<n)⟩else C
      |_=>C
    |_=>C
   |some (.array len e)=>match aQ P e with
    |some s=>match x with
     | .ptr id b=>B ⟨.ptr id (b+i.toNat * s),[],[],B (0<=i/\i<len)⟩
     | .eptr id c k b=>B ⟨.eptr id c k (b+i.toNat * s),[],[],B (0<=i/\i<len)⟩
     | .ref (.agg a)=>match f9 P e a (i.toNat * s)with
       |some q=>B ⟨.ref q,[],[],B (0<=i/\i<len)⟩
       |none=>C
     |_=>C
    |none=>C
   |_=>C
 |_=>C
def iX (k:IntKind):List ae->Option (List Int)
 |[]=>B []
 | .int a n::l=>if a=k then(match iX k l with
   |some r=>B (n::r)
   |none=>C)else C
 |_=>C
def te (e:qp)(len:Nat)(a:List ae):Option (IntKind×List Int):=
 match P.underlying e,aQ P e with
 |some (.int k),B 1=>match iX k a with
  |some l=>if A l=len then B (k,l)else C
  |none=>C
 |_,_=>C
def Fc (t:qp)(x i:ac):Option Out:=
 match i with
 | .pure (.int _ i)=>match P.underlying t with
   |some (.array len e)=>match aQ P e,x with
    |some s,.pure (.agg a)=>match te P e len a with
     |some (k,l)=>B ⟨.pure (.int k (l.getD i.toNat 0)),[],[],B (0<=i/\i<len)⟩
     |none=>match f9 P e a (i.toNat * s)with
      |some p=>B ⟨.pure p,[],[],B (0<=i/\i<len)⟩
      |none=>C
    |_,_=>C
   |some .string=>match x with
    | .pure (.str s)=>B ⟨.pure (.int .u8 ((s.data.getD i.toNat 0).toNat)),[],[],B (0<=i/\i<s.size)⟩
    |_=>C
   |_=>C
 |_=>C
def cp:List ae->List ae->Option Bool
 |[],[]=>B D
 | .int k a::l,.int d b::c=>if k=d then(cp l c).map (λr=>(a==b)&&r)else C
 | .bool a::l,.bool b::c=>(cp l c).map (λr=>(a==b)&&r)
 | .str a::l,.str b::c=>(cp l c).map (λr=>(a==b)&&r)
 |_,_=>C
def ic (g:qp->Option (List Nat)):List Field->Nat->Option (List Nat)
 |[],_=>B []
 |f::r,c=>if f.offset=c&&f.name != "_" then(match g f.type with
  |some a=>if aQ P f.type=B (A a)&& !a.isEmpty then(match ic g r (c+A a)with
   |some b=>B (a++b)
   |none=>C)else C
  |none=>C)else C
def dt:Nat->qp->Option (List Nat)
 |0,_=>C
 |d+1,t=>match P.underlying t with
  |some .bool=>B [0]
  |some (.int _)=>B [1]
  |some .string=>B [2]
  |some (.array n e)=>match dt d e with
   |some a=>if aQ P e=B (A a)&& !a.isEmpty then B (List.replicate n a).flatten else C
   |none=>C
  |some (.struct b)=>if P.stoodInHeld t then C else ic P (dt d) b.toList 0
  |_=>C
def iY:Nat->ae->Bool
 |0,.bool _=>D
 |1,.int _ _=>D
 |2,.str _=>D
 |_,_=>E
def fits:List Nat->List ae->Bool
 |[],[]=>D
 |k::a,p::b=>iY k p&&fits a b
 |_,_=>E
def tE (c:BinOp)(t:qp)(x y:ae):Option (ae×Option Prop):=
 match x,y with
 | .int k a,.int f b=>match c with
   | .shl=>B (.int k (k.wrap (a * 2 ^ (min b.toNat k.bits))),B (0<=b))
   | .shr=>B (.int k (a.fdiv (2 ^ (min b.toNat k.bits))),B (0<=b))
   | .add=>if k=f then B (.int k (k.wrap (a+b)),C)else C
   | .sub=>if k=f then B (.int k (k.wrap (a-b)),C)else C
   | .mul=>if k=f then B (.int k (k.wrap (a * b)),C)else C
   | .quo=>if k=f then B (.int k (k.wrap (a.tdiv b)),B (b≠0))else C
   | .rem=>if k=f then B (.int k (a.tmod b),B (b≠0))else C
   | .and=>if k=f then B (.int k (k.wrap (BitVec.ofInt k.bits a&&&BitVec.ofInt k.bits b).toNat),C)else C
   | .or=>if k=f then B (.int k (k.wrap (BitVec.ofInt k.bits a|||BitVec.ofInt k.bits b).toNat),C)else C
   | .xor=>if k=f then B (.int k (k.wrap (BitVec.ofInt k.bits a ^^^ BitVec.ofInt k.bits b).toNat),C)else C
   | .andNot=>if k=f then B (.int k (k.wrap (BitVec.ofInt k.bits a&&&~~~ BitVec.ofInt k.bits b).toNat),C)else C
   | .eql=>if k=f then B (.bool (a==b),C)else C
   | .neq=>if k=f then B (.bool (a !=b),C)else C
   | .lss=>if k=f then B (.bool (decide (a<b)),C)else C
   | .leq=>if k=f then B (.bool (decide (a<=b)),C)else C
   | .gtr=>if k=f then B (.bool (decide (a>b)),C)else C
   | .geq=>if k=f then B (.bool (decide (a>=b)),C)else C
 | .bool a,.bool b=>match P.underlying t with
   |some .bool=>match c with
    | .eql=>B (.bool (a==b),C)
    | .neq=>B (.bool (!(a==b)),C)
    |_=>C
   |_=>C
 | .str a,.str b=>match c with
   | .eql=>B (.bool (a==b),C)
   | .neq=>B (.bool (a !=b),C)
   |_=>C
 | .agg g,.agg d=>match dt P 20 t with
   |some e=>if bA P t=B D&&fits e g&&fits e d then(match cp g d with
    |some r=>match c with
     | .eql=>B (.bool r,C)
     | .neq=>B (.bool (!r),C)
     |_=>C
    |none=>C)else C
   |none=>C
 |_,_=>C
def evUn (a:UnOp)(x:ae):Option ae:=
 match a,x with
 | .not,.bool b=>B (.bool (!b))
 | .neg,.int k n=>B (.int k (k.wrap (0-n)))
 | .xor,.int k n=>B (.int k (k.wrap (BitVec.ofInt k.bits (if k.signed then -1 else k.max) ^^^ BitVec.ofInt k.bits n).toNat))
 |_,_=>C
def FF (a:qp)(x:ae):Option ae:=
 match P.underlying a,x with
 |some (.int k),.int _ n=>B (.int k (k.wrap n))
 |some .string,.str s=>B (.str s)
 |_,_=>C
def over (a:List ac):List (Nat×List ac)->Option (List ac)
 |[]=>B a
 |(b,c)::r=>if b+A c<=A a then over (a.take b++c++a.drop (b+A c)) r else C
def nQ (t:qp)(c:zw->ac):List (Nat×zw)->Option (List (Nat×List ac))
 |[]=>B []
 |(i,x)::r=>
  let a:Option (Nat×Nat):=match P.underlying t with
   |some (.struct b)=>match b[i]? with
    |some f=>match aQ P f.type with
     |some s=>B (f.offset,s)
     |none=>C
    |none=>C
   |some (.array _ e)=>match aQ P e with
    |some s=>B (i * s,s)
    |none=>C
   |_=>C
  match a,nQ t c r with
  |some (d,s),B l=>if(c x).cells.length=s&&(c x).cells.all (·.scalar)then B ((d,(c x).cells)::l)else C
  |_,_=>C
def FU (t:qp):Bool:=
 match P.underlying t with
 |some (.struct a)=>a.toList.all λf=>(aQ P f.type).isSome
 |some (.array _ e)=>(aQ P e).isSome
 |_=>E
def E7 (t:qp)(id:Nat)(c:zw->ac)(a:List (Nat×zw)):Option Out:=
 match ee P t,nQ P t c a with
 |some z,B d=>match over (fc id z) d with
  |some b=>if FU P t&&A z<=60 then B ⟨mkAgg b,[],zmem id z,C⟩else C
  |none=>C
 |_,_=>C
def o9 (m:Mem):ac->Option (ae×List Nat)
 | .vec id=>match m.get id with
   |some (.vec b n f _ _)=>B (.lst b n f,[id])
   |some (.vecT _ n f _ _ C)=>B (.lst 1 n f,[id])
   |some (.vecU b n f _ _ _ _ _ [])=>B (.lst b n f,[id])
   |some .nilv=>B (.lst 0 0 λ_=>.unk,[id])
   |_=>C
 |a=>match a.toP with
  |some p=>B (p,[])
  |none=>C
def pa (m:Mem):List ac->Option (List ae×List Nat)
 |[]=>B ([],[])
 |a::l=>match o9 m a with
  |some (p,is)=>match pa m l with
   |some (c,b)=>B (p::c,is++b)
   |none=>C
  |none=>C
def fZ (m:Mem):ac->Option (ae×List Nat)
 | .agg b=>match pa m b with
   |some (c,is)=>if c.all (·.scalar)then B (.agg c,is)else C
   |none=>C
 |a=>o9 m a
def bG (m:Mem):List Nat->Mem
 |[]=>[]
 |id::l=>match m.get id with
  |some (.vec a n f _ e)=>(id,.vec a n f n e)::bG m l
  |some (.vecT _ n f e _ C)=>(id,.vec 1 n f n e)::bG m l
  |some (.vecU a n f _ e _ _ _ [])=>(id,.vec a n f n e)::bG m l
  |_=>bG m l
def n7 (m:Mem):List ac->Option (List ae×List Nat)
 |[]=>B ([],[])
 |a::l=>match fZ m a with
  |some (p,is)=>match n7 m l with
   |some (c,b)=>B (p::c,is++b)
   |none=>C
  |none=>C
def mK (a:zw->ac)(i:Nat):List (Nat×zw)->Option (List ac)
 |[]=>B []
 |(j,x)::r=>if j=i then(match mK a (i+1) r with
  |some l=>B (a x::l)
  |none=>C)else C
def lget (l:List ae)(i:Nat):ae:=l.getD i .unk
def AI (t:qp)(len id:Nat)(b:zw->ac)(m:Mem)(a:List (Nat×zw)):Option Out:=
 match P.underlying t with
 |some (.slice e)=>match aQ P e,mK b 0 a with
  |some s,B l=>match n7 m l with
   |some (c,is)=>if A c=len&&c.all (λp=>A p.cells==s&&p.cells.all (·.scalar))&&1<=s&&len * s<=16777216&&(ee P e).isSome then
    B ⟨.vec id,is,(id,.vec s len (lget c) 0 e)::bG m is,C⟩else C
   |none=>C
  |_,_=>C
 |_=>C
def appF (n:Nat)(f g:Nat->ae):Nat->ae:=λi=>if i<n then f i else g (i-n)
def Gi (m:Mem)(b:Nat):ac->Option (Nat×(Nat->ae)×List Nat)
 | .pure (.lst a n g)=>if a=b then B (n,g,[])else C
 | .vec id=>match m.get id with
   |some (.vec a n g _ _)=>if a=b then B (n,g,[id])else C
   |some .nilv=>B (0,(λ_=>.unk),[id])
   |_=>C
 |_=>C
def Er (d:Array qp)(id:Nat)(b:zw)(s x:ac)(m:Mem):Option Out:=
 match d[0]?,d[1]? with
 |some t,B i=>if t=i then(match P.underlying t with
  |some (.slice e)=>match aQ P e,iT P e with
   |some (l+1),B a=>match ee P e with
    |some z=>if A z=l+1 then(match Gi m (l+1) x with
     |some (k,g,is)=>match b,s with
      | .const (.slice C 0 0),_=>B ⟨.vec id,is,[(id,.vec (l+1) k g 0 e)],B (k * a<=140737488355328/\k<=maxLen)⟩
      |_,.vec j=>match m.get j with
       |some .nilv=>B ⟨.vec id,j::is,[(id,.vec (l+1) k g 0 e),(j,.gone)],B (k * a<=140737488355328/\k<=maxLen)⟩
       |some (.vec c n f o h)=>if c=l+1&&h=e then
        B ⟨.vec id,j::is,[(id,.vec (l+1) (n+k) (appF n f g) o e),(j,.gone)],B ((n+k) * a<=140737488355328/\n+k<=maxLen)⟩else C
       |_=>C
      |_,_=>C
     |none=>C)else C
    |none=>C
   |_,_=>C
  |_=>C)else C
 |_,_=>C
def Rf (_:Array qp)(_:Nat)(_:zw)(_ _:ac)(_:Mem):Option Out:=(λ(_:qn)=>C) P
def Sf (_:qp)(_:ac)(_ _ _:Option ac):Option Out:=(λ(_:qn)=>C) P
def Re (_:Array qp)(_:Nat)(_ _:ac)(_:Mem):Option Out:=(λ(_:qn)=>C) P
def DG (q:Array qp)(id:Nat)(p:zw)(s x:ac)(m:Mem):Option Out:=
 match x with
 | .view j d G k=>match q[0]?,q[1]?,m.get j with
   |some t,B w,B (.vec h n f o r)=>if t=w then(match P.underlying t with
    |some (.slice e)=>match aQ P e,iT P e with
     |some (F+1),B a=>match ee P e with
      |some z=>if A z=F+1&&d=F+1&&h=F+1 then(match p,s with
       | .const (.slice C 0 0),_=>B ⟨.vec id,[j],[(id,.vec (F+1) k (λi=>f (G+i)) 0 e)],B (k * a<=140737488355328/\k<=maxLen/\G+k<=n)⟩
       |_,.vec y=>match m.get y with
        |some (.vec l c u H v)=>if l=F+1&&v=e&&y !=j then
         B ⟨.vec id,[y,j],[(id,.vec (F+1) (c+k) (appF c u (λi=>f (G+i))) H e),(y,.gone)],B ((c+k) * a<=140737488355328/\c+k<=maxLen/\G+k<=n)⟩else C
        |_=>C
       |_,.view y g 0 b=>if y=j&&r=e&&o=0&&g=F+1 then
        B ⟨.vec id,[j],[(id,.vec (F+1) (b+k) (appF b f (λi=>f (G+i))) 0 e),(j,.gone)],B ((b+k) * a<=140737488355328/\b+k<=maxLen/\b<=n/\G+k<=n)⟩else C
       |_,_=>C)else C
      |none=>C
     |_,_=>C
    |_=>C)else C
   |_,_,_=>C
 |_=>C
def lC (a:Array qp)(x:ac)(m:Mem):Option Out:=
 match a[0]? with
 |some t=>match P.underlying t,x with
  |some (.slice _),.pure (.lst _ n _)=>B (.v (.pure (.int .i64 n)))
  |some (.slice _),.bsl _ n=>B (.v (.pure (.int .i64 n)))
  |some (.slice _),.vec id=>match m.get id with
   |some (.vec _ n _ _ _)=>B ⟨.pure (.int .i64 n),[id],[],C⟩
   |some (.vecU _ n _ _ _ _ _ _ _)=>B ⟨.pure (.int .i64 n),[id],[],C⟩
   |some .nilv=>B ⟨.pure (.int .i64 (0:Nat)),[id],[],C⟩
   |_=>C
  |some .string,.pure (.str s)=>B (.v (.pure (.int .i64 s.size)))
  |some (.array n _),_=>B (.v (.pure (.int .i64 n)))
  |_,_=>C
 |none=>C
def rF (t:qp)(id:Nat)(len b:ac):Option Out:=
 match len,b with
 | .pure (.int .i64 l),.pure (.int .i64 c)=>match P.underlying t with
   |some (.slice e)=>match aQ P e,iT P e,ee P e with
    |some (f+1),B a,B z=>if A z=f+1 then(match allP (z.map eX)with
     |some d=>if d.all (·.scalar)then(match bA P e with
      |some D=>B ⟨.vec id,[],[(id,.vec (f+1) l.toNat (λ_=>.agg d) 0 e)],B (0<=l/\l<=c/\c<=9223372036854775807/\c * a<=140737488355328)⟩
      |some E=>match d with
       |[p]=>B ⟨.vec id,[],[(id,.vec (f+1) l.toNat (λ_=>p) 0 e)],B (0<=l/\l<=c/\c<=9223372036854775807/\c * a<=140737488355328)⟩
       |_=>C
      |none=>C)else C
     |none=>C)else C
    |_,_,_=>C
   |_=>C
 |_,_=>C
def eO (d:Nat):Option ac->Option Int
 |none=>B d
 |some (.pure (.int _ n))=>B n
 |_=>C
def Fg (t:qp)(id:Nat)(x:ac)(g d j:Option ac)(m:Mem):Option Out:=
 match j with
 |some _=>C
 |none=>match P.underlying t with
  |some (.slice e)=>match x with
   | .pure (.lst c n f)=>match eO 0 g,eO n d with
     |some l,B h=>if aQ P e=B c then B ⟨.pure (.lst c (h.toNat-l.toNat) (λi=>f (l.toNat+i))),[],[],B (0<=l/\l<=h/\h<=n)⟩else C
     |_,_=>C
   | .vec b=>match m.get b with
     |some (.vec c n f k a)=>match g with
      |none=>match eO n d with
       |some h=>if aQ P e=B c then B ⟨.vec id,[b],[(id,.vec c h.toNat f k a),(b,.gone)],B (0<=h/\h<=n/\k<=h.toNat)⟩else C
       |none=>C
      |some _=>C
     |_=>C
   |_=>C
  |some .string=>match x with
   | .pure (.str s)=>match eO 0 g,eO s.size d with
     |some l,B h=>B ⟨.pure (.str (s.extract l.toNat h.toNat)),[],[],B (0<=l/\l<=h/\h<=s.size)⟩
     |_,_=>C
   |_=>C
  |_=>C
def Ey (t:qp)(x:ac)(c b d:Option ac)(m:Mem):Option Out:=
 match d with
 |some _=>C
 |none=>match P.underlying t with
  |some (.slice e)=>match fZ m x with
   |some (.lst a n f,is)=>match eO 0 c,eO n b with
    |some l,B h=>if aQ P e=B a then B ⟨.pure (.lst a (h.toNat-l.toNat) (λi=>f (l.toNat+i))),is,bG m is,B (0<=l/\l<=h/\h<=n)⟩else C
    |_,_=>C
   |_=>C
  |_=>C
def Sg (_:qp)(_:ac)(_ _ _:Option ac)(_:Mem):Option Out:=(λ(_:qn)=>C) P
def Ez (t:qp)(x:ac)(d c f:Option ac)(m:Mem):Option Out:=
 match f with
 |some _=>C
 |none=>match P.underlying t with
  |some (.slice e)=>match x with
   | .vec a=>match m.get a with
     |some (.vec b n _ _ _)=>match eO 0 d,eO n c with
      |some l,B h=>if aQ P e=B b then B ⟨.view a b l.toNat (h.toNat-l.toNat),[a],[],B (0<=l/\l<=h/\h<=n)⟩else C
      |_,_=>C
     |_=>C
   |_=>C
  |_=>C
def Ev (t:qp)(x:ac)(b a c:Option ac):Option Out:=
 match x,b,a,c with
 | .ptr id 0,C,C,C=>match P.underlying t with
   |some (.array n e)=>if aQ P e=B 1 then B (.v (.bsl id n))else C
   |_=>C
 |_,_,_,_=>C
def nX (k:Nat)(f:Nat->ae):Nat->List ac->Option (List ac)
 |_,[]=>B []
 |j,.pure (.int d b)::l=>match f j,nX k f (j+1) l with
  | .int c a,B r=>if c=d then B (.pure (.int d (if j<k then a else b))::r)else C
  |_,_=>C
 |_,_=>C
def E8 (b:Array qp)(d s:ac)(m:Mem):Option Out:=
 match d,s,b[0]? with
 | .bsl id n,.pure (.lst 1 k f),B t=>match m.get id,P.underlying t with
   |some (.box cs),B (.slice e)=>match nX k f 0 (cs.take n)with
    |some a=>if n<=A cs&&aQ P e=B 1 then B ⟨.pure (.int .i64 ((Nat.min k n:Nat):Int)),[id],[(id,.box (a++cs.drop n))],C⟩else C
    |none=>C
   |_,_=>C
 |_,_,_=>C
def FG (a:Array qp)(x:ac):Option Out:=
 match x,a[0]? with
 | .view _ _ _ n,B t=>match P.underlying t with
   |some (.slice _)=>B (.v (.pure (.int .i64 n)))
   |_=>C
 |_,_=>C
def AM (t:qp)(x i:ac):Option Out:=
 match x,i with
 | .view id a b n,.pure (.int _ i)=>match P.underlying t with
   |some (.slice e)=>if aQ P e=B a then B ⟨.eptr id a (b+i.toNat) 0,[],[],B (0<=i/\i<n)⟩else C
   |_=>C
 |_,_=>C
def DI (t:qp)(x:ac)(c b d:Option ac)(m:Mem):Option Out:=
 match d,x with
 |none,.view id a o n=>match P.underlying t,m.get id,eO 0 c,eO n b with
  |some (.slice e),B (.vec _ _ _ _ _),B l,B h=>if aQ P e=B a then B ⟨.view id a (o+l.toNat) (h.toNat-l.toNat),[id],[],B (0<=l/\l<=h/\h<=n)⟩else C
  |_,_,_,_=>C
 |_,_=>C
def mQ (f:Int->Int->Int)(k:IntKind):Int->List ac->Option Int
 |a,[]=>B a
 |a,.pure (.int c b)::l=>if k=c then mQ f k (f a b) l else C
 |_,_=>C
def sx (f:Int->Int->Int):List ac->Option ae
 | .pure (.int k a)::l=>match mQ f k a l with
   |some r=>B (.int k r)
   |none=>C
 |_=>C
def UE:zw->Bool
 | .const (.slice C 0 0)=>D
 |_=>E
def rZ (b:Builtin)(f:List zw)(c:Array qp)(id:Nat)(e:zw->ac)(m:Mem):Option Out:=
 match b with
 | .len=>match f with
   |[x]=>match FG P c (e x)with
    |some out=>B out
    |none=>lC P c (e x) m
   |_=>C
 | .copy=>match f with
   |[d,s]=>if c.size=2 then E8 P c (e d) (e s) m else C
   |_=>C
 | .append=>match f with
   |[s,x]=>if c.size=2 then(match DG P c id s (e s) (e x) m with
    |some out=>B out
    |none=>match Re P c id (e s) (e x) m with
     |some out=>B out
     |none=>Er P c id s (e s) (e x) m)else C
   |_=>C
 | .min=>match sx (λa b=>min a b) (f.map e)with
   |some p=>B (.v (.pure p))
   |none=>C
 | .max=>match sx (λa b=>max a b) (f.map e)with
   |some p=>B (.v (.pure p))
   |none=>C
 |_=>C
def ajm (k:qp):Option (List ae):=
 match ee P k,dt P 20 k with
 |some z,B b=>match allP (z.map eX)with
  |some a=>if bA P k=B D&&fits b a&&bE a a then B a else C
  |none=>C
 |_,_=>C
def tT (e:qp):Option ae:=
 match P.info? e with
 |some i=>match i.zero with
  |some (.agg a)=>match allP (a.toList.map eX)with
   |some b=>B (.agg b)
   |none=>C
  |some v=>(eX v).toP
  |none=>C
 |none=>C
def cu (p q:List ae):Bool:=
 match cp p q with
 |some b=>b
 |none=>E
def DH (t:qp)(id:Nat):Option Out:=
 match P.underlying t with
 |some (.map k e)=>match ajm P k,tT P e with
  |some a,B z=>B ⟨.map id,[],[(id,.map a (λ_=>E) (λ_=>z))],C⟩
  |_,_=>C
 |_=>C
def Eu (t:qp)(x ix:ac)(ok:Bool)(m:Mem):Option Out:=
 match P.underlying t,x with
 |some (.map k e),.map j=>match m.get j,ix.toP with
  |some (.map b a val),B (.agg cs)=>match dt P 20 k,tT P e with
   |some c,B z=>if bA P k=B D&&fits c b&&bE b cs then
    B ⟨if ok then .tup [.pure (val cs),.pure (.bool (a cs))]else .pure (val cs),[j],[],B (a cs=false->PSub z (val cs))⟩else C
   |_,_=>C
  |_,_=>C
 |_,_=>C
def rG (t:qp)(x e v:ac)(m:Mem):Option Out:=
 match P.underlying t,x with
 |some (.map k _),.map j=>match m.get j,e.toP,v.toP with
  |some (.map b d a),B (.agg c),B p=>match dt P 20 k with
   |some f=>if bA P k=B D&&fits f b&&bE b c then
    B ⟨.any,[j],[(j,.map b (λq=>cu q c||d q) (λq=>if cu q c then p else a q))],C⟩else C
   |none=>C
  |_,_,_=>C
 |_,_=>C
def vJ (t:qp)(len id:Nat)(b:zw->ac)(a:List (Nat×zw)):Option Out:=
 match P.underlying t with
 |some (.slice e)=>match aQ P e,ee P e,mK b 0 a with
  |some 1,B _,B l=>if A l=len&&l.all (·.scalar)&&len<=60 then B ⟨.bsl id len,[],[(id,.box l)],C⟩else C
  |_,_,_=>C
 |_=>C
def AJ (t:qp)(x i:ac):Option Out:=
 match x,i with
 | .bsl id n,.pure (.int _ i)=>match P.underlying t with
   |some (.slice e)=>if aQ P e=B 1 then B ⟨.ptr id i.toNat,[],[],B (0<=i/\i<n)⟩else C
   |_=>C
 |_,_=>C
def Tj:TypeDesc->Bool
 | .interface _=>D
 |_=>E
def Fb (t:qp)(x:ac):Option Out:=
 match P.underlying t with
 |some d=>if Tj d then C else B (.v (.iface t x))
 |none=>C
def Es (x:ac)(b:qp)(c:Bool):Option Out:=
 match x,P.underlying b with
 | .iface t a,B d=>if Tj d then C else
  if t=b then B (.v (if c then .tup [a,.tt]else a))else
  if c then(match P.info? b with
   |some i=>match i.zero with
    |some z=>B (.v (.tup [oI z,.ff]))
    |none=>C
   |none=>C)else C
 |_,_=>C
def og (t:qp)(a:String):Option FuncId:=
 match P.info? t with
 |some i=>match i.methods.find? (·.name==a)with
  |some m=>if m.path.isEmpty then(match m.func,P.underlying t with
   |some (f,D),B (.pointer _)=>B f
   |some (_,E),B (.pointer _)=>C
   |some (f,E),B _=>B f
   |_,_=>C)else C
  |none=>C
 |none=>C
def AO (t:qp)(id:Nat)(len d:ac):Option Out:=
 match len,d with
 | .pure (.int .i64 l),.pure (.int .i64 c)=>match P.underlying t with
   |some (.slice e)=>match aQ P e,iT P e,ee P e,P.underlying e with
    |some 1,B a,B [.slice C 0 0],B (.slice b)=>match aQ P b with
     |some f=>B ⟨.vec id,[],[(id,.vecT f l.toNat (λ_=>.lst f 0 λ_=>.unk) e b C)],B (0<=l/\l<=c/\c<=9223372036854775807/\c * a<=140737488355328)⟩
     |none=>C
    |_,_,_,_=>C
   |_=>C
 |_,_=>C
def AL (t:qp)(x i:ac)(m:Mem):Option Out:=
 match x,i with
 | .vec id,.pure (.int _ i)=>match m.get id with
   |some (.vecT _ n _ _ _ _)=>match P.underlying t with
    |some (.slice e)=>if aQ P e=B 1 then B ⟨.eptr id 1 i.toNat 0,[id],[],B (0<=i/\i<n)⟩else C
    |_=>C
   |_=>C
 |_,_=>C
def Fd (t:qp)(id:Nat)(a:ac)(m:Mem):Option Out:=
 match a with
 | .eptr j 1 i 0=>match m.get j with
   |some (.vecT h n f e c C)=>match bA P t,f i with
    |some E,.lst b d g=>if b=h then B ⟨.vec id,[j],[(j,.vecT h n f e c (B i)),(id,.vec h d g 0 c)],B (i<n)⟩else C
    |_,_=>C
   |_=>C
 |_=>C
def ED (t:qp)(a v:ac)(m:Mem):Option Out:=
 match a,v with
 | .eptr j 1 i 0,.vec k=>match m.get j,m.get k with
   |some (.vecT o n f e d (B l)),B (.vec b h g 0 c)=>if aQ P t=B 1&&b=o&&c=d then
    B ⟨.any,[j,k],[(j,.vecT o n (λq=>if q=i then .lst o h g else f q) e d C),(k,.gone)],B (i<n/\i=l)⟩else C
   |_,_=>C
 |_,_=>C
def EC (t:qp)(a v:ac)(m:Mem):Option Out:=
 match a,v with
 | .ptr j c,.vec k=>match m.get j,m.get k with
   |some (.box b),B (.vec d n f _ e)=>match b[c]? with
    |some (.pure (.lst _ _ _))=>if aQ P t=B 1&&2<=A b&&j !=k then
     B ⟨.any,[j,k],[(j,.box (b.take c++[.pure (.lst d n f)]++b.drop (c+1))),(k,.vec d n f n e)],C⟩else C
    |_=>C
   |_,_=>C
 |_,_=>C
def pur1 (m:Mem)(a b:ac):ac×List Nat:=
 match a,b with
 | .vec i,.pure (.lst _ _ _)=>(match fZ m (.vec i)with
   |some (p,is)=>(.pure p,is)
   |none=>(.vec i,[]))
 |a,_=>(a,[])
def purC (m:Mem):List ac->List ac->List ac
 |a::l,b::c=>(pur1 m a b).1::purC m l c
 |l,_=>l
def purI (m:Mem):List ac->List ac->List Nat
 |a::l,b::c=>(pur1 m a b).2++purI m l c
 |_,_=>[]
def EB (t:qp)(a v:ac)(m:Mem):Option Out:=
 match a,v with
 | .ptr id c,.agg d=>match m.get id with
   |some (.box b)=>if(purI m d (b.drop c)).isEmpty then C else match ll P t (.ptr id c) (.agg (purC m d (b.drop c))) (bG m (purI m d (b.drop c))++m)with
    |some out=>B {out with rd:=purI m d (b.drop c)++out.rd,wr:=out.wr++bG m (purI m d (b.drop c))}
    |none=>C
   |_=>C
 |_,_=>C
def EF (t:qp)(a v:ac)(m:Mem):Option Out:=
 match a,v with
 | .eptr j d h c,.vec k=>match m.get j,m.get k with
   |some (.vec b n f g e),B (.vec ..)=>if aQ P t=B 1&&d=b&&c+1<=(f h).cells.length&&j !=k&&g=0 then
    B ⟨.any,[j,k],[(j,.vecX d n f e h c k)],B (h<n)⟩else C
   |_,_=>C
 |_,_=>C
def Ff (t:qp)(a:ac)(m:Mem):Option Out:=
 match a with
 | .eptr j e i d=>match m.get j with
   |some (.vecX c _ _ _ h b k)=>if bA P t=B E&&e=c&&d=b&&(aQ P t).isSome then B ⟨.vec k,[j],[],B (i=h)⟩else C
   |_=>C
 |_=>C
def AN (t:qp)(x i:ac)(m:Mem):Option Out:=
 match x,i with
 | .vec id,.pure (.int _ i)=>match m.get id with
   |some (.vecX a n _ _ _ _ _)=>match P.underlying t with
    |some (.slice e)=>if aQ P e=B a then B ⟨.eptr id a i.toNat 0,[id],[],B (0<=i/\i<n)⟩else C
    |_=>C
   |some (.vecU a n _ _ _ _ _ _ _)=>match P.underlying t with
    |some (.slice e)=>if aQ P e=B a then B ⟨.eptr id a i.toNat 0,[id],[],B (0<=i/\i<n)⟩else C
    |_=>C
   |_=>C
 |_,_=>C
def Fe (t:qp)(q:Nat)(a:ac)(m:Mem):Option Out:=
 match a with
 | .eptr id g i 0=>match m.get id with
   |some (.vecU b n f k _ e _ _ c)=>if g=b&&aQ P t=B g&&bA P t=B D then(match q with
    |0=>if c.isEmpty then B ⟨.pure (.agg (f i).cells),[id],[],B (k<=i/\i<n)⟩else C
    |h+1=>match c[h]? with
     |some (d,j)=>B ⟨.agg (((f i).cells.map .pure).set e (.vec j)),[id],[],B (i=d)⟩
     |none=>C)else C
   |_=>C
 |_=>C
def EE (t:qp)(q:Nat)(a v:ac)(m:Mem):Option Out:=
 match a with
 | .eptr id r i 0=>match m.get id with
   |some (.vecU b n f k e o l g c)=>match v.cells[o]?,allP (v.cells.set o (.pure .unk))with
    |some (.vec p),B s=>match m.get p with
     |some (.vec ..)=>if r=b&&aQ P t=B r&&A s=r&&s.all (·.scalar)&&id !=p then(match q with
      |0=>if c.isEmpty then B ⟨.any,[id,p],[(id,.vecU r n (λj=>if j=i then .agg s else f j) k e o l g [(i,p)])],B (i<n)⟩else C
      |h+1=>match c[h]? with
       |some (d,_)=>B ⟨.any,[id,p],[(id,.vecU r n (λj=>if j=i then .agg s else f j) k e o l g (c.set h (d,p)))],B (i=d)⟩
       |none=>C)else C
     |_=>C
    |_,_=>C
   |_=>C
 |_=>C
def Rg (_:qp)(_ _:ac)(_:Mem):Option Out:=(λ(_:qn)=>C) P
def OE (_:qp)(_ _:Nat)(_:zw->ac)(_:Mem)(_:List (Nat×zw)):Option Out:=(λ(_:qn)=>C) P
def AK (t:qp)(x i:ac):Option Out:=
 match x,i with
 | .ref (.agg cs),.pure (.int _ i)=>match P.underlying t with
   |some (.array len e)=>if 8<len then(match te P e len cs with
    |some (k,l)=>B ⟨.ref (.int k (l.getD i.toNat 0)),[],[],B (0<=i/\i<len)⟩
    |none=>C)else C
   |_=>C
 |_,_=>C
def Ew (t:qp)(x:ac)(c b d:Option ac)(m:Mem):Option Out:=
 match x,c,b,d with
 | .ptr id 0,C,B (.pure (.int _ h)),C=>match P.underlying t,m.get id with
   |some (.array n e),B (.box cs)=>match allP cs with
    |some a=>if aQ P e=B 1&&A cs=n&&n<=60&&a.all (·.scalar)then
     B ⟨.pure (.lst 1 h.toNat (lget a)),[id],[(id,.gone)],B (0<=h/\h<=n)⟩else C
    |none=>C
   |_,_=>C
 |_,_,_,_=>C
def F6 (a:BinOp)(t:qp)(x:ac)(y:zw):Option Out:=
 match y,P.underlying t with
 | .const (.pointer C),B (.pointer _)=>(match a,x with
   | .eql,.nilp=>B (.v .tt)
   | .eql,.ptr _ _=>B (.v .ff)
   | .neq,.nilp=>B (.v .ff)
   | .neq,.ptr _ _=>B (.v .tt)
   |_,_=>C)
 |_,_=>C
def evOp (o:Op)(id:Nat)(e:zw->ac)(m:Mem):Option Out:=
 match o with
 | .move x=>B (.v (e x))
 | .assign x=>if UE x then B ⟨.vec id,[],[(id,.nilv)],C⟩else B (.v (e x))
 | .pick c a b=>match e c with
   | .tt=>B (.v (e a))
   | .ff=>B (.v (e b))
   |_=>C
 | .alloc t=>match ee P t with
   |some z=>if A z<60&&z.all (λv=>v.oneCell')then B ⟨.ptr id 0,[],(id,.box (fc (id+1) z))::zmem (id+1) z,C⟩else C
   |none=>C
 | .box _ x=>if(e x).cells.all (·.scalar)then B ⟨.ptr id 0,[],[(id,.box (e x).cells)],C⟩else C
 | .build t F=>E7 P t id e F.toList
 | .buildSlice t n F=>match AI P t n id e m F.toList with
   |some out=>B out
   |none=>vJ P t n id e F.toList
 | .load t a=>match Fd P t id (e a) m with
   |some out=>B out
   |none=>match Ff P t (e a) m with
    |some out=>B out
    |none=>gv P t (e a) m
 | .store t a v=>match ED P t (e a) (e v) m with
   |some out=>B out
   |none=>match EF P t (e a) (e v) m with
   |some out=>B out
   |none=>match Rg P t (e a) (e v) m with
   |some out=>B out
   |none=>match EC P t (e a) (e v) m with
   |some out=>B out
   |none=>match EB P t (e a) (e v) m with
   |some out=>B out
   |none=>match EA P t (e a) (e v) m with
    |some out=>B out
    |none=>ll P t (e a) (e v) m
 | .nilCheck x=>match e x with
   | .ptr i o=>B (.v (.ptr i o))
   | .eptr a b c d=>B (.v (.eptr a b c d))
   | .ref p=>B (.v (.ref p))
   | .func f a b=>B (.v (.func f a b))
   | .iface t a=>B (.v (.iface t a))
   |_=>C
 | .binOp w t x y _=>match F6 P w t (e x) y with
   |some out=>B out
   |none=>match(e x).toP,(e y).toP with
   |some p,B q=>match tE P w t p q with
    |some (r,G)=>B ⟨.pure r,[],[],G⟩
    |none=>C
   |_,_=>C
 | .unOp w _ x=>match e x with
   | .tt=>match w with| .not=>B (.v .ff)|_=>C
   | .ff=>match w with| .not=>B (.v .tt)|_=>C
   | .pure p=>match evUn w p with
     |some r=>B (.v (.pure r))
     |none=>C
   |_=>C
 | .convert s d x=>match(e x).toP with
   |some p=>match FF P d p with
    |some r=>if(P.underlying s).isSome then B (.v (.pure r))else C
    |none=>C
   |none=>C
 | .makeFunc fn a b=>match fn with
   | .func f=>B (.v (.func f (a.toList.map e) (b.toList.map e)))
   |_=>C
 | .makeSlice t l c=>rF P t id (e l) (e c)
 | .makeMap t r=>match r with
   |none=>DH P t id
   |some _=>C
 | .lookup t x ix ok=>Eu P t (e x) (e ix) ok m
 | .mapUpdate t x k v=>rG P t (e x) (e k) (e v) m
 | .insert t x k v=>rG P t (e x) (e k) (e v) m
 | .slice t x h g j=>match Sf P t (e x) (h.map e) (g.map e) (j.map e)with
   |some out=>B out
   |none=>match Ev P t (e x) (h.map e) (g.map e) (j.map e)with
   |some out=>B out
   |none=>match Ew P t (e x) (h.map e) (g.map e) (j.map e) m with
   |some out=>B out
   |none=>match DI P t (e x) (h.map e) (g.map e) (j.map e) m with
   |some out=>B out
   |none=>match Sg P t (e x) (h.map e) (g.map e) (j.map e) m with
   |some out=>B out
   |none=>Fg P t id (e x) (h.map e) (g.map e) (j.map e) m
 | .fieldAddr s x f=>E9 P s (e x) f
 | .field s x f=>Et P s (e x) f
 | .indexAddr t x i=>match AL P t (e x) (e i) m with
   |some out=>B out
   |none=>match AN P t (e x) (e i) m with
   |some out=>B out
   |none=>match AJ P t (e x) (e i)with
    |some out=>B out
    |none=>match AM P t (e x) (e i)with
    |some out=>B out
    |none=>match AK P t (e x) (e i)with
    |some out=>B out
    |none=>Ct P t (e x) (e i) m
 | .makeInterface t x=>Fb P t (e x)
 | .typeAssert x _ a ok=>Es P (e x) a ok
 | .index t x i=>Fc P t (e x) (e i)
 | .range t x=>match P.underlying t,e x with
   |some .string,.pure (.str s)=>B ⟨.ptr id 0,[],[(id,.iter s 0)],C⟩
   |_,_=>C
 | .extract x i=>match e x with
   | .tup cs=>match cs[i]? with
     |some v=>B (.v v)
     |none=>C
   |_=>C
 | .call c=>match c.callee with
   | .builtin b=>rZ P b c.args.toList c.argTypes id e m
   |_=>C
 |_=>C
end
end Go.Abs
