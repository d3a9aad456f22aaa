import Derived.Test.YtnfbbidmdkfilaaGreatDoorZDCore
open Go renaming TypeId->qq,Operand->xQ,Value->qr,Program->qo
namespace Go.Abs
structure Out where
 val:AVal
 rd:List Nat
 wr:Mem
 obl:Option Prop
def Out.v (v:AVal):Out:=⟨v,[],[],none⟩
def holds:Option Prop->Prop
 |none=>True
 |some p=>p
def andO (o:Option Prop)(p:Prop):Prop:=
 match o with
 |none=>p
 |some q=>q/\p
def AVal.toP:AVal->Option PVal
 | .pure p=>some p
 | .tt=>some (.bool true)
 | .ff=>some (.bool false)
 |_=>none
def allP:List AVal->Option (List PVal)
 |[]=>some []
 |a::l=>match a.toP with
  |some p=>match allP l with
   |some ps=>some (p::ps)
   |none=>none
  |none=>none
def mkAgg (a:List AVal):AVal:=
 match allP a with
 |some ps=>.pure (.agg ps)
 |none=>.agg a
def AVal.cells:AVal->List AVal
 | .agg b=>b
 | .pure (.agg ps)=>ps.map .pure
 |a=>[a]
def AVal.scalar:AVal->Bool
 | .any| .agg _| .tup _| .pure (.agg _)=>false
 |_=>true
def fzc:qr->AVal
 | .bool true=>.tt
 | .bool false=>.ff
 | .int k n=>.pure (.int k n)
 | .string s=>.pure (.str s)
 | .slice none 0 0=>.pure (.lst 0 0 λ_=>.unk)
 | .nilIface=>.pure .nilI
 | .pointer none=>.nilp
 | .agg _| .tuple _=>.any
 |_=>.pure .unk
def az0x:qr->AVal
 | .agg a=>mkAgg (a.toList.map fzc)
 |v=>fzc v
def yzm (id:Nat):List qr->List AVal
 |[]=>[]
 | .slice none 0 0::l=>.vec id::yzm (id+1) l
 |v::l=>fzc v::yzm (id+1) l
def xzo:List qr->List AVal
 |[]=>[]
 | .slice none 0 0::l=>.pure (.lst 0 0 λ_=>.unk)::xzo l
 |v::l=>fzc v::xzo l
def zmem (id:Nat):List qr->Mem
 |[]=>[]
 | .slice none 0 0::l=>(id,.nilv)::zmem (id+1) l
 |_::l=>zmem (id+1) l
section
variable (P:qo)
def bzi (t:qq):Option Nat:=(P.info? t).map (·.size)
def Fzr (t:qq):Option Nat:=(P.info? t).map (·.bytes)
def mzg (t:qq):Option (List qr):=(P.info? t).bind λi=>i.zero.map (·.cells.toList)
def ezn (t:qq):Option Bool:=
 match P.underlying t with
 |some (.struct _)=>some true
 |some (.array _ _)=>some true
 |some _=>some false
 |none=>none
def azho (t:qq)(a:List AVal)(off:Nat):Option AVal:=
 match ezn P t,bzi P t with
 |some true,some s=>if off+s<=a.length then some (mkAgg ((a.drop off).take s))else none
 |some false,some _=>a[off]?
 |_,_=>none
def Szj (t:qq)(a:List PVal)(off:Nat):Option PVal:=
 match ezn P t,bzi P t with
 |some true,some s=>if off+s<=a.length then some (.agg ((a.drop off).take s))else none
 |some false,some _=>match a[off]? with
  |some p=>if p.scalar then some p else none
  |none=>none
 |_,_=>none
def az4q (s:qq)(f:Nat):Option (Nat×qq):=
 match P.underlying s with
 |some (.struct a)=>match a[f]? with
  |some x=>match bzi P x.type with
   |some (_+1)=>some (x.offset,x.type)
   |_=>none
  |none=>none
 |_=>none
def Gzx (t:qq)(a:AVal)(m:Mem):Option Out:=
 match a with
 | .ref p=>match ezn P t,bzi P t,p with
   |some true,some s,.agg b=>if b.length=s then some (.v (.pure (.agg b)))else none
   |some false,some _,p=>if p.scalar then some (.v (.pure p))else none
   |_,_,_=>none
 | .ptr id off=>match m.get id with
   |some (.box b)=>match azho P t b off with
    |some v=>some ⟨v,[id],[],none⟩
    |none=>none
   |_=>none
 | .eptr id sz i off=>match m.get id with
   |some (.vec c n f _ _)=>if sz=c then(match Szj P t (f i).cells off with
    |some p=>some ⟨.pure p,[id],[],some (i<n)⟩
    |none=>none)else none
   |_=>none
 |_=>none
def nilP (m:Mem)(a b:AVal):AVal:=
 match a,b with
 | .vec i,.pure _=>(match m.get i with
   |some .nilv=>.pure (.lst 0 0 λ_=>.unk)
   |_=>.vec i)
 |a,_=>a
def Iz9 (t:qq)(a v:AVal)(m:Mem):Option Out:=
 match bzi P t with
 |none=>none
 |some s=>if v.cells.length=s then(match a with
  | .ptr id off=>match m.get id with
    |some (.box c)=>if off+s<=c.length&&v.cells.all (·.scalar)then
     some ⟨.any,[id],[(id,.box (c.take off++v.cells++c.drop (off+s)))],none⟩else none
    |_=>none
  | .eptr id sz i off=>match m.get id with
    |some (.vec b n f k e)=>match allP v.cells with
     |some ps=>if sz=b&&off+s<=(f i).cells.length&&ps.all (·.scalar)then
      some ⟨.any,[id],[(id,.vec sz n (λj=>if j=i then Hz7 (f i) ((f i).cells.take off++ps++(f i).cells.drop (off+s))else f j) k e)],some (i<n/\k<=i)⟩else none
     |none=>none
    |_=>none
  |_=>none)else none
def Xzl (t:qq)(id:Nat):Option Out:=
 match mzg P t with
 |some z=>if z.all (λv=>v.oneCell')then some ⟨.ptr id 0,[],[(id,.box (xzo z))],none⟩else none
 |none=>none
def Fzt (k id:Nat):List qr->List AVal
 |[]=>[]
 | .slice none 0 0::l=>(if k % 2=1 then .pure (.lst 0 0 λ_=>.unk)else .vec id)::Fzt (k / 2) (id+1) l
 |v::l=>fzc v::Fzt (k / 2) (id+1) l
def az6u (_:Nat)(_:qq)(_:Nat):Option Out:=(λ(_:qo)=>none) P
def Xzu (t:qq)(a v:AVal)(m:Mem):Option Out:=
 match a with
 | .eptr id sz i 0=>match m.get id with
   |some (.vec b n f k e)=>match allP v.cells with
    |some ps=>if sz=b&&bzi P t=some sz&&ps.length=sz&&ps.all (·.scalar)then(match ezn P e with
     |some true=>some ⟨.any,[id],[(id,.vec sz n (λj=>if j=i then .agg ps else f j) k e)],some (i<n/\k<=i)⟩
     |some false=>match ps with
      |[p]=>some ⟨.any,[id],[(id,.vec sz n (λj=>if j=i then p else f j) k e)],some (i<n/\k<=i)⟩
      |_=>none
     |none=>none)else none
    |none=>none
   |_=>none
 |_=>none
def az4i (s:qq)(x:AVal)(f:Nat):Option Out:=
 match az4q P s f with
 |some (a,b)=>match x with
  | .ptr id off=>some (.v (.ptr id (off+a)))
  | .eptr id sz i off=>some (.v (.eptr id sz i (off+a)))
  | .ref (.agg c)=>match Szj P b c a with
    |some q=>some (.v (.ref q))
    |none=>none
  |_=>none
 |none=>none
def Xzo (s:qq)(x:AVal)(f:Nat):Option Out:=
 match P.underlying s with
 |some (.struct b)=>match b[f]? with
  |some a=>match x with
   | .agg c=>(azho P a.type c a.offset).map .v
   | .pure (.agg ps)=>(Szj P a.type ps a.offset).map (λp=>.v (.pure p))
   |_=>none
  |none=>none
 |_=>none
def Iz8 (t:qq)(x i:AVal)(m:Mem):Option Out:=
 match i with
 | .pure (.int _ i)=>match P.underlying t with
   |some (.slice e)=>match x with
    | .pure (.lst sz n f)=>if bzi P e=some sz then some ⟨.ref (f i.toNat),[],[],some (0<=i/\i<n)⟩else none
    | .vec id=>match m.get id with
      |some (.vec sz n _ _ _)=>if bzi P e=some sz then some ⟨.eptr id sz i.toNat 0,[id],[],some (0<=i/\i<n)⟩else none
      |_=>none
    |_=>none
   |some (.array len e)=>match bzi P e with
    |some s=>match x with
     | .ptr id off=>some ⟨.ptr id (off+i.toNat * s),[],[],some (0<=i/\i<len)⟩
     | .eptr id sz k off=>some ⟨.eptr id sz k (off+i.toNat * s),[],[],some (0<=i/\i<len)⟩
     | .ref (.agg a)=>match Szj P e a (i.toNat * s)with
       |some q=>some ⟨.ref q,[],[],some (0<=i/\i<len)⟩
       |none=>none
     |_=>none
    |none=>none
   |_=>none
 |_=>none
def Oz5 (k:IntKind):List PVal->Option (List Int)
 |[]=>some []
 | .int k' n::l=>if k'=k then(match Oz5 k l with
   |some r=>some (n::r)
   |none=>none)else none
 |_=>none
def az74 (e:qq)(len:Nat)(ps:List PVal):Option (IntKind×List Int):=
 match P.underlying e,bzi P e with
 |some (.int k),some 1=>match Oz5 k ps with
  |some l=>if l.length=len then some (k,l)else none
  |none=>none
 |_,_=>none
def az4k (t:qq)(x i:AVal):Option Out:=
 match i with
 | .pure (.int _ i)=>match P.underlying t with
   |some (.array len e)=>match bzi P e,x with
    |some s,.pure (.agg ps)=>match az74 P e len ps with
     |some (k,l)=>some ⟨.pure (.int k (l.getD i.toNat 0)),[],[],some (0<=i/\i<len)⟩
     |none=>match Szj P e ps (i.toNat * s)with
      |some p=>some ⟨.pure p,[],[],some (0<=i/\i<len)⟩
      |none=>none
    |_,_=>none
   |some .string=>match x with
    | .pure (.str s)=>some ⟨.pure (.int .u8 ((s.data.getD i.toNat 0).toNat)),[],[],some (0<=i/\i<s.size)⟩
    |_=>none
   |_=>none
 |_=>none
def ez1:List PVal->List PVal->Option Bool
 |[],[]=>some true
 | .int k a::l,.int k' b::c=>if k=k' then(ez1 l c).map (λr=>(a==b)&&r)else none
 | .bool a::l,.bool b::c=>(ez1 l c).map (λr=>(a==b)&&r)
 | .str a::l,.str b::c=>(ez1 l c).map (λr=>(a==b)&&r)
 |_,_=>none
def Jzy (g:qq->Option (List Nat)):List Field->Nat->Option (List Nat)
 |[],_=>some []
 |f::r,off=>if f.offset=off&&f.name != "_" then(match g f.type with
  |some a=>if bzi P f.type=some a.length&& !a.isEmpty then(match Jzy g r (off+a.length)with
   |some b=>some (a++b)
   |none=>none)else none
  |none=>none)else none
def tzw:Nat->qq->Option (List Nat)
 |0,_=>none
 |d+1,t=>match P.underlying t with
  |some .bool=>some [0]
  |some (.int _)=>some [1]
  |some .string=>some [2]
  |some (.array n e)=>match tzw d e with
   |some a=>if bzi P e=some a.length&& !a.isEmpty then some (List.replicate n a).flatten else none
   |none=>none
  |some (.struct b)=>if P.stoodInHeld t then none else Jzy P (tzw d) b.toList 0
  |_=>none
def Oz7:Nat->PVal->Bool
 |0,.bool _=>true
 |1,.int _ _=>true
 |2,.str _=>true
 |_,_=>false
def fits:List Nat->List PVal->Bool
 |[],[]=>true
 |k::a,p::ps=>Oz7 k p&&fits a ps
 |_,_=>false
def azg3 (c:BinOp)(t:qq)(x y:PVal):Option (PVal×Option Prop):=
 match x,y with
 | .int k a,.int k' b=>match c with
   | .shl=>some (.int k (k.wrap (a * 2 ^ (min b.toNat k.bits))),some (0<=b))
   | .shr=>some (.int k (a.fdiv (2 ^ (min b.toNat k.bits))),some (0<=b))
   | .add=>if k=k' then some (.int k (k.wrap (a+b)),none)else none
   | .sub=>if k=k' then some (.int k (k.wrap (a-b)),none)else none
   | .mul=>if k=k' then some (.int k (k.wrap (a * b)),none)else none
   | .quo=>if k=k' then some (.int k (k.wrap (a.tdiv b)),some (b≠0))else none
   | .rem=>if k=k' then some (.int k (a.tmod b),some (b≠0))else none
   | .and=>if k=k' then some (.int k (k.wrap (BitVec.ofInt k.bits a&&&BitVec.ofInt k.bits b).toNat),none)else none
   | .or=>if k=k' then some (.int k (k.wrap (BitVec.ofInt k.bits a|||BitVec.ofInt k.bits b).toNat),none)else none
   | .xor=>if k=k' then some (.int k (k.wrap (BitVec.ofInt k.bits a ^^^ BitVec.ofInt k.bits b).toNat),none)else none
   | .andNot=>if k=k' then some (.int k (k.wrap (BitVec.ofInt k.bits a&&&~~~ BitVec.ofInt k.bits b).toNat),none)else none
   | .eql=>if k=k' then some (.bool (a==b),none)else none
   | .neq=>if k=k' then some (.bool (a !=b),none)else none
   | .lss=>if k=k' then some (.bool (decide (a<b)),none)else none
   | .leq=>if k=k' then some (.bool (decide (a<=b)),none)else none
   | .gtr=>if k=k' then some (.bool (decide (a>b)),none)else none
   | .geq=>if k=k' then some (.bool (decide (a>=b)),none)else none
 | .bool a,.bool b=>match P.underlying t with
   |some .bool=>match c with
    | .eql=>some (.bool (a==b),none)
    | .neq=>some (.bool (!(a==b)),none)
    |_=>none
   |_=>none
 | .str a,.str b=>match c with
   | .eql=>some (.bool (a==b),none)
   | .neq=>some (.bool (a !=b),none)
   |_=>none
 | .agg xs,.agg d=>match tzw P 20 t with
   |some e=>if ezn P t=some true&&fits e xs&&fits e d then(match ez1 xs d with
    |some r=>match c with
     | .eql=>some (.bool r,none)
     | .neq=>some (.bool (!r),none)
     |_=>none
    |none=>none)else none
   |none=>none
 |_,_=>none
def evUn (a:UnOp)(x:PVal):Option PVal:=
 match a,x with
 | .not,.bool b=>some (.bool (!b))
 | .neg,.int k n=>some (.int k (k.wrap (0-n)))
 | .xor,.int k n=>some (.int k (k.wrap (BitVec.ofInt k.bits (if k.signed then -1 else k.max) ^^^ BitVec.ofInt k.bits n).toNat))
 |_,_=>none
def azbg (a:qq)(x:PVal):Option PVal:=
 match P.underlying a,x with
 |some (.int k),.int _ n=>some (.int k (k.wrap n))
 |some .string,.str s=>some (.str s)
 |_,_=>none
def over (a:List AVal):List (Nat×List AVal)->Option (List AVal)
 |[]=>some a
 |(off,vs)::r=>if off+vs.length<=a.length then over (a.take off++vs++a.drop (off+vs.length)) r else none
def rze (t:qq)(env:xQ->AVal):List (Nat×xQ)->Option (List (Nat×List AVal))
 |[]=>some []
 |(i,x)::r=>
  let a:Option (Nat×Nat):=match P.underlying t with
   |some (.struct b)=>match b[i]? with
    |some f=>match bzi P f.type with
     |some s=>some (f.offset,s)
     |none=>none
    |none=>none
   |some (.array _ e)=>match bzi P e with
    |some s=>some (i * s,s)
    |none=>none
   |_=>none
  match a,rze t env r with
  |some (off,s),some l=>if(env x).cells.length=s&&(env x).cells.all (·.scalar)then some ((off,(env x).cells)::l)else none
  |_,_=>none
def azev (t:qq):Bool:=
 match P.underlying t with
 |some (.struct a)=>a.toList.all λf=>(bzi P f.type).isSome
 |some (.array _ e)=>(bzi P e).isSome
 |_=>false
def az4g (t:qq)(id:Nat)(env:xQ->AVal)(a:List (Nat×xQ)):Option Out:=
 match mzg P t,rze P t env a with
 |some z,some ps=>match over (yzm id z) ps with
  |some b=>if azev P t&&z.length<=60 then some ⟨mkAgg b,[],zmem id z,none⟩else none
  |none=>none
 |_,_=>none
def az9a (m:Mem):AVal->Option (PVal×List Nat)
 | .vec id=>match m.get id with
   |some (.vec sz n f _ _)=>some (.lst sz n f,[id])
   |some (.vecT _ n f _ _ none)=>some (.lst 1 n f,[id])
   |some (.vecU sz n f _ _ _ _ _ [])=>some (.lst sz n f,[id])
   |some .nilv=>some (.lst 0 0 λ_=>.unk,[id])
   |_=>none
 |a=>match a.toP with
  |some p=>some (p,[])
  |none=>none
def azdw (m:Mem):List AVal->Option (List PVal×List Nat)
 |[]=>some ([],[])
 |a::l=>match az9a m a with
  |some (p,is)=>match azdw m l with
   |some (ps,js)=>some (p::ps,is++js)
   |none=>none
  |none=>none
def Cz7 (m:Mem):AVal->Option (PVal×List Nat)
 | .agg b=>match azdw m b with
   |some (ps,is)=>if ps.all (·.scalar)then some (.agg ps,is)else none
   |none=>none
 |a=>az9a m a
def bzk (m:Mem):List Nat->Mem
 |[]=>[]
 |id::l=>match m.get id with
  |some (.vec sz n f _ e)=>(id,.vec sz n f n e)::bzk m l
  |some (.vecT _ n f e _ none)=>(id,.vec 1 n f n e)::bzk m l
  |some (.vecU sz n f _ e _ _ _ [])=>(id,.vec sz n f n e)::bzk m l
  |_=>bzk m l
def Ez3 (m:Mem):List AVal->Option (List PVal×List Nat)
 |[]=>some ([],[])
 |a::l=>match Cz7 m a with
  |some (p,is)=>match Ez3 m l with
   |some (ps,js)=>some (p::ps,is++js)
   |none=>none
  |none=>none
def Mzq (env:xQ->AVal)(i:Nat):List (Nat×xQ)->Option (List AVal)
 |[]=>some []
 |(j,x)::r=>if j=i then(match Mzq env (i+1) r with
  |some l=>some (env x::l)
  |none=>none)else none
def lget (l:List PVal)(i:Nat):PVal:=l.getD i .unk
def Dz8 (t:qq)(len id:Nat)(env:xQ->AVal)(m:Mem)(a:List (Nat×xQ)):Option Out:=
 match P.underlying t with
 |some (.slice e)=>match bzi P e,Mzq env 0 a with
  |some s,some l=>match Ez3 m l with
   |some (ps,is)=>if ps.length=len&&ps.all (λp=>p.cells.length==s&&p.cells.all (·.scalar))&&1<=s&&len * s<=16777216&&(mzg P e).isSome then
    some ⟨.vec id,is,(id,.vec s len (lget ps) 0 e)::bzk m is,none⟩else none
   |none=>none
  |_,_=>none
 |_=>none
def appF (n:Nat)(f g:Nat->PVal):Nat->PVal:=λi=>if i<n then f i else g (i-n)
def aznd (m:Mem)(sz:Nat):AVal->Option (Nat×(Nat->PVal)×List Nat)
 | .pure (.lst a n g)=>if a=sz then some (n,g,[])else none
 | .vec id=>match m.get id with
   |some (.vec a n g _ _)=>if a=sz then some (n,g,[id])else none
   |some .nilv=>some (0,(λ_=>.unk),[id])
   |_=>none
 |_=>none
def Xzm (d:Array qq)(id:Nat)(b:xQ)(s x:AVal)(m:Mem):Option Out:=
 match d[0]?,d[1]? with
 |some t,some i=>if t=i then(match P.underlying t with
  |some (.slice e)=>match bzi P e,Fzr P e with
   |some (sz+1),some a=>match mzg P e with
    |some z=>if z.length=sz+1 then(match aznd m (sz+1) x with
     |some (k,g,is)=>match b,s with
      | .const (.slice none 0 0),_=>some ⟨.vec id,is,[(id,.vec (sz+1) k g 0 e)],some (k * a<=140737488355328/\k<=maxLen)⟩
      |_,.vec old=>match m.get old with
       |some .nilv=>some ⟨.vec id,old::is,[(id,.vec (sz+1) k g 0 e),(old,.gone)],some (k * a<=140737488355328/\k<=maxLen)⟩
       |some (.vec c n f sh h)=>if c=sz+1&&h=e then
        some ⟨.vec id,old::is,[(id,.vec (sz+1) (n+k) (appF n f g) sh e),(old,.gone)],some ((n+k) * a<=140737488355328/\n+k<=maxLen)⟩else none
       |_=>none
      |_,_=>none
     |none=>none)else none
    |none=>none
   |_,_=>none
  |_=>none)else none
 |_,_=>none
def az16 (_:Array qq)(_:Nat)(_:xQ)(_ _:AVal)(_:Mem):Option Out:=(λ(_:qo)=>none) P
def az6v (_:qq)(_:AVal)(_ _ _:Option AVal):Option Out:=(λ(_:qo)=>none) P
def az15 (_:Array qq)(_:Nat)(_ _:AVal)(_:Mem):Option Out:=(λ(_:qo)=>none) P
def Rzm (q:Array qq)(id:Nat)(p:xQ)(s x:AVal)(m:Mem):Option Out:=
 match x with
 | .view j d lo k=>match q[0]?,q[1]?,m.get j with
   |some t,some w,some (.vec h n f o r)=>if t=w then(match P.underlying t with
    |some (.slice e)=>match bzi P e,Fzr P e with
     |some (sz+1),some a=>match mzg P e with
      |some z=>if z.length=sz+1&&d=sz+1&&h=sz+1 then(match p,s with
       | .const (.slice none 0 0),_=>some ⟨.vec id,[j],[(id,.vec (sz+1) k (λi=>f (lo+i)) 0 e)],some (k * a<=140737488355328/\k<=maxLen/\lo+k<=n)⟩
       |_,.vec old=>match m.get old with
        |some (.vec l c u sh v)=>if l=sz+1&&v=e&&old !=j then
         some ⟨.vec id,[old,j],[(id,.vec (sz+1) (c+k) (appF c u (λi=>f (lo+i))) sh e),(old,.gone)],some ((c+k) * a<=140737488355328/\c+k<=maxLen/\lo+k<=n)⟩else none
        |_=>none
       |_,.view old g 0 b=>if old=j&&r=e&&o=0&&g=sz+1 then
        some ⟨.vec id,[j],[(id,.vec (sz+1) (b+k) (appF b f (λi=>f (lo+i))) 0 e),(j,.gone)],some ((b+k) * a<=140737488355328/\b+k<=maxLen/\b<=n/\lo+k<=n)⟩else none
       |_,_=>none)else none
      |none=>none
     |_,_=>none
    |_=>none)else none
   |_,_,_=>none
 |_=>none
def az4l (a:Array qq)(x:AVal)(m:Mem):Option Out:=
 match a[0]? with
 |some t=>match P.underlying t,x with
  |some (.slice _),.pure (.lst _ n _)=>some (.v (.pure (.int .i64 n)))
  |some (.slice _),.bsl _ n=>some (.v (.pure (.int .i64 n)))
  |some (.slice _),.vec id=>match m.get id with
   |some (.vec _ n _ _ _)=>some ⟨.pure (.int .i64 n),[id],[],none⟩
   |some (.vecU _ n _ _ _ _ _ _ _)=>some ⟨.pure (.int .i64 n),[id],[],none⟩
   |some .nilv=>some ⟨.pure (.int .i64 (0:Nat)),[id],[],none⟩
   |_=>none
  |some .string,.pure (.str s)=>some (.v (.pure (.int .i64 s.size)))
  |some (.array n _),_=>some (.v (.pure (.int .i64 n)))
  |_,_=>none
 |none=>none
def zz7 (t:qq)(id:Nat)(len cap:AVal):Option Out:=
 match len,cap with
 | .pure (.int .i64 l),.pure (.int .i64 c)=>match P.underlying t with
   |some (.slice e)=>match bzi P e,Fzr P e,mzg P e with
    |some (sz+1),some a,some z=>if z.length=sz+1 then(match allP (z.map fzc)with
     |some ps=>if ps.all (·.scalar)then(match ezn P e with
      |some true=>some ⟨.vec id,[],[(id,.vec (sz+1) l.toNat (λ_=>.agg ps) 0 e)],some (0<=l/\l<=c/\c<=9223372036854775807/\c * a<=140737488355328)⟩
      |some false=>match ps with
       |[p]=>some ⟨.vec id,[],[(id,.vec (sz+1) l.toNat (λ_=>p) 0 e)],some (0<=l/\l<=c/\c<=9223372036854775807/\c * a<=140737488355328)⟩
       |_=>none
      |none=>none)else none
     |none=>none)else none
    |_,_,_=>none
   |_=>none
 |_,_=>none
def Jzi (d:Nat):Option AVal->Option Int
 |none=>some d
 |some (.pure (.int _ n))=>some n
 |_=>none
def az4p (t:qq)(id:Nat)(x:AVal)(lo hi mx:Option AVal)(m:Mem):Option Out:=
 match mx with
 |some _=>none
 |none=>match P.underlying t with
  |some (.slice e)=>match x with
   | .pure (.lst sz n f)=>match Jzi 0 lo,Jzi n hi with
     |some l,some h=>if bzi P e=some sz then some ⟨.pure (.lst sz (h.toNat-l.toNat) (λi=>f (l.toNat+i))),[],[],some (0<=l/\l<=h/\h<=n)⟩else none
     |_,_=>none
   | .vec old=>match m.get old with
     |some (.vec sz n f k a)=>match lo with
      |none=>match Jzi n hi with
       |some h=>if bzi P e=some sz then some ⟨.vec id,[old],[(id,.vec sz h.toNat f k a),(old,.gone)],some (0<=h/\h<=n/\k<=h.toNat)⟩else none
       |none=>none
      |some _=>none
     |_=>none
   |_=>none
  |some .string=>match x with
   | .pure (.str s)=>match Jzi 0 lo,Jzi s.size hi with
     |some l,some h=>some ⟨.pure (.str (s.extract l.toNat h.toNat)),[],[],some (0<=l/\l<=h/\h<=s.size)⟩
     |_,_=>none
   |_=>none
  |_=>none
def Xzs (t:qq)(x:AVal)(lo hi mx:Option AVal)(m:Mem):Option Out:=
 match mx with
 |some _=>none
 |none=>match P.underlying t with
  |some (.slice e)=>match Cz7 m x with
   |some (.lst sz n f,is)=>match Jzi 0 lo,Jzi n hi with
    |some l,some h=>if bzi P e=some sz then some ⟨.pure (.lst sz (h.toNat-l.toNat) (λi=>f (l.toNat+i))),is,bzk m is,some (0<=l/\l<=h/\h<=n)⟩else none
    |_,_=>none
   |_=>none
  |_=>none
def az6w (_:qq)(_:AVal)(_ _ _:Option AVal)(_:Mem):Option Out:=(λ(_:qo)=>none) P
def Xzt (t:qq)(x:AVal)(lo hi mx:Option AVal)(m:Mem):Option Out:=
 match mx with
 |some _=>none
 |none=>match P.underlying t with
  |some (.slice e)=>match x with
   | .vec old=>match m.get old with
     |some (.vec sz n _ _ _)=>match Jzi 0 lo,Jzi n hi with
      |some l,some h=>if bzi P e=some sz then some ⟨.view old sz l.toNat (h.toNat-l.toNat),[old],[],some (0<=l/\l<=h/\h<=n)⟩else none
      |_,_=>none
     |_=>none
   |_=>none
  |_=>none
def Xzq (t:qq)(x:AVal)(lo hi mx:Option AVal):Option Out:=
 match x,lo,hi,mx with
 | .ptr id 0,none,none,none=>match P.underlying t with
   |some (.array n e)=>if bzi P e=some 1 then some (.v (.bsl id n))else none
   |_=>none
 |_,_,_,_=>none
def Dz2 (k:Nat)(f:Nat->PVal):Nat->List AVal->Option (List AVal)
 |_,[]=>some []
 |j,.pure (.int d b)::l=>match f j,Dz2 k f (j+1) l with
  | .int c a,some r=>if c=d then some (.pure (.int d (if j<k then a else b))::r)else none
  |_,_=>none
 |_,_=>none
def az4h (ts:Array qq)(d s:AVal)(m:Mem):Option Out:=
 match d,s,ts[0]? with
 | .bsl id n,.pure (.lst 1 k f),some t=>match m.get id,P.underlying t with
   |some (.box cs),some (.slice e)=>match Dz2 k f 0 (cs.take n)with
    |some cs'=>if n<=cs.length&&bzi P e=some 1 then some ⟨.pure (.int .i64 ((Nat.min k n:Nat):Int)),[id],[(id,.box (cs'++cs.drop n))],none⟩else none
    |none=>none
   |_,_=>none
 |_,_,_=>none
def azbh (a:Array qq)(x:AVal):Option Out:=
 match x,a[0]? with
 | .view _ _ _ n,some t=>match P.underlying t with
   |some (.slice _)=>some (.v (.pure (.int .i64 n)))
   |_=>none
 |_,_=>none
def Dzc (t:qq)(x i:AVal):Option Out:=
 match x,i with
 | .view id sz lo n,.pure (.int _ i)=>match P.underlying t with
   |some (.slice e)=>if bzi P e=some sz then some ⟨.eptr id sz (lo+i.toNat) 0,[],[],some (0<=i/\i<n)⟩else none
   |_=>none
 |_,_=>none
def Rzo (t:qq)(x:AVal)(lo hi mx:Option AVal)(m:Mem):Option Out:=
 match mx,x with
 |none,.view id sz o n=>match P.underlying t,m.get id,Jzi 0 lo,Jzi n hi with
  |some (.slice e),some (.vec _ _ _ _ _),some l,some h=>if bzi P e=some sz then some ⟨.view id sz (o+l.toNat) (h.toNat-l.toNat),[id],[],some (0<=l/\l<=h/\h<=n)⟩else none
  |_,_,_,_=>none
 |_,_=>none
def Wz9 (f:Int->Int->Int)(k:IntKind):Int->List AVal->Option Int
 |a,[]=>some a
 |a,.pure (.int k' b)::l=>if k=k' then Wz9 f k (f a b) l else none
 |_,_=>none
def Qzf (f:Int->Int->Int):List AVal->Option PVal
 | .pure (.int k a)::l=>match Wz9 f k a l with
   |some r=>some (.int k r)
   |none=>none
 |_=>none
def azol:xQ->Bool
 | .const (.slice none 0 0)=>true
 |_=>false
def Jzv (b:Builtin)(args:List xQ)(c:Array qq)(id:Nat)(env:xQ->AVal)(m:Mem):Option Out:=
 match b with
 | .len=>match args with
   |[x]=>match azbh P c (env x)with
    |some out=>some out
    |none=>az4l P c (env x) m
   |_=>none
 | .copy=>match args with
   |[d,s]=>if c.size=2 then az4h P c (env d) (env s) m else none
   |_=>none
 | .append=>match args with
   |[s,x]=>if c.size=2 then(match Rzm P c id s (env s) (env x) m with
    |some out=>some out
    |none=>match az15 P c id (env s) (env x) m with
     |some out=>some out
     |none=>Xzm P c id s (env s) (env x) m)else none
   |_=>none
 | .min=>match Qzf (λa b=>min a b) (args.map env)with
   |some p=>some (.v (.pure p))
   |none=>none
 | .max=>match Qzf (λa b=>max a b) (args.map env)with
   |some p=>some (.v (.pure p))
   |none=>none
 |_=>none
def azq4 (k:qq):Option (List PVal):=
 match mzg P k,tzw P 20 k with
 |some z,some b=>match allP (z.map fzc)with
  |some a=>if ezn P k=some true&&fits b a&&czm a a then some a else none
  |none=>none
 |_,_=>none
def azj6 (e:qq):Option PVal:=
 match P.info? e with
 |some i=>match i.zero with
  |some (.agg a)=>match allP (a.toList.map fzc)with
   |some ps=>some (.agg ps)
   |none=>none
  |some v=>(fzc v).toP
  |none=>none
 |none=>none
def Czj (p q:List PVal):Bool:=
 match ez1 p q with
 |some b=>b
 |none=>false
def Rzn (t:qq)(id:Nat):Option Out:=
 match P.underlying t with
 |some (.map k e)=>match azq4 P k,azj6 P e with
  |some a,some z=>some ⟨.map id,[],[(id,.map a (λ_=>false) (λ_=>z))],none⟩
  |_,_=>none
 |_=>none
def Xzp (t:qq)(x ix:AVal)(ok:Bool)(m:Mem):Option Out:=
 match P.underlying t,x with
 |some (.map k e),.map j=>match m.get j,ix.toP with
  |some (.map tm dom val),some (.agg cs)=>match tzw P 20 k,azj6 P e with
   |some ks,some z=>if ezn P k=some true&&fits ks tm&&czm tm cs then
    some ⟨if ok then .tup [.pure (val cs),.pure (.bool (dom cs))]else .pure (val cs),[j],[],some (dom cs=false->PSub z (val cs))⟩else none
   |_,_=>none
  |_,_=>none
 |_,_=>none
def zz8 (t:qq)(x e v:AVal)(m:Mem):Option Out:=
 match P.underlying t,x with
 |some (.map k _),.map j=>match m.get j,e.toP,v.toP with
  |some (.map b d a),some (.agg c),some p=>match tzw P 20 k with
   |some f=>if ezn P k=some true&&fits f b&&czm b c then
    some ⟨.any,[j],[(j,.map b (λq=>Czj q c||d q) (λq=>if Czj q c then p else a q))],none⟩else none
   |none=>none
  |_,_,_=>none
 |_,_=>none
def zz6 (t:qq)(len id:Nat)(env:xQ->AVal)(a:List (Nat×xQ)):Option Out:=
 match P.underlying t with
 |some (.slice e)=>match bzi P e,mzg P e,Mzq env 0 a with
  |some 1,some _,some l=>if l.length=len&&l.all (·.scalar)&&len<=60 then some ⟨.bsl id len,[],[(id,.box l)],none⟩else none
  |_,_,_=>none
 |_=>none
def Dz9 (t:qq)(x i:AVal):Option Out:=
 match x,i with
 | .bsl id n,.pure (.int _ i)=>match P.underlying t with
   |some (.slice e)=>if bzi P e=some 1 then some ⟨.ptr id i.toNat,[],[],some (0<=i/\i<n)⟩else none
   |_=>none
 |_,_=>none
def azc1:TypeDesc->Bool
 | .interface _=>true
 |_=>false
def az4j (t:qq)(x:AVal):Option Out:=
 match P.underlying t with
 |some d=>if azc1 d then none else some (.v (.iface t x))
 |none=>none
def Xzn (x:AVal)(b:qq)(c:Bool):Option Out:=
 match x,P.underlying b with
 | .iface t a,some d=>if azc1 d then none else
  if t=b then some (.v (if c then .tup [a,.tt]else a))else
  if c then(match P.info? b with
   |some i=>match i.zero with
    |some z=>some (.v (.tup [az0x z,.ff]))
    |none=>none
   |none=>none)else none
 |_,_=>none
def Kza (t:qq)(a:String):Option FuncId:=
 match P.info? t with
 |some i=>match i.methods.find? (·.name==a)with
  |some m=>if m.path.isEmpty then(match m.func,P.underlying t with
   |some (f,true),some (.pointer _)=>some f
   |some (_,false),some (.pointer _)=>none
   |some (f,false),some _=>some f
   |_,_=>none)else none
  |none=>none
 |none=>none
def Dze (t:qq)(id:Nat)(len cap:AVal):Option Out:=
 match len,cap with
 | .pure (.int .i64 l),.pure (.int .i64 c)=>match P.underlying t with
   |some (.slice e)=>match bzi P e,Fzr P e,mzg P e,P.underlying e with
    |some 1,some a,some [.slice none 0 0],some (.slice b)=>match bzi P b with
     |some sz=>some ⟨.vec id,[],[(id,.vecT sz l.toNat (λ_=>.lst sz 0 λ_=>.unk) e b none)],some (0<=l/\l<=c/\c<=9223372036854775807/\c * a<=140737488355328)⟩
     |none=>none
    |_,_,_,_=>none
   |_=>none
 |_,_=>none
def Dzb (t:qq)(x i:AVal)(m:Mem):Option Out:=
 match x,i with
 | .vec id,.pure (.int _ i)=>match m.get id with
   |some (.vecT _ n _ _ _ _)=>match P.underlying t with
    |some (.slice e)=>if bzi P e=some 1 then some ⟨.eptr id 1 i.toNat 0,[id],[],some (0<=i/\i<n)⟩else none
    |_=>none
   |_=>none
 |_,_=>none
def az4m (t:qq)(id:Nat)(a:AVal)(m:Mem):Option Out:=
 match a with
 | .eptr j 1 i 0=>match m.get j with
   |some (.vecT sz n f e c none)=>match ezn P t,f i with
    |some false,.lst b d g=>if b=sz then some ⟨.vec id,[j],[(j,.vecT sz n f e c (some i)),(id,.vec sz d g 0 c)],some (i<n)⟩else none
    |_,_=>none
   |_=>none
 |_=>none
def Xzx (t:qq)(a v:AVal)(m:Mem):Option Out:=
 match a,v with
 | .eptr j 1 i 0,.vec k=>match m.get j,m.get k with
   |some (.vecT sz n f e d (some l)),some (.vec b h g 0 c)=>if bzi P t=some 1&&b=sz&&c=d then
    some ⟨.any,[j,k],[(j,.vecT sz n (λq=>if q=i then .lst sz h g else f q) e d none),(k,.gone)],some (i<n/\i=l)⟩else none
   |_,_=>none
 |_,_=>none
def Xzw (t:qq)(a v:AVal)(m:Mem):Option Out:=
 match a,v with
 | .ptr j off,.vec k=>match m.get j,m.get k with
   |some (.box b),some (.vec sz n f _ e)=>match b[off]? with
    |some (.pure (.lst _ _ _))=>if bzi P t=some 1&&2<=b.length&&j !=k then
     some ⟨.any,[j,k],[(j,.box (b.take off++[.pure (.lst sz n f)]++b.drop (off+1))),(k,.vec sz n f n e)],none⟩else none
    |_=>none
   |_,_=>none
 |_,_=>none
def pur1 (m:Mem)(a b:AVal):AVal×List Nat:=
 match a,b with
 | .vec i,.pure (.lst _ _ _)=>(match Cz7 m (.vec i)with
   |some (p,is)=>(.pure p,is)
   |none=>(.vec i,[]))
 |a,_=>(a,[])
def purC (m:Mem):List AVal->List AVal->List AVal
 |a::l,b::c=>(pur1 m a b).1::purC m l c
 |l,_=>l
def purI (m:Mem):List AVal->List AVal->List Nat
 |a::l,b::c=>(pur1 m a b).2++purI m l c
 |_,_=>[]
def Xzv (t:qq)(a v:AVal)(m:Mem):Option Out:=
 match a,v with
 | .ptr id off,.agg vs=>match m.get id with
   |some (.box b)=>if(purI m vs (b.drop off)).isEmpty then none else match Iz9 P t (.ptr id off) (.agg (purC m vs (b.drop off))) (bzk m (purI m vs (b.drop off))++m)with
    |some out=>some {out with rd:=purI m vs (b.drop off)++out.rd,wr:=out.wr++bzk m (purI m vs (b.drop off))}
    |none=>none
   |_=>none
 |_,_=>none
def Xzz (t:qq)(a v:AVal)(m:Mem):Option Out:=
 match a,v with
 | .eptr j sz h off,.vec k=>match m.get j,m.get k with
   |some (.vec b n f sh e),some (.vec ..)=>if bzi P t=some 1&&sz=b&&off+1<=(f h).cells.length&&j !=k&&sh=0 then
    some ⟨.any,[j,k],[(j,.vecX sz n f e h off k)],some (h<n)⟩else none
   |_,_=>none
 |_,_=>none
def az4o (t:qq)(a:AVal)(m:Mem):Option Out:=
 match a with
 | .eptr j sz i off=>match m.get j with
   |some (.vecX c _ _ _ h b k)=>if ezn P t=some false&&sz=c&&off=b&&(bzi P t).isSome then some ⟨.vec k,[j],[],some (i=h)⟩else none
   |_=>none
 |_=>none
def Dzd (t:qq)(x i:AVal)(m:Mem):Option Out:=
 match x,i with
 | .vec id,.pure (.int _ i)=>match m.get id with
   |some (.vecX sz n _ _ _ _ _)=>match P.underlying t with
    |some (.slice e)=>if bzi P e=some sz then some ⟨.eptr id sz i.toNat 0,[id],[],some (0<=i/\i<n)⟩else none
    |_=>none
   |some (.vecU sz n _ _ _ _ _ _ _)=>match P.underlying t with
    |some (.slice e)=>if bzi P e=some sz then some ⟨.eptr id sz i.toNat 0,[id],[],some (0<=i/\i<n)⟩else none
    |_=>none
   |_=>none
 |_,_=>none
def az4n (t:qq)(q:Nat)(a:AVal)(m:Mem):Option Out:=
 match a with
 | .eptr id sz i 0=>match m.get id with
   |some (.vecU b n f k _ off _ _ c)=>if sz=b&&bzi P t=some sz&&ezn P t=some true then(match q with
    |0=>if c.isEmpty then some ⟨.pure (.agg (f i).cells),[id],[],some (k<=i/\i<n)⟩else none
    |h+1=>match c[h]? with
     |some (d,k')=>some ⟨.agg (((f i).cells.map .pure).set off (.vec k')),[id],[],some (i=d)⟩
     |none=>none)else none
   |_=>none
 |_=>none
def Xzy (t:qq)(q:Nat)(a v:AVal)(m:Mem):Option Out:=
 match a with
 | .eptr id sz i 0=>match m.get id with
   |some (.vecU b n f k e off l g c)=>match v.cells[off]?,allP (v.cells.set off (.pure .unk))with
    |some (.vec kk),some ps=>match m.get kk with
     |some (.vec ..)=>if sz=b&&bzi P t=some sz&&ps.length=sz&&ps.all (·.scalar)&&id !=kk then(match q with
      |0=>if c.isEmpty then some ⟨.any,[id,kk],[(id,.vecU sz n (λj=>if j=i then .agg ps else f j) k e off l g [(i,kk)])],some (i<n)⟩else none
      |h+1=>match c[h]? with
       |some (d,_)=>some ⟨.any,[id,kk],[(id,.vecU sz n (λj=>if j=i then .agg ps else f j) k e off l g (c.set h (d,kk)))],some (i=d)⟩
       |none=>none)else none
     |_=>none
    |_,_=>none
   |_=>none
 |_=>none
def az17 (_:qq)(_ _:AVal)(_:Mem):Option Out:=(λ(_:qo)=>none) P
def azqp:AVal->Bool
 | .vec _=>true
 |_=>false
def Jzu (_:qq)(_ _:Nat)(_:xQ->AVal)(_:Mem)(_:List (Nat×xQ)):Option Out:=(λ(_:qo)=>none) P
def Dza (t:qq)(x i:AVal):Option Out:=
 match x,i with
 | .ref (.agg cs),.pure (.int _ i)=>match P.underlying t with
   |some (.array len e)=>if 8<len then(match az74 P e len cs with
    |some (k,l)=>some ⟨.ref (.int k (l.getD i.toNat 0)),[],[],some (0<=i/\i<len)⟩
    |none=>none)else none
   |_=>none
 |_,_=>none
def Xzr (t:qq)(x:AVal)(lo hi mx:Option AVal)(m:Mem):Option Out:=
 match x,lo,hi,mx with
 | .ptr id 0,none,some (.pure (.int _ h)),none=>match P.underlying t,m.get id with
   |some (.array n e),some (.box cs)=>match allP cs with
    |some ps=>if bzi P e=some 1&&cs.length=n&&n<=60&&ps.all (·.scalar)then
     some ⟨.pure (.lst 1 h.toNat (lget ps)),[id],[(id,.gone)],some (0<=h/\h<=n)⟩else none
    |none=>none
   |_,_=>none
 |_,_,_,_=>none
def azla (op:BinOp)(t:qq)(x:AVal)(y:xQ):Option Out:=
 match y,P.underlying t with
 | .const (.pointer none),some (.pointer _)=>(match op,x with
   | .eql,.nilp=>some (.v .tt)
   | .eql,.ptr _ _=>some (.v .ff)
   | .neq,.nilp=>some (.v .ff)
   | .neq,.ptr _ _=>some (.v .tt)
   |_,_=>none)
 |_,_=>none
def evOp (o:Op)(id:Nat)(env:xQ->AVal)(m:Mem):Option Out:=
 match o with
 | .move x=>some (.v (env x))
 | .assign x=>if azol x then some ⟨.vec id,[],[(id,.nilv)],none⟩else some (.v (env x))
 | .pick c a b=>match env c with
   | .tt=>some (.v (env a))
   | .ff=>some (.v (env b))
   |_=>none
 | .alloc t=>match mzg P t with
   |some z=>if z.length<60&&z.all (λv=>v.oneCell')then some ⟨.ptr id 0,[],(id,.box (yzm (id+1) z))::zmem (id+1) z,none⟩else none
   |none=>none
 | .box _ x=>if(env x).cells.all (·.scalar)then some ⟨.ptr id 0,[],[(id,.box (env x).cells)],none⟩else none
 | .build t ps=>az4g P t id env ps.toList
 | .buildSlice t n ps=>match Dz8 P t n id env m ps.toList with
   |some out=>some out
   |none=>zz6 P t n id env ps.toList
 | .load t a=>match az4m P t id (env a) m with
   |some out=>some out
   |none=>match az4o P t (env a) m with
    |some out=>some out
    |none=>Gzx P t (env a) m
 | .store t a v=>match Xzx P t (env a) (env v) m with
   |some out=>some out
   |none=>match Xzz P t (env a) (env v) m with
   |some out=>some out
   |none=>match az17 P t (env a) (env v) m with
   |some out=>some out
   |none=>match Xzw P t (env a) (env v) m with
   |some out=>some out
   |none=>match Xzv P t (env a) (env v) m with
   |some out=>some out
   |none=>match Xzu P t (env a) (env v) m with
    |some out=>some out
    |none=>Iz9 P t (env a) (env v) m
 | .nilCheck x=>match env x with
   | .ptr i o=>some (.v (.ptr i o))
   | .eptr a b c d=>some (.v (.eptr a b c d))
   | .ref p=>some (.v (.ref p))
   | .func f a b=>some (.v (.func f a b))
   | .iface t a=>some (.v (.iface t a))
   |_=>none
 | .binOp op t x y _=>match azla P op t (env x) y with
   |some out=>some out
   |none=>match(env x).toP,(env y).toP with
   |some p,some q=>match azg3 P op t p q with
    |some (r,ob)=>some ⟨.pure r,[],[],ob⟩
    |none=>none
   |_,_=>none
 | .unOp op _ x=>match env x with
   | .tt=>match op with| .not=>some (.v .ff)|_=>none
   | .ff=>match op with| .not=>some (.v .tt)|_=>none
   | .pure p=>match evUn op p with
     |some r=>some (.v (.pure r))
     |none=>none
   |_=>none
 | .convert s d x=>match(env x).toP with
   |some p=>match azbg P d p with
    |some r=>if(P.underlying s).isSome then some (.v (.pure r))else none
    |none=>none
   |none=>none
 | .makeFunc fn a b=>match fn with
   | .func f=>some (.v (.func f (a.toList.map env) (b.toList.map env)))
   |_=>none
 | .makeSlice t l c=>zz7 P t id (env l) (env c)
 | .makeMap t r=>match r with
   |none=>Rzn P t id
   |some _=>none
 | .lookup t x ix ok=>Xzp P t (env x) (env ix) ok m
 | .mapUpdate t x k v=>zz8 P t (env x) (env k) (env v) m
 | .insert t x k v=>zz8 P t (env x) (env k) (env v) m
 | .slice t x lo hi mx=>match az6v P t (env x) (lo.map env) (hi.map env) (mx.map env)with
   |some out=>some out
   |none=>match Xzq P t (env x) (lo.map env) (hi.map env) (mx.map env)with
   |some out=>some out
   |none=>match Xzr P t (env x) (lo.map env) (hi.map env) (mx.map env) m with
   |some out=>some out
   |none=>match Rzo P t (env x) (lo.map env) (hi.map env) (mx.map env) m with
   |some out=>some out
   |none=>match az6w P t (env x) (lo.map env) (hi.map env) (mx.map env) m with
   |some out=>some out
   |none=>az4p P t id (env x) (lo.map env) (hi.map env) (mx.map env) m
 | .fieldAddr s x f=>az4i P s (env x) f
 | .field s x f=>Xzo P s (env x) f
 | .indexAddr t x i=>match Dzb P t (env x) (env i) m with
   |some out=>some out
   |none=>match Dzd P t (env x) (env i) m with
   |some out=>some out
   |none=>match Dz9 P t (env x) (env i)with
    |some out=>some out
    |none=>match Dzc P t (env x) (env i)with
    |some out=>some out
    |none=>match Dza P t (env x) (env i)with
    |some out=>some out
    |none=>Iz8 P t (env x) (env i) m
 | .makeInterface t x=>az4j P t (env x)
 | .typeAssert x _ a ok=>Xzn P (env x) a ok
 | .index t x i=>az4k P t (env x) (env i)
 | .range t x=>match P.underlying t,env x with
   |some .string,.pure (.str s)=>some ⟨.ptr id 0,[],[(id,.iter s 0)],none⟩
   |_,_=>none
 | .extract x i=>match env x with
   | .tup cs=>match cs[i]? with
     |some v=>some (.v v)
     |none=>none
   |_=>none
 | .call c=>match c.callee with
   | .builtin b=>Jzv P b c.args.toList c.argTypes id env m
   |_=>none
 |_=>none
end
end Go.Abs
