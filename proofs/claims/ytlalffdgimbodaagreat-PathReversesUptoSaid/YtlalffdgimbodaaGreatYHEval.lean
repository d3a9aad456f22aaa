/-
  Eval (a part of a claim: our own text).
-/
import Derived.Test.YtlalffdgimbodaaGreatYHCore
namespace Go.Abs
structure Out where
 val:AVal
 rd:List Nat
 wr:Mem
 obl:Option Prop
def Out.v (v:AVal):Out:=⟨v,[],[],none⟩
def holds:Option Prop->Prop
 |none=>True
 |some p=>p
def andO (o:Option Prop)(p:Prop):Prop:=
 match o with
 |none=>p
 |some q=>q/\p
def AVal.toP:AVal->Option PVal
 | .pure p=>some p
 | .tt=>some (.bool true)
 | .ff=>some (.bool false)
 |_=>none
def allP:List AVal->Option (List PVal)
 |[]=>some []
 |a::l=>match a.toP with
  |some p=>match allP l with
   |some ps=>some (p::ps)
   |none=>none
  |none=>none
def mkAgg (cs:List AVal):AVal:=
 match allP cs with
 |some ps=>.pure (.agg ps)
 |none=>.agg cs
def AVal.cells:AVal->List AVal
 | .agg cs=>cs
 | .pure (.agg ps)=>ps.map .pure
 |a=>[a]
def AVal.scalar:AVal->Bool
 | .any| .agg _| .tup _| .pure (.agg _)=>false
 |_=>true
def ezt:Value->AVal
 | .bool true=>.tt
 | .bool false=>.ff
 | .int k n=>.pure (.int k n)
 | .string s=>.pure (.str s)
 | .slice none 0 0=>.pure (.lst 0 0 fun _=>.unk)
 | .nilIface=>.pure .nilI
 | .agg _| .tuple _=>.any
 |_=>.pure .unk
def Oz9:Value->AVal
 | .agg cs=>mkAgg (cs.toList.map ezt)
 |v=>ezt v
def pzh (id:Nat):List Value->List AVal
 |[]=>[]
 | .slice none 0 0::l=>.vec id::pzh (id+1) l
 |v::l=>ezt v::pzh (id+1) l
def szk:List Value->List AVal
 |[]=>[]
 | .slice none 0 0::l=>.pure (.lst 0 0 fun _=>.unk)::szk l
 |v::l=>ezt v::szk l
def zmem (id:Nat):List Value->Mem
 |[]=>[]
 | .slice none 0 0::l=>(id,.nilv)::zmem (id+1) l
 |_::l=>zmem (id+1) l
section
variable (P:Program)
def bzu (t:TypeId):Option Nat:=(P.info? t).map (·.size)
def Jz7 (t:TypeId):Option Nat:=(P.info? t).map (·.bytes)
def qzo (t:TypeId):Option (List Value):=(P.info? t).bind fun i=>i.zero.map (·.cells.toList)
def ez0 (t:TypeId):Option Bool:=
 match P.underlying t with
 |some (.struct _)=>some true
 |some (.array _ _)=>some true
 |some _=>some false
 |none=>none
def az0l (t:TypeId)(cs:List AVal)(off:Nat):Option AVal:=
 match ez0 P t,bzu P t with
 |some true,some s=>if off+s≤cs.length then some (mkAgg ((cs.drop off).take s))else none
 |some false,some _=>cs[off]?
 |_,_=>none
def Izb (t:TypeId)(cs:List PVal)(off:Nat):Option PVal:=
 match ez0 P t,bzu P t with
 |some true,some s=>if off+s≤cs.length then some (.agg ((cs.drop off).take s))else none
 |some false,some _=>match cs[off]? with
  |some p=>if p.scalar then some p else none
  |none=>none
 |_,_=>none
def Rzg (s:TypeId)(f:Nat):Option (Nat×TypeId):=
 match P.underlying s with
 |some (.struct fs)=>match fs[f]? with
  |some x=>match bzu P x.type with
   |some (_+1)=>some (x.offset,x.type)
   |_=>none
  |none=>none
 |_=>none
def zzk (t:TypeId)(a:AVal)(m:Mem):Option Out:=
 match a with
 | .ref p=>match ez0 P t,bzu P t,p with
   |some true,some s,.agg cs=>if cs.length=s then some (.v (.pure (.agg cs)))else none
   |some false,some _,p=>if p.scalar then some (.v (.pure p))else none
   |_,_,_=>none
 | .ptr id off=>match m.get id with
   |some (.box cs)=>match az0l P t cs off with
    |some v=>some ⟨v,[id],[],none⟩
    |none=>none
   |_=>none
 | .eptr id sz i off=>match m.get id with
   |some (.vec sz' n f _ _)=>if sz=sz' then(match Izb P t (f i).cells off with
    |some p=>some ⟨.pure p,[id],[],some (i<n)⟩
    |none=>none)else none
   |_=>none
 |_=>none
def nilP (m:Mem)(a b:AVal):AVal:=
 match a,b with
 | .vec i,.pure _=>(match m.get i with
   |some .nilv=>.pure (.lst 0 0 fun _=>.unk)
   |_=>.vec i)
 |a,_=>a
def Azr (t:TypeId)(a v:AVal)(m:Mem):Option Out:=
 match bzu P t with
 |none=>none
 |some s=>if v.cells.length=s then(match a with
  | .ptr id off=>match m.get id with
    |some (.box cs)=>if off+s≤cs.length&&v.cells.all (·.scalar)then
     some ⟨.any,[id],[(id,.box (cs.take off++v.cells++cs.drop (off+s)))],none⟩else none
    |_=>none
  | .eptr id sz i off=>match m.get id with
    |some (.vec sz' n f k e)=>match allP v.cells with
     |some ps=>if sz=sz'&&off+s≤(f i).cells.length&&ps.all (·.scalar)then
      some ⟨.any,[id],[(id,.vec sz n (fun j=>if j=i then Fzd (f i) ((f i).cells.take off++ps++(f i).cells.drop (off+s))else f j) k e)],some (i<n/\k≤i)⟩else none
     |none=>none
    |_=>none
  |_=>none)else none
def Lzw (t:TypeId)(id:Nat):Option Out:=
 match qzo P t with
 |some z=>if z.all (fun v=>v.oneCell')then some ⟨.ptr id 0,[],[(id,.box (szk z))],none⟩else none
 |none=>none
def Tz3 (k:Nat)(t:TypeId)(id:Nat):Option Out:=(fun (_:Program)=>none) P
def Mz2 (t:TypeId)(a v:AVal)(m:Mem):Option Out:=
 match a with
 | .eptr id sz i 0=>match m.get id with
   |some (.vec sz' n f k e)=>match allP v.cells with
    |some ps=>if sz=sz'&&bzu P t=some sz&&ps.length=sz&&ps.all (·.scalar)then(match ez0 P e with
     |some true=>some ⟨.any,[id],[(id,.vec sz n (fun j=>if j=i then .agg ps else f j) k e)],some (i<n/\k≤i)⟩
     |some false=>match ps with
      |[p]=>some ⟨.any,[id],[(id,.vec sz n (fun j=>if j=i then p else f j) k e)],some (i<n/\k≤i)⟩
      |_=>none
     |none=>none)else none
    |none=>none
   |_=>none
 |_=>none
def Rz8 (s:TypeId)(x:AVal)(f:Nat):Option Out:=
 match Rzg P s f with
 |some (fo,ft)=>match x with
  | .ptr id off=>some (.v (.ptr id (off+fo)))
  | .eptr id sz i off=>some (.v (.eptr id sz i (off+fo)))
  | .ref (.agg cs)=>match Izb P ft cs fo with
    |some q=>some (.v (.ref q))
    |none=>none
  |_=>none
 |none=>none
def Lzy (s:TypeId)(x:AVal)(f:Nat):Option Out:=
 match P.underlying s with
 |some (.struct fs)=>match fs[f]? with
  |some fd=>match x with
   | .agg cs=>(az0l P fd.type cs fd.offset).map .v
   | .pure (.agg ps)=>(Izb P fd.type ps fd.offset).map (fun p=>.v (.pure p))
   |_=>none
  |none=>none
 |_=>none
def Azq (t:TypeId)(x i:AVal)(m:Mem):Option Out:=
 match i with
 | .pure (.int _ i)=>match P.underlying t with
   |some (.slice e)=>match x with
    | .pure (.lst sz n f)=>if bzu P e=some sz then some ⟨.ref (f i.toNat),[],[],some (0≤i/\i<n)⟩else none
    | .vec id=>match m.get id with
      |some (.vec sz n _ _ _)=>if bzu P e=some sz then some ⟨.eptr id sz i.toNat 0,[id],[],some (0≤i/\i<n)⟩else none
      |_=>none
    |_=>none
   |some (.array len e)=>match bzu P e with
    |some s=>match x with
     | .ptr id off=>some ⟨.ptr id (off+i.toNat * s),[],[],some (0≤i/\i<len)⟩
     | .eptr id sz k off=>some ⟨.eptr id sz k (off+i.toNat * s),[],[],some (0≤i/\i<len)⟩
     | .ref (.agg cs)=>match Izb P e cs (i.toNat * s)with
       |some q=>some ⟨.ref q,[],[],some (0≤i/\i<len)⟩
       |none=>none
     |_=>none
    |none=>none
   |_=>none
 |_=>none
def Ozu (k:IntKind):List PVal->Option (List Int)
 |[]=>some []
 | .int k' n::l=>if k'=k then(match Ozu k l with
   |some r=>some (n::r)
   |none=>none)else none
 |_=>none
def az1w (e:TypeId)(len:Nat)(ps:List PVal):Option (IntKind×List Int):=
 match P.underlying e,bzu P e with
 |some (.int k),some 1=>match Ozu k ps with
  |some l=>if l.length=len then some (k,l)else none
  |none=>none
 |_,_=>none
def Rza (t:TypeId)(x i:AVal):Option Out:=
 match i with
 | .pure (.int _ i)=>match P.underlying t with
   |some (.array len e)=>match bzu P e,x with
    |some s,.pure (.agg ps)=>match az1w P e len ps with
     |some (k,l)=>some ⟨.pure (.int k (l.getD i.toNat 0)),[],[],some (0≤i/\i<len)⟩
     |none=>match Izb P e ps (i.toNat * s)with
      |some p=>some ⟨.pure p,[],[],some (0≤i/\i<len)⟩
      |none=>none
    |_,_=>none
   |some .string=>match x with
    | .pure (.str s)=>some ⟨.pure (.int .u8 ((s.data.getD i.toNat 0).toNat)),[],[],some (0≤i/\i<s.size)⟩
    |_=>none
   |_=>none
 |_=>none
def dz9:List PVal->List PVal->Option Bool
 |[],[]=>some true
 | .int k a::l,.int k' b::l'=>if k=k' then(dz9 l l').map (fun r=>(a==b)&&r)else none
 | .bool a::l,.bool b::l'=>(dz9 l l').map (fun r=>(a==b)&&r)
 | .str a::l,.str b::l'=>(dz9 l l').map (fun r=>(a==b)&&r)
 |_,_=>none
def Bzs (g:TypeId->Option (List Nat)):List Field->Nat->Option (List Nat)
 |[],_=>some []
 |f::r,off=>if f.offset=off&&f.name != "_" then(match g f.type with
  |some ks=>if bzu P f.type=some ks.length&& !ks.isEmpty then(match Bzs g r (off+ks.length)with
   |some ks'=>some (ks++ks')
   |none=>none)else none
  |none=>none)else none
def pzi:Nat->TypeId->Option (List Nat)
 |0,_=>none
 |d+1,t=>match P.underlying t with
  |some .bool=>some [0]
  |some (.int _)=>some [1]
  |some .string=>some [2]
  |some (.array n e)=>match pzi d e with
   |some ks=>if bzu P e=some ks.length&& !ks.isEmpty then some (List.replicate n ks).flatten else none
   |none=>none
  |some (.struct fs)=>if P.stoodInHeld t then none else Bzs P (pzi d) fs.toList 0
  |_=>none
def Fz6:Nat->PVal->Bool
 |0,.bool _=>true
 |1,.int _ _=>true
 |2,.str _=>true
 |_,_=>false
def fits:List Nat->List PVal->Bool
 |[],[]=>true
 |k::ks,p::ps=>Fz6 k p&&fits ks ps
 |_,_=>false
def Zzn (op:BinOp)(t:TypeId)(x y:PVal):Option (PVal×Option Prop):=
 match x,y with
 | .int k a,.int k' b=>match op with
   | .shl=>some (.int k (k.wrap (a * 2 ^ (min b.toNat k.bits))),some (0≤b))
   | .shr=>some (.int k (a.fdiv (2 ^ (min b.toNat k.bits))),some (0≤b))
   | .add=>if k=k' then some (.int k (k.wrap (a+b)),none)else none
   | .sub=>if k=k' then some (.int k (k.wrap (a-b)),none)else none
   | .mul=>if k=k' then some (.int k (k.wrap (a * b)),none)else none
   | .quo=>if k=k' then some (.int k (k.wrap (a.tdiv b)),some (b≠0))else none
   | .rem=>if k=k' then some (.int k (a.tmod b),some (b≠0))else none
   | .and=>if k=k' then some (.int k (k.wrap (BitVec.ofInt k.bits a&&&BitVec.ofInt k.bits b).toNat),none)else none
   | .or=>if k=k' then some (.int k (k.wrap (BitVec.ofInt k.bits a|||BitVec.ofInt k.bits b).toNat),none)else none
   | .xor=>if k=k' then some (.int k (k.wrap (BitVec.ofInt k.bits a ^^^ BitVec.ofInt k.bits b).toNat),none)else none
   | .andNot=>if k=k' then some (.int k (k.wrap (BitVec.ofInt k.bits a&&&~~~ BitVec.ofInt k.bits b).toNat),none)else none
   | .eql=>if k=k' then some (.bool (a==b),none)else none
   | .neq=>if k=k' then some (.bool (a !=b),none)else none
   | .lss=>if k=k' then some (.bool (decide (a<b)),none)else none
   | .leq=>if k=k' then some (.bool (decide (a≤b)),none)else none
   | .gtr=>if k=k' then some (.bool (decide (a>b)),none)else none
   | .geq=>if k=k' then some (.bool (decide (a≥b)),none)else none
 | .bool a,.bool b=>match P.underlying t with
   |some .bool=>match op with
    | .eql=>some (.bool (a==b),none)
    | .neq=>some (.bool (!(a==b)),none)
    |_=>none
   |_=>none
 | .str a,.str b=>match op with
   | .eql=>some (.bool (a==b),none)
   | .neq=>some (.bool (a !=b),none)
   |_=>none
 | .agg xs,.agg ys=>match pzi P 20 t with
   |some ks=>if ez0 P t=some true&&fits ks xs&&fits ks ys then(match dz9 xs ys with
    |some r=>match op with
     | .eql=>some (.bool r,none)
     | .neq=>some (.bool (!r),none)
     |_=>none
    |none=>none)else none
   |none=>none
 |_,_=>none
def evUn (op:UnOp)(x:PVal):Option PVal:=
 match op,x with
 | .not,.bool b=>some (.bool (!b))
 | .neg,.int k n=>some (.int k (k.wrap (0-n)))
 | .xor,.int k n=>some (.int k (k.wrap (BitVec.ofInt k.bits (if k.signed then -1 else k.max) ^^^ BitVec.ofInt k.bits n).toNat))
 |_,_=>none
def Wzc (dst:TypeId)(x:PVal):Option PVal:=
 match P.underlying dst,x with
 |some (.int k),.int _ n=>some (.int k (k.wrap n))
 |some .string,.str s=>some (.str s)
 |_,_=>none
def over (cs:List AVal):List (Nat×List AVal)->Option (List AVal)
 |[]=>some cs
 |(off,vs)::r=>if off+vs.length≤cs.length then over (cs.take off++vs++cs.drop (off+vs.length)) r else none
def nzz (t:TypeId)(env:Operand->AVal):List (Nat×Operand)->Option (List (Nat×List AVal))
 |[]=>some []
 |(i,x)::r=>
  let place:Option (Nat×Nat):=match P.underlying t with
   |some (.struct fs)=>match fs[i]? with
    |some f=>match bzu P f.type with
     |some s=>some (f.offset,s)
     |none=>none
    |none=>none
   |some (.array _ e)=>match bzu P e with
    |some s=>some (i * s,s)
    |none=>none
   |_=>none
  match place,nzz t env r with
  |some (off,s),some l=>if(env x).cells.length=s&&(env x).cells.all (·.scalar)then some ((off,(env x).cells)::l)else none
  |_,_=>none
def Yzt (t:TypeId):Bool:=
 match P.underlying t with
 |some (.struct fs)=>fs.toList.all fun f=>(bzu P f.type).isSome
 |some (.array _ e)=>(bzu P e).isSome
 |_=>false
def Rz7 (t:TypeId)(id:Nat)(env:Operand->AVal)(parts:List (Nat×Operand)):Option Out:=
 match qzo P t,nzz P t env parts with
 |some z,some ps=>match over (pzh id z) ps with
  |some cs=>if Yzt P t&&z.length≤60 then some ⟨mkAgg cs,[],zmem id z,none⟩else none
  |none=>none
 |_,_=>none
def Nz2 (m:Mem):AVal->Option (PVal×List Nat)
 | .vec id=>match m.get id with
   |some (.vec sz n f _ _)=>some (.lst sz n f,[id])
   |some (.vecT _ n f _ _ none)=>some (.lst 1 n f,[id])
   |some (.vecU sz n f _ _ _ _ _ [])=>some (.lst sz n f,[id])
   |some .nilv=>some (.lst 0 0 fun _=>.unk,[id])
   |_=>none
 |a=>match a.toP with
  |some p=>some (p,[])
  |none=>none
def Yz2 (m:Mem):List AVal->Option (List PVal×List Nat)
 |[]=>some ([],[])
 |a::l=>match Nz2 m a with
  |some (p,is)=>match Yz2 m l with
   |some (ps,js)=>some (p::ps,is++js)
   |none=>none
  |none=>none
def ozs (m:Mem):AVal->Option (PVal×List Nat)
 | .agg cs=>match Yz2 m cs with
   |some (ps,is)=>if ps.all (·.scalar)then some (.agg ps,is)else none
   |none=>none
 |a=>Nz2 m a
def bz1 (m:Mem):List Nat->Mem
 |[]=>[]
 |id::l=>match m.get id with
  |some (.vec sz n f _ e)=>(id,.vec sz n f n e)::bz1 m l
  |some (.vecT _ n f e _ none)=>(id,.vec 1 n f n e)::bz1 m l
  |some (.vecU sz n f _ e _ _ _ [])=>(id,.vec sz n f n e)::bz1 m l
  |_=>bz1 m l
def xzm (m:Mem):List AVal->Option (List PVal×List Nat)
 |[]=>some ([],[])
 |a::l=>match ozs m a with
  |some (p,is)=>match xzm m l with
   |some (ps,js)=>some (p::ps,is++js)
   |none=>none
  |none=>none
def Ez0 (env:Operand->AVal)(i:Nat):List (Nat×Operand)->Option (List AVal)
 |[]=>some []
 |(j,x)::r=>if j=i then(match Ez0 env (i+1) r with
  |some l=>some (env x::l)
  |none=>none)else none
def lget (l:List PVal)(i:Nat):PVal:=l.getD i .unk
def wzm (t:TypeId)(len id:Nat)(env:Operand->AVal)(m:Mem)(parts:List (Nat×Operand)):Option Out:=
 match P.underlying t with
 |some (.slice e)=>match bzu P e,Ez0 env 0 parts with
  |some s,some l=>match xzm m l with
   |some (ps,is)=>if ps.length=len&&ps.all (fun p=>p.cells.length==s&&p.cells.all (·.scalar))&&1≤s&&len * s≤16777216&&(qzo P e).isSome then
    some ⟨.vec id,is,(id,.vec s len (lget ps) 0 e)::bz1 m is,none⟩else none
   |none=>none
  |_,_=>none
 |_=>none
def appF (n:Nat)(f g:Nat->PVal):Nat->PVal:=fun i=>if i<n then f i else g (i-n)
def az4r (m:Mem)(sz:Nat):AVal->Option (Nat×(Nat->PVal)×List Nat)
 | .pure (.lst sz' n g)=>if sz'=sz then some (n,g,[])else none
 | .vec id=>match m.get id with
   |some (.vec sz' n g _ _)=>if sz'=sz then some (n,g,[id])else none
   |some .nilv=>some (0,(fun _=>.unk),[id])
   |_=>none
 |_=>none
def Gzp (ts:Array TypeId)(id:Nat)(sOp:Operand)(s x:AVal)(m:Mem):Option Out:=
 match ts[0]?,ts[1]? with
 |some t,some t'=>if t=t' then(match P.underlying t with
  |some (.slice e)=>match bzu P e,Jz7 P e with
   |some (sz+1),some by_=>match qzo P e with
    |some z=>if z.length=sz+1 then(match az4r m (sz+1) x with
     |some (k,g,is)=>match sOp,s with
      | .const (.slice none 0 0),_=>some ⟨.vec id,is,[(id,.vec (sz+1) k g 0 e)],some (k * by_≤140737488355328/\k≤maxLen)⟩
      |_,.vec old=>match m.get old with
       |some .nilv=>some ⟨.vec id,old::is,[(id,.vec (sz+1) k g 0 e),(old,.gone)],some (k * by_≤140737488355328/\k≤maxLen)⟩
       |some (.vec sz' n f sh e')=>if sz'=sz+1&&e'=e then
        some ⟨.vec id,old::is,[(id,.vec (sz+1) (n+k) (appF n f g) sh e),(old,.gone)],some ((n+k) * by_≤140737488355328/\n+k≤maxLen)⟩else none
       |_=>none
      |_,_=>none
     |none=>none)else none
    |none=>none
   |_,_=>none
  |_=>none)else none
 |_,_=>none
def Hzq (ts:Array TypeId)(id:Nat)(sOp:Operand)(s x:AVal)(m:Mem):Option Out:=
 match s with
 | .vec old=>match m.get old with
   |some (.vec sz n f _ _)=>match Gzp P ts id sOp s x (bz1 m [old]++m)with
    |some out=>match out.wr with
     |x::l=>if x.1=old then none else some ⟨out.val,old::out.rd,x::(old,.dat sz n f)::l++bz1 m [old],out.obl⟩
     |[]=>none
    |none=>none
   |_=>none
 |_=>none
def Tz5 (t:TypeId)(x:AVal)(lo hi mx:Option AVal):Option Out:=(fun (_:Program)=>none) P
def Ozd (ts:Array TypeId)(id:Nat)(s x:AVal)(m:Mem):Option Out:=(fun (_:Program)=>none) P
def Oze (ts:Array TypeId)(id:Nat)(sOp:Operand)(s x:AVal)(m:Mem):Option Out:=(fun (_:Program)=>none) P
def Rzb (ts:Array TypeId)(x:AVal)(m:Mem):Option Out:=
 match ts[0]? with
 |some t=>match P.underlying t,x with
  |some (.slice _),.pure (.lst _ n _)=>some (.v (.pure (.int .i64 n)))
  |some (.slice _),.bsl _ n=>some (.v (.pure (.int .i64 n)))
  |some (.slice _),.vec id=>match m.get id with
   |some (.vec _ n _ _ _)=>some ⟨.pure (.int .i64 n),[id],[],none⟩
   |some (.vecU _ n _ _ _ _ _ _ _)=>some ⟨.pure (.int .i64 n),[id],[],none⟩
   |some .nilv=>some ⟨.pure (.int .i64 (0:Nat)),[id],[],none⟩
   |_=>none
  |some .string,.pure (.str s)=>some (.v (.pure (.int .i64 s.size)))
  |some (.array n _),_=>some (.v (.pure (.int .i64 n)))
  |_,_=>none
 |none=>none
def tzt (t:TypeId)(id:Nat)(len cap:AVal):Option Out:=
 match len,cap with
 | .pure (.int .i64 l),.pure (.int .i64 c)=>match P.underlying t with
   |some (.slice e)=>match bzu P e,Jz7 P e,qzo P e with
    |some (sz+1),some by_,some z=>if z.length=sz+1 then(match allP (z.map ezt)with
     |some ps=>if ps.all (·.scalar)then(match ez0 P e with
      |some true=>some ⟨.vec id,[],[(id,.vec (sz+1) l.toNat (fun _=>.agg ps) 0 e)],some (0≤l/\l≤c/\c≤9223372036854775807/\c * by_≤140737488355328)⟩
      |some false=>match ps with
       |[p]=>some ⟨.vec id,[],[(id,.vec (sz+1) l.toNat (fun _=>p) 0 e)],some (0≤l/\l≤c/\c≤9223372036854775807/\c * by_≤140737488355328)⟩
       |_=>none
      |none=>none)else none
     |none=>none)else none
    |_,_,_=>none
   |_=>none
 |_,_=>none
def Gz2 (d:Nat):Option AVal->Option Int
 |none=>some d
 |some (.pure (.int _ n))=>some n
 |_=>none
def Rze (t:TypeId)(id:Nat)(x:AVal)(lo hi mx:Option AVal)(m:Mem):Option Out:=
 match mx with
 |some _=>none
 |none=>match P.underlying t with
  |some (.slice e)=>match x with
   | .pure (.lst sz n f)=>match Gz2 0 lo,Gz2 n hi with
     |some l,some h=>if bzu P e=some sz then some ⟨.pure (.lst sz (h.toNat-l.toNat) (fun i=>f (l.toNat+i))),[],[],some (0≤l/\l≤h/\h≤n)⟩else none
     |_,_=>none
   | .vec old=>match m.get old with
     |some (.vec sz n f k e')=>match lo with
      |none=>match Gz2 n hi with
       |some h=>if bzu P e=some sz then some ⟨.vec id,[old],[(id,.vec sz h.toNat f k e'),(old,.gone)],some (0≤h/\h≤n/\k≤h.toNat)⟩else none
       |none=>none
      |some _=>none
     |_=>none
   |_=>none
  |some .string=>match x with
   | .pure (.str s)=>match Gz2 0 lo,Gz2 s.size hi with
     |some l,some h=>some ⟨.pure (.str (s.extract l.toNat h.toNat)),[],[],some (0≤l/\l≤h/\h≤s.size)⟩
     |_,_=>none
   |_=>none
  |_=>none
def Bzq (t:TypeId)(x:AVal)(lo hi mx:Option AVal)(m:Mem):Option Out:=
 match mx with
 |some _=>none
 |none=>match P.underlying t with
  |some (.slice e)=>match ozs m x with
   |some (.lst sz n f,is)=>match Gz2 0 lo,Gz2 n hi with
    |some l,some h=>if bzu P e=some sz then some ⟨.pure (.lst sz (h.toNat-l.toNat) (fun i=>f (l.toNat+i))),is,bz1 m is,some (0≤l/\l≤h/\h≤n)⟩else none
    |_,_=>none
   |_=>none
  |_=>none
def Mz0 (t:TypeId)(x:AVal)(lo hi mx:Option AVal)(m:Mem):Option Out:=
 match x with
 | .vec old=>match m.get old with
   |some (.dat sz n f)=>match Bzq P t (.pure (.lst sz n f)) lo hi mx []with
    |some out=>some ⟨out.val,old::out.rd,out.wr,out.obl⟩
    |none=>none
   |_=>none
 |_=>none
def Mz1 (t:TypeId)(x:AVal)(lo hi mx:Option AVal)(m:Mem):Option Out:=
 match mx with
 |some _=>none
 |none=>match P.underlying t with
  |some (.slice e)=>match x with
   | .vec old=>match m.get old with
     |some (.vec sz n _ _ _)=>match Gz2 0 lo,Gz2 n hi with
      |some l,some h=>if bzu P e=some sz then some ⟨.view old sz l.toNat (h.toNat-l.toNat),[old],[],some (0≤l/\l≤h/\h≤n)⟩else none
      |_,_=>none
     |_=>none
   |_=>none
  |_=>none
def Tz4 (t:TypeId)(x:AVal)(lo hi mx:Option AVal):Option Out:=(fun (_:Program)=>none) P
def Wzd (ts:Array TypeId)(d s:AVal)(m:Mem):Option Out:=(fun (_:Program)=>none) P
def Wze (ts:Array TypeId)(x:AVal):Option Out:=
 match x,ts[0]? with
 | .view _ _ _ n,some t=>match P.underlying t with
   |some (.slice _)=>some (.v (.pure (.int .i64 n)))
   |_=>none
 |_,_=>none
def wzo (t:TypeId)(x i:AVal):Option Out:=
 match x,i with
 | .view id sz lo n,.pure (.int _ i)=>match P.underlying t with
   |some (.slice e)=>if bzu P e=some sz then some ⟨.eptr id sz (lo+i.toNat) 0,[],[],some (0≤i/\i<n)⟩else none
   |_=>none
 |_,_=>none
def Ozf (t:TypeId)(x:AVal)(lo hi mx:Option AVal)(m:Mem):Option Out:=(fun (_:Program)=>none) P
def Kzf (f:Int->Int->Int)(k:IntKind):Int->List AVal->Option Int
 |a,[]=>some a
 |a,.pure (.int k' b)::l=>if k=k' then Kzf f k (f a b) l else none
 |_,_=>none
def Gzq (f:Int->Int->Int):List AVal->Option PVal
 | .pure (.int k a)::l=>match Kzf f k a l with
   |some r=>some (.int k r)
   |none=>none
 |_=>none
def az5s:Operand->Bool
 | .const (.slice none 0 0)=>true
 |_=>false
def Bzp (b:Builtin)(args:List Operand)(ts:Array TypeId)(id:Nat)(env:Operand->AVal)(m:Mem):Option Out:=
 match b with
 | .len=>match args with
   |[x]=>match Wze P ts (env x)with
    |some out=>some out
    |none=>Rzb P ts (env x) m
   |_=>none
 | .copy=>match args with
   |[d,s]=>if ts.size=2 then Wzd P ts (env d) (env s) m else none
   |_=>none
 | .append=>match args with
   |[s,x]=>if ts.size=2 then(match Oze P ts id s (env s) (env x) m with
    |some out=>some out
    |none=>match Ozd P ts id (env s) (env x) m with
     |some out=>some out
     |none=>Gzp P ts id s (env s) (env x) m)else none
   |_=>none
 | .min=>match Gzq (fun a b=>min a b) (args.map env)with
   |some p=>some (.v (.pure p))
   |none=>none
 | .max=>match Gzq (fun a b=>max a b) (args.map env)with
   |some p=>some (.v (.pure p))
   |none=>none
 |_=>none
def az72 (k:TypeId):Option (List PVal):=
 match qzo P k,pzi P 20 k with
 |some z,some ks=>match allP (z.map ezt)with
  |some tm=>if ez0 P k=some true&&fits ks tm&&cz8 tm tm then some tm else none
  |none=>none
 |_,_=>none
def az1n (e:TypeId):Option PVal:=
 match P.info? e with
 |some i=>match i.zero with
  |some (.agg cs)=>match allP (cs.toList.map ezt)with
   |some ps=>some (.agg ps)
   |none=>none
  |some v=>(ezt v).toP
  |none=>none
 |none=>none
def xz1 (p q:List PVal):Bool:=
 match dz9 p q with
 |some b=>b
 |none=>false
def Hzr (t:TypeId)(id:Nat):Option Out:=
 match P.underlying t with
 |some (.map k e)=>match az72 P k,az1n P e with
  |some tm,some z=>some ⟨.map id,[],[(id,.map tm (fun _=>false) (fun _=>z))],none⟩
  |_,_=>none
 |_=>none
def Lzz (t:TypeId)(x ix:AVal)(ok:Bool)(m:Mem):Option Out:=
 match P.underlying t,x with
 |some (.map k e),.map j=>match m.get j,ix.toP with
  |some (.map tm dom val),some (.agg cs)=>match pzi P 20 k,az1n P e with
   |some ks,some z=>if ez0 P k=some true&&fits ks tm&&cz8 tm cs then
    some ⟨if ok then .tup [.pure (val cs),.pure (.bool (dom cs))]else .pure (val cs),[j],[],some (dom cs=false->val cs=z)⟩else none
   |_,_=>none
  |_,_=>none
 |_,_=>none
def tzu (t:TypeId)(x ix v:AVal)(m:Mem):Option Out:=
 match P.underlying t,x with
 |some (.map k _),.map j=>match m.get j,ix.toP,v.toP with
  |some (.map tm dom val),some (.agg cs),some p=>match pzi P 20 k with
   |some ks=>if ez0 P k=some true&&fits ks tm&&cz8 tm cs then
    some ⟨.any,[j],[(j,.map tm (fun q=>xz1 q cs||dom q) (fun q=>if xz1 q cs then p else val q))],none⟩else none
   |none=>none
  |_,_,_=>none
 |_,_=>none
def tzs (t:TypeId)(len id:Nat)(env:Operand->AVal)(parts:List (Nat×Operand)):Option Out:=
 match P.underlying t with
 |some (.slice e)=>match bzu P e,qzo P e,Ez0 env 0 parts with
  |some 1,some _,some l=>if l.length=len&&l.all (·.scalar)&&len≤60 then some ⟨.bsl id len,[],[(id,.box l)],none⟩else none
  |_,_,_=>none
 |_=>none
def wzn (t:TypeId)(x i:AVal):Option Out:=
 match x,i with
 | .bsl id n,.pure (.int _ i)=>match P.underlying t with
   |some (.slice e)=>if bzu P e=some 1 then some ⟨.ptr id i.toNat,[],[],some (0≤i/\i<n)⟩else none
   |_=>none
 |_,_=>none
def Wzu:TypeDesc->Bool
 | .interface _=>true
 |_=>false
def Rz9 (t:TypeId)(x:AVal):Option Out:=
 match P.underlying t with
 |some d=>if Wzu d then none else some (.v (.iface t x))
 |none=>none
def Lzx (x:AVal)(asserted:TypeId)(ok:Bool):Option Out:=
 match x,P.underlying asserted with
 | .iface t a,some d=>if Wzu d then none else
  if t=asserted then some (.v (if ok then .tup [a,.tt]else a))else
  if ok then(match P.info? asserted with
   |some i=>match i.zero with
    |some z=>some (.v (.tup [Oz9 z,.ff]))
    |none=>none
   |none=>none)else none
 |_,_=>none
def Cz6 (t:TypeId)(name:String):Option FuncId:=
 match P.info? t with
 |some i=>match i.methods.find? (·.name==name)with
  |some m=>if m.path.isEmpty then(match m.func,P.underlying t with
   |some (f,true),some (.pointer _)=>some f
   |some (_,false),some (.pointer _)=>none
   |some (f,false),some _=>some f
   |_,_=>none)else none
  |none=>none
 |none=>none
def Fz4 (t:TypeId)(id:Nat)(len cap:AVal):Option Out:=(fun (_:Program)=>none) P
def Fz3 (t:TypeId)(x i:AVal)(m:Mem):Option Out:=(fun (_:Program)=>none) P
def Wzg (t:TypeId)(id:Nat)(a:AVal)(m:Mem):Option Out:=(fun (_:Program)=>none) P
def Tz6 (t:TypeId)(a v:AVal)(m:Mem):Option Out:=(fun (_:Program)=>none) P
def Mz4 (t:TypeId)(a v:AVal)(m:Mem):Option Out:=
 match a,v with
 | .ptr j off,.vec k=>match m.get j,m.get k with
   |some (.box cs),some (.vec sz n f _ e)=>match cs[off]? with
    |some (.pure (.lst _ _ _))=>if bzu P t=some 1&&2≤cs.length&&j !=k then
     some ⟨.any,[j,k],[(j,.box (cs.take off++[.pure (.lst sz n f)]++cs.drop (off+1))),(k,.vec sz n f n e)],none⟩else none
    |_=>none
   |_,_=>none
 |_,_=>none
def pur1 (m:Mem)(a b:AVal):AVal×List Nat:=
 match a,b with
 | .vec i,.pure (.lst _ _ _)=>(match ozs m (.vec i)with
   |some (p,is)=>(.pure p,is)
   |none=>(.vec i,[]))
 |a,_=>(a,[])
def purC (m:Mem):List AVal->List AVal->List AVal
 |a::l,b::l'=>(pur1 m a b).1::purC m l l'
 |l,_=>l
def purI (m:Mem):List AVal->List AVal->List Nat
 |a::l,b::l'=>(pur1 m a b).2++purI m l l'
 |_,_=>[]
def Mz3 (t:TypeId)(a v:AVal)(m:Mem):Option Out:=
 match a,v with
 | .ptr id off,.agg vs=>match m.get id with
   |some (.box cs)=>if(purI m vs (cs.drop off)).isEmpty then none else match Azr P t (.ptr id off) (.agg (purC m vs (cs.drop off))) (bz1 m (purI m vs (cs.drop off))++m)with
    |some out=>some {out with rd:=purI m vs (cs.drop off)++out.rd,wr:=out.wr++bz1 m (purI m vs (cs.drop off))}
    |none=>none
   |_=>none
 |_,_=>none
def Mz6 (t:TypeId)(a v:AVal)(m:Mem):Option Out:=
 match a,v with
 | .eptr j sz h off,.vec k=>match m.get j,m.get k with
   |some (.vec sz' n f sh e),some (.vec ..)=>if bzu P t=some 1&&sz=sz'&&off+1≤(f h).cells.length&&j !=k&&sh=0 then
    some ⟨.any,[j,k],[(j,.vecX sz n f e h off k)],some (h<n)⟩else none
   |_,_=>none
 |_,_=>none
def Rzd (t:TypeId)(a:AVal)(m:Mem):Option Out:=
 match a with
 | .eptr j sz i off=>match m.get j with
   |some (.vecX sz' _ _ _ h off' k)=>if ez0 P t=some false&&sz=sz'&&off=off'&&(bzu P t).isSome then some ⟨.vec k,[j],[],some (i=h)⟩else none
   |_=>none
 |_=>none
def wzp (t:TypeId)(x i:AVal)(m:Mem):Option Out:=
 match x,i with
 | .vec id,.pure (.int _ i)=>match m.get id with
   |some (.vecX sz n _ _ _ _ _)=>match P.underlying t with
    |some (.slice e)=>if bzu P e=some sz then some ⟨.eptr id sz i.toNat 0,[id],[],some (0≤i/\i<n)⟩else none
    |_=>none
   |some (.vecU sz n _ _ _ _ _ _ _)=>match P.underlying t with
    |some (.slice e)=>if bzu P e=some sz then some ⟨.eptr id sz i.toNat 0,[id],[],some (0≤i/\i<n)⟩else none
    |_=>none
   |_=>none
 |_,_=>none
def Rzc (t:TypeId)(q:Nat)(a:AVal)(m:Mem):Option Out:=
 match a with
 | .eptr id sz i 0=>match m.get id with
   |some (.vecU sz' n f k _ off _ _ hs)=>if sz=sz'&&bzu P t=some sz&&ez0 P t=some true then(match q with
    |0=>if hs.isEmpty then some ⟨.pure (.agg (f i).cells),[id],[],some (k≤i/\i<n)⟩else none
    |h+1=>match hs[h]? with
     |some (h',k')=>some ⟨.agg (((f i).cells.map .pure).set off (.vec k')),[id],[],some (i=h')⟩
     |none=>none)else none
   |_=>none
 |_=>none
def Mz5 (t:TypeId)(q:Nat)(a v:AVal)(m:Mem):Option Out:=
 match a with
 | .eptr id sz i 0=>match m.get id with
   |some (.vecU sz' n f k e off s' e' hs)=>match v.cells[off]?,allP (v.cells.set off (.pure .unk))with
    |some (.vec kk),some ps=>match m.get kk with
     |some (.vec ..)=>if sz=sz'&&bzu P t=some sz&&ps.length=sz&&ps.all (·.scalar)&&id !=kk then(match q with
      |0=>if hs.isEmpty then some ⟨.any,[id,kk],[(id,.vecU sz n (fun j=>if j=i then .agg ps else f j) k e off s' e' [(i,kk)])],some (i<n)⟩else none
      |h+1=>match hs[h]? with
       |some (h',_)=>some ⟨.any,[id,kk],[(id,.vecU sz n (fun j=>if j=i then .agg ps else f j) k e off s' e' (hs.set h (h',kk)))],some (i=h')⟩
       |none=>none)else none
     |_=>none
    |_,_=>none
   |_=>none
 |_=>none
def Ozg (t:TypeId)(a v:AVal)(m:Mem):Option Out:=(fun (_:Program)=>none) P
def Bzo (t:TypeId)(len id:Nat)(env:Operand->AVal)(m:Mem)(parts:List (Nat×Operand)):Option Out:=(fun (_:Program)=>none) P
def evOp (o:Op)(id:Nat)(env:Operand->AVal)(m:Mem):Option Out:=
 match o with
 | .move x=>some (.v (env x))
 | .assign x=>if az5s x then some ⟨.vec id,[],[(id,.nilv)],none⟩else some (.v (env x))
 | .pick c a b=>match env c with
   | .tt=>some (.v (env a))
   | .ff=>some (.v (env b))
   |_=>none
 | .alloc t=>match qzo P t with
   |some z=>if z.length<60&&z.all (fun v=>v.oneCell')then some ⟨.ptr id 0,[],(id,.box (pzh (id+1) z))::zmem (id+1) z,none⟩else none
   |none=>none
 | .box _ x=>if(env x).cells.all (·.scalar)then some ⟨.ptr id 0,[],[(id,.box (env x).cells)],none⟩else none
 | .build t ps=>Rz7 P t id env ps.toList
 | .buildSlice t n ps=>match wzm P t n id env m ps.toList with
   |some out=>some out
   |none=>tzs P t n id env ps.toList
 | .load t a=>match Wzg P t id (env a) m with
   |some out=>some out
   |none=>match Rzd P t (env a) m with
    |some out=>some out
    |none=>zzk P t (env a) m
 | .store t a v=>match Tz6 P t (env a) (env v) m with
   |some out=>some out
   |none=>match Mz6 P t (env a) (env v) m with
   |some out=>some out
   |none=>match Ozg P t (env a) (env v) m with
   |some out=>some out
   |none=>match Mz4 P t (env a) (env v) m with
   |some out=>some out
   |none=>match Mz3 P t (env a) (env v) m with
   |some out=>some out
   |none=>match Mz2 P t (env a) (env v) m with
    |some out=>some out
    |none=>Azr P t (env a) (env v) m
 | .nilCheck x=>match env x with
   | .ptr i o=>some (.v (.ptr i o))
   | .eptr a b c d=>some (.v (.eptr a b c d))
   | .ref p=>some (.v (.ref p))
   | .func f a b=>some (.v (.func f a b))
   | .iface t a=>some (.v (.iface t a))
   |_=>none
 | .binOp op t x y _=>match(env x).toP,(env y).toP with
   |some p,some q=>match Zzn P op t p q with
    |some (r,ob)=>some ⟨.pure r,[],[],ob⟩
    |none=>none
   |_,_=>none
 | .unOp op _ x=>match env x with
   | .tt=>match op with| .not=>some (.v .ff)|_=>none
   | .ff=>match op with| .not=>some (.v .tt)|_=>none
   | .pure p=>match evUn op p with
     |some r=>some (.v (.pure r))
     |none=>none
   |_=>none
 | .convert s d x=>match(env x).toP with
   |some p=>match Wzc P d p with
    |some r=>if(P.underlying s).isSome then some (.v (.pure r))else none
    |none=>none
   |none=>none
 | .makeFunc fn a b=>match fn with
   | .func f=>some (.v (.func f (a.toList.map env) (b.toList.map env)))
   |_=>none
 | .makeSlice t l c=>tzt P t id (env l) (env c)
 | .makeMap t r=>match r with
   |none=>Hzr P t id
   |some _=>none
 | .lookup t x ix ok=>Lzz P t (env x) (env ix) ok m
 | .mapUpdate t x k v=>tzu P t (env x) (env k) (env v) m
 | .insert t x k v=>tzu P t (env x) (env k) (env v) m
 | .slice t x lo hi mx=>match Tz5 P t (env x) (lo.map env) (hi.map env) (mx.map env)with
   |some out=>some out
   |none=>match Tz4 P t (env x) (lo.map env) (hi.map env) (mx.map env)with
   |some out=>some out
   |none=>match Ozf P t (env x) (lo.map env) (hi.map env) (mx.map env) m with
   |some out=>some out
   |none=>match Mz0 P t (env x) (lo.map env) (hi.map env) (mx.map env) m with
   |some out=>some out
   |none=>Rze P t id (env x) (lo.map env) (hi.map env) (mx.map env) m
 | .fieldAddr s x f=>Rz8 P s (env x) f
 | .field s x f=>Lzy P s (env x) f
 | .indexAddr t x i=>match Fz3 P t (env x) (env i) m with
   |some out=>some out
   |none=>match wzp P t (env x) (env i) m with
   |some out=>some out
   |none=>match wzn P t (env x) (env i)with
    |some out=>some out
    |none=>match wzo P t (env x) (env i)with
    |some out=>some out
    |none=>Azq P t (env x) (env i) m
 | .makeInterface t x=>Rz9 P t (env x)
 | .typeAssert x _ a ok=>Lzx P (env x) a ok
 | .index t x i=>Rza P t (env x) (env i)
 | .range t x=>match P.underlying t,env x with
   |some .string,.pure (.str s)=>some ⟨.ptr id 0,[],[(id,.iter s 0)],none⟩
   |_,_=>none
 | .extract x i=>match env x with
   | .tup cs=>match cs[i]? with
     |some v=>some (.v v)
     |none=>none
   |_=>none
 | .call c=>match c.callee with
   | .builtin b=>Bzp P b c.args.toList c.argTypes id env m
   |_=>none
 |_=>none
end
end Go.Abs
