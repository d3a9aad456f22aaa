/-
  Eval (a part of a claim: our own text).
-/
import Derived.Test.YtkbjjlfpbebiaaaGreatDoorYKCore
namespace Go.Abs
structure Out where
 val:AVal
 rd:List Nat
 wr:Mem
 obl:Option Prop
def Out.v (v:AVal):Out:=⟨v,[],[],none⟩
def holds:Option Prop->Prop
 |none=>True
 |some p=>p
def andO (o:Option Prop)(p:Prop):Prop:=
 match o with
 |none=>p
 |some q=>q/\p
def AVal.toP:AVal->Option PVal
 | .pure p=>some p
 | .tt=>some (.bool true)
 | .ff=>some (.bool false)
 |_=>none
def allP:List AVal->Option (List PVal)
 |[]=>some []
 |a::l=>match a.toP with
  |some p=>match allP l with
   |some ps=>some (p::ps)
   |none=>none
  |none=>none
def mkAgg (cs:List AVal):AVal:=
 match allP cs with
 |some ps=>.pure (.agg ps)
 |none=>.agg cs
def AVal.cells:AVal->List AVal
 | .agg cs=>cs
 | .pure (.agg ps)=>ps.map .pure
 |a=>[a]
def AVal.scalar:AVal->Bool
 | .any| .agg _| .tup _| .pure (.agg _)=>false
 |_=>true
def dzq:Value->AVal
 | .bool true=>.tt
 | .bool false=>.ff
 | .int k n=>.pure (.int k n)
 | .string s=>.pure (.str s)
 | .slice none 0 0=>.pure (.lst 0 0 fun _=>.unk)
 | .nilIface=>.pure .nilI
 | .pointer none=>.nilp
 | .agg _| .tuple _=>.any
 |_=>.pure .unk
def Izp:Value->AVal
 | .agg cs=>mkAgg (cs.toList.map dzq)
 |v=>dzq v
def lzr (id:Nat):List Value->List AVal
 |[]=>[]
 | .slice none 0 0::l=>.vec id::lzr (id+1) l
 |v::l=>dzq v::lzr (id+1) l
def mzy:List Value->List AVal
 |[]=>[]
 | .slice none 0 0::l=>.pure (.lst 0 0 fun _=>.unk)::mzy l
 |v::l=>dzq v::mzy l
def zmem (id:Nat):List Value->Mem
 |[]=>[]
 | .slice none 0 0::l=>(id,.nilv)::zmem (id+1) l
 |_::l=>zmem (id+1) l
section
variable (P:Program)
def bzi (t:TypeId):Option Nat:=(P.info? t).map (·.size)
def ozs (t:TypeId):Option Nat:=(P.info? t).map (·.bytes)
def gzt (t:TypeId):Option (List Value):=(P.info? t).bind fun i=>i.zero.map (·.cells.toList)
def dzk (t:TypeId):Option Bool:=
 match P.underlying t with
 |some (.struct _)=>some true
 |some (.array _ _)=>some true
 |some _=>some false
 |none=>none
def Rzl (t:TypeId)(cs:List AVal)(off:Nat):Option AVal:=
 match dzk P t,bzi P t with
 |some true,some s=>if off+s≤cs.length then some (mkAgg ((cs.drop off).take s))else none
 |some false,some _=>cs[off]?
 |_,_=>none
def Cz2 (t:TypeId)(cs:List PVal)(off:Nat):Option PVal:=
 match dzk P t,bzi P t with
 |some true,some s=>if off+s≤cs.length then some (.agg ((cs.drop off).take s))else none
 |some false,some _=>match cs[off]? with
  |some p=>if p.scalar then some p else none
  |none=>none
 |_,_=>none
def Lz5 (s:TypeId)(f:Nat):Option (Nat×TypeId):=
 match P.underlying s with
 |some (.struct fs)=>match fs[f]? with
  |some x=>match bzi P x.type with
   |some (_+1)=>some (x.offset,x.type)
   |_=>none
  |none=>none
 |_=>none
def sz4 (t:TypeId)(a:AVal)(m:Mem):Option Out:=
 match a with
 | .ref p=>match dzk P t,bzi P t,p with
   |some true,some s,.agg cs=>if cs.length=s then some (.v (.pure (.agg cs)))else none
   |some false,some _,p=>if p.scalar then some (.v (.pure p))else none
   |_,_,_=>none
 | .ptr id off=>match m.get id with
   |some (.box cs)=>match Rzl P t cs off with
    |some v=>some ⟨v,[id],[],none⟩
    |none=>none
   |_=>none
 | .eptr id sz i off=>match m.get id with
   |some (.vec sz' n f _ _)=>if sz=sz' then(match Cz2 P t (f i).cells off with
    |some p=>some ⟨.pure p,[id],[],some (i<n)⟩
    |none=>none)else none
   |_=>none
 |_=>none
def nilP (m:Mem)(a b:AVal):AVal:=
 match a,b with
 | .vec i,.pure _=>(match m.get i with
   |some .nilv=>.pure (.lst 0 0 fun _=>.unk)
   |_=>.vec i)
 |a,_=>a
def szt (t:TypeId)(a v:AVal)(m:Mem):Option Out:=
 match bzi P t with
 |none=>none
 |some s=>if v.cells.length=s then(match a with
  | .ptr id off=>match m.get id with
    |some (.box cs)=>if off+s≤cs.length&&v.cells.all (·.scalar)then
     some ⟨.any,[id],[(id,.box (cs.take off++v.cells++cs.drop (off+s)))],none⟩else none
    |_=>none
  | .eptr id sz i off=>match m.get id with
    |some (.vec sz' n f k e)=>match allP v.cells with
     |some ps=>if sz=sz'&&off+s≤(f i).cells.length&&ps.all (·.scalar)then
      some ⟨.any,[id],[(id,.vec sz n (fun j=>if j=i then nza (f i) ((f i).cells.take off++ps++(f i).cells.drop (off+s))else f j) k e)],some (i<n/\k≤i)⟩else none
     |none=>none
    |_=>none
  |_=>none)else none
def Gzd (t:TypeId)(id:Nat):Option Out:=
 match gzt P t with
 |some z=>if z.all (fun v=>v.oneCell')then some ⟨.ptr id 0,[],[(id,.box (mzy z))],none⟩else none
 |none=>none
def mzx (k id:Nat):List Value->List AVal
 |[]=>[]
 | .slice none 0 0::l=>(if k % 2=1 then .pure (.lst 0 0 fun _=>.unk)else .vec id)::mzx (k / 2) (id+1) l
 |v::l=>dzq v::mzx (k / 2) (id+1) l
def Gzc (k:Nat)(t:TypeId)(id:Nat):Option Out:=
 match gzt P t with
 |some z=>if z.length<60&&z.all (fun v=>v.oneCell')then some ⟨.ptr id 0,[],(id,.box (mzx k (id+1) z))::zmem (id+1) z,none⟩else none
 |none=>none
def Gzm (t:TypeId)(a v:AVal)(m:Mem):Option Out:=
 match a with
 | .eptr id sz i 0=>match m.get id with
   |some (.vec sz' n f k e)=>match allP v.cells with
    |some ps=>if sz=sz'&&bzi P t=some sz&&ps.length=sz&&ps.all (·.scalar)then(match dzk P e with
     |some true=>some ⟨.any,[id],[(id,.vec sz n (fun j=>if j=i then .agg ps else f j) k e)],some (i<n/\k≤i)⟩
     |some false=>match ps with
      |[p]=>some ⟨.any,[id],[(id,.vec sz n (fun j=>if j=i then p else f j) k e)],some (i<n/\k≤i)⟩
      |_=>none
     |none=>none)else none
    |none=>none
   |_=>none
 |_=>none
def Kzx (s:TypeId)(x:AVal)(f:Nat):Option Out:=
 match Lz5 P s f with
 |some (fo,ft)=>match x with
  | .ptr id off=>some (.v (.ptr id (off+fo)))
  | .eptr id sz i off=>some (.v (.eptr id sz i (off+fo)))
  | .ref (.agg cs)=>match Cz2 P ft cs fo with
    |some q=>some (.v (.ref q))
    |none=>none
  |_=>none
 |none=>none
def Gzf (s:TypeId)(x:AVal)(f:Nat):Option Out:=
 match P.underlying s with
 |some (.struct fs)=>match fs[f]? with
  |some fd=>match x with
   | .agg cs=>(Rzl P fd.type cs fd.offset).map .v
   | .pure (.agg ps)=>(Cz2 P fd.type ps fd.offset).map (fun p=>.v (.pure p))
   |_=>none
  |none=>none
 |_=>none
def szs (t:TypeId)(x i:AVal)(m:Mem):Option Out:=
 match i with
 | .pure (.int _ i)=>match P.underlying t with
   |some (.slice e)=>match x with
    | .pure (.lst sz n f)=>if bzi P e=some sz then some ⟨.ref (f i.toNat),[],[],some (0≤i/\i<n)⟩else none
    | .vec id=>match m.get id with
      |some (.vec sz n _ _ _)=>if bzi P e=some sz then some ⟨.eptr id sz i.toNat 0,[id],[],some (0≤i/\i<n)⟩else none
      |_=>none
    |_=>none
   |some (.array len e)=>match bzi P e with
    |some s=>match x with
     | .ptr id off=>some ⟨.ptr id (off+i.toNat * s),[],[],some (0≤i/\i<len)⟩
     | .eptr id sz k off=>some ⟨.eptr id sz k (off+i.toNat * s),[],[],some (0≤i/\i<len)⟩
     | .ref (.agg cs)=>match Cz2 P e cs (i.toNat * s)with
       |some q=>some ⟨.ref q,[],[],some (0≤i/\i<len)⟩
       |none=>none
     |_=>none
    |none=>none
   |_=>none
 |_=>none
def xzr (k:IntKind):List PVal->Option (List Int)
 |[]=>some []
 | .int k' n::l=>if k'=k then(match xzr k l with
   |some r=>some (n::r)
   |none=>none)else none
 |_=>none
def Mze (e:TypeId)(len:Nat)(ps:List PVal):Option (IntKind×List Int):=
 match P.underlying e,bzi P e with
 |some (.int k),some 1=>match xzr k ps with
  |some l=>if l.length=len then some (k,l)else none
  |none=>none
 |_,_=>none
def Kzz (t:TypeId)(x i:AVal):Option Out:=
 match i with
 | .pure (.int _ i)=>match P.underlying t with
   |some (.array len e)=>match bzi P e,x with
    |some s,.pure (.agg ps)=>match Mze P e len ps with
     |some (k,l)=>some ⟨.pure (.int k (l.getD i.toNat 0)),[],[],some (0≤i/\i<len)⟩
     |none=>match Cz2 P e ps (i.toNat * s)with
      |some p=>some ⟨.pure p,[],[],some (0≤i/\i<len)⟩
      |none=>none
    |_,_=>none
   |some .string=>match x with
    | .pure (.str s)=>some ⟨.pure (.int .u8 ((s.data.getD i.toNat 0).toNat)),[],[],some (0≤i/\i<s.size)⟩
    |_=>none
   |_=>none
 |_=>none
def dz8:List PVal->List PVal->Option Bool
 |[],[]=>some true
 | .int k a::l,.int k' b::l'=>if k=k' then(dz8 l l').map (fun r=>(a==b)&&r)else none
 | .bool a::l,.bool b::l'=>(dz8 l l').map (fun r=>(a==b)&&r)
 | .str a::l,.str b::l'=>(dz8 l l').map (fun r=>(a==b)&&r)
 |_,_=>none
def tzx (g:TypeId->Option (List Nat)):List Field->Nat->Option (List Nat)
 |[],_=>some []
 |f::r,off=>if f.offset=off&&f.name != "_" then(match g f.type with
  |some ks=>if bzi P f.type=some ks.length&& !ks.isEmpty then(match tzx g r (off+ks.length)with
   |some ks'=>some (ks++ks')
   |none=>none)else none
  |none=>none)else none
def lzs:Nat->TypeId->Option (List Nat)
 |0,_=>none
 |d+1,t=>match P.underlying t with
  |some .bool=>some [0]
  |some (.int _)=>some [1]
  |some .string=>some [2]
  |some (.array n e)=>match lzs d e with
   |some ks=>if bzi P e=some ks.length&& !ks.isEmpty then some (List.replicate n ks).flatten else none
   |none=>none
  |some (.struct fs)=>if P.stoodInHeld t then none else tzx P (lzs d) fs.toList 0
  |_=>none
def xzt:Nat->PVal->Bool
 |0,.bool _=>true
 |1,.int _ _=>true
 |2,.str _=>true
 |_,_=>false
def fits:List Nat->List PVal->Bool
 |[],[]=>true
 |k::ks,p::ps=>xzt k p&&fits ks ps
 |_,_=>false
def Qz5 (op:BinOp)(t:TypeId)(x y:PVal):Option (PVal×Option Prop):=
 match x,y with
 | .int k a,.int k' b=>match op with
   | .shl=>some (.int k (k.wrap (a * 2 ^ (min b.toNat k.bits))),some (0≤b))
   | .shr=>some (.int k (a.fdiv (2 ^ (min b.toNat k.bits))),some (0≤b))
   | .add=>if k=k' then some (.int k (k.wrap (a+b)),none)else none
   | .sub=>if k=k' then some (.int k (k.wrap (a-b)),none)else none
   | .mul=>if k=k' then some (.int k (k.wrap (a * b)),none)else none
   | .quo=>if k=k' then some (.int k (k.wrap (a.tdiv b)),some (b≠0))else none
   | .rem=>if k=k' then some (.int k (a.tmod b),some (b≠0))else none
   | .and=>if k=k' then some (.int k (k.wrap (BitVec.ofInt k.bits a&&&BitVec.ofInt k.bits b).toNat),none)else none
   | .or=>if k=k' then some (.int k (k.wrap (BitVec.ofInt k.bits a|||BitVec.ofInt k.bits b).toNat),none)else none
   | .xor=>if k=k' then some (.int k (k.wrap (BitVec.ofInt k.bits a ^^^ BitVec.ofInt k.bits b).toNat),none)else none
   | .andNot=>if k=k' then some (.int k (k.wrap (BitVec.ofInt k.bits a&&&~~~ BitVec.ofInt k.bits b).toNat),none)else none
   | .eql=>if k=k' then some (.bool (a==b),none)else none
   | .neq=>if k=k' then some (.bool (a !=b),none)else none
   | .lss=>if k=k' then some (.bool (decide (a<b)),none)else none
   | .leq=>if k=k' then some (.bool (decide (a≤b)),none)else none
   | .gtr=>if k=k' then some (.bool (decide (a>b)),none)else none
   | .geq=>if k=k' then some (.bool (decide (a≥b)),none)else none
 | .bool a,.bool b=>match P.underlying t with
   |some .bool=>match op with
    | .eql=>some (.bool (a==b),none)
    | .neq=>some (.bool (!(a==b)),none)
    |_=>none
   |_=>none
 | .str a,.str b=>match op with
   | .eql=>some (.bool (a==b),none)
   | .neq=>some (.bool (a !=b),none)
   |_=>none
 | .agg xs,.agg ys=>match lzs P 20 t with
   |some ks=>if dzk P t=some true&&fits ks xs&&fits ks ys then(match dz8 xs ys with
    |some r=>match op with
     | .eql=>some (.bool r,none)
     | .neq=>some (.bool (!r),none)
     |_=>none
    |none=>none)else none
   |none=>none
 |_,_=>none
def evUn (op:UnOp)(x:PVal):Option PVal:=
 match op,x with
 | .not,.bool b=>some (.bool (!b))
 | .neg,.int k n=>some (.int k (k.wrap (0-n)))
 | .xor,.int k n=>some (.int k (k.wrap (BitVec.ofInt k.bits (if k.signed then -1 else k.max) ^^^ BitVec.ofInt k.bits n).toNat))
 |_,_=>none
def Oz3 (dst:TypeId)(x:PVal):Option PVal:=
 match P.underlying dst,x with
 |some (.int k),.int _ n=>some (.int k (k.wrap n))
 |some .string,.str s=>some (.str s)
 |_,_=>none
def over (cs:List AVal):List (Nat×List AVal)->Option (List AVal)
 |[]=>some cs
 |(off,vs)::r=>if off+vs.length≤cs.length then over (cs.take off++vs++cs.drop (off+vs.length)) r else none
def kzw (t:TypeId)(env:Operand->AVal):List (Nat×Operand)->Option (List (Nat×List AVal))
 |[]=>some []
 |(i,x)::r=>
  let place:Option (Nat×Nat):=match P.underlying t with
   |some (.struct fs)=>match fs[i]? with
    |some f=>match bzi P f.type with
     |some s=>some (f.offset,s)
     |none=>none
    |none=>none
   |some (.array _ e)=>match bzi P e with
    |some s=>some (i * s,s)
    |none=>none
   |_=>none
  match place,kzw t env r with
  |some (off,s),some l=>if(env x).cells.length=s&&(env x).cells.all (·.scalar)then some ((off,(env x).cells)::l)else none
  |_,_=>none
def Pzr (t:TypeId):Bool:=
 match P.underlying t with
 |some (.struct fs)=>fs.toList.all fun f=>(bzi P f.type).isSome
 |some (.array _ e)=>(bzi P e).isSome
 |_=>false
def Kzv (t:TypeId)(id:Nat)(env:Operand->AVal)(parts:List (Nat×Operand)):Option Out:=
 match gzt P t,kzw P t env parts with
 |some z,some ps=>match over (lzr id z) ps with
  |some cs=>if Pzr P t&&z.length≤60 then some ⟨mkAgg cs,[],zmem id z,none⟩else none
  |none=>none
 |_,_=>none
def Ezu (m:Mem):AVal->Option (PVal×List Nat)
 | .vec id=>match m.get id with
   |some (.vec sz n f _ _)=>some (.lst sz n f,[id])
   |some (.vecT _ n f _ _ none)=>some (.lst 1 n f,[id])
   |some (.vecU sz n f _ _ _ _ _ [])=>some (.lst sz n f,[id])
   |some .nilv=>some (.lst 0 0 fun _=>.unk,[id])
   |_=>none
 |a=>match a.toP with
  |some p=>some (p,[])
  |none=>none
def Pza (m:Mem):List AVal->Option (List PVal×List Nat)
 |[]=>some ([],[])
 |a::l=>match Ezu m a with
  |some (p,is)=>match Pza m l with
   |some (ps,js)=>some (p::ps,is++js)
   |none=>none
  |none=>none
def kzb (m:Mem):AVal->Option (PVal×List Nat)
 | .agg cs=>match Pza m cs with
   |some (ps,is)=>if ps.all (·.scalar)then some (.agg ps,is)else none
   |none=>none
 |a=>Ezu m a
def bz6 (m:Mem):List Nat->Mem
 |[]=>[]
 |id::l=>match m.get id with
  |some (.vec sz n f _ e)=>(id,.vec sz n f n e)::bz6 m l
  |some (.vecT _ n f e _ none)=>(id,.vec 1 n f n e)::bz6 m l
  |some (.vecU sz n f _ e _ _ _ [])=>(id,.vec sz n f n e)::bz6 m l
  |_=>bz6 m l
def nze (m:Mem):List AVal->Option (List PVal×List Nat)
 |[]=>some ([],[])
 |a::l=>match kzb m a with
  |some (p,is)=>match nze m l with
   |some (ps,js)=>some (p::ps,is++js)
   |none=>none
  |none=>none
def szx (env:Operand->AVal)(i:Nat):List (Nat×Operand)->Option (List AVal)
 |[]=>some []
 |(j,x)::r=>if j=i then(match szx env (i+1) r with
  |some l=>some (env x::l)
  |none=>none)else none
def lget (l:List PVal)(i:Nat):PVal:=l.getD i .unk
def jzc (t:TypeId)(len id:Nat)(env:Operand->AVal)(m:Mem)(parts:List (Nat×Operand)):Option Out:=
 match P.underlying t with
 |some (.slice e)=>match bzi P e,szx env 0 parts with
  |some s,some l=>match nze m l with
   |some (ps,is)=>if ps.length=len&&ps.all (fun p=>p.cells.length==s&&p.cells.all (·.scalar))&&1≤s&&len * s≤16777216&&(gzt P e).isSome then
    some ⟨.vec id,is,(id,.vec s len (lget ps) 0 e)::bz6 m is,none⟩else none
   |none=>none
  |_,_=>none
 |_=>none
def appF (n:Nat)(f g:Nat->PVal):Nat->PVal:=fun i=>if i<n then f i else g (i-n)
def Sze (m:Mem)(sz:Nat):AVal->Option (Nat×(Nat->PVal)×List Nat)
 | .pure (.lst sz' n g)=>if sz'=sz then some (n,g,[])else none
 | .vec id=>match m.get id with
   |some (.vec sz' n g _ _)=>if sz'=sz then some (n,g,[id])else none
   |some .nilv=>some (0,(fun _=>.unk),[id])
   |_=>none
 |_=>none
def Az2 (ts:Array TypeId)(id:Nat)(sOp:Operand)(s x:AVal)(m:Mem):Option Out:=
 match ts[0]?,ts[1]? with
 |some t,some t'=>if t=t' then(match P.underlying t with
  |some (.slice e)=>match bzi P e,ozs P e with
   |some (sz+1),some by_=>match gzt P e with
    |some z=>if z.length=sz+1 then(match Sze m (sz+1) x with
     |some (k,g,is)=>match sOp,s with
      | .const (.slice none 0 0),_=>some ⟨.vec id,is,[(id,.vec (sz+1) k g 0 e)],some (k * by_≤140737488355328/\k≤maxLen)⟩
      |_,.vec old=>match m.get old with
       |some .nilv=>some ⟨.vec id,old::is,[(id,.vec (sz+1) k g 0 e),(old,.gone)],some (k * by_≤140737488355328/\k≤maxLen)⟩
       |some (.vec sz' n f sh e')=>if sz'=sz+1&&e'=e then
        some ⟨.vec id,old::is,[(id,.vec (sz+1) (n+k) (appF n f g) sh e),(old,.gone)],some ((n+k) * by_≤140737488355328/\n+k≤maxLen)⟩else none
       |_=>none
      |_,_=>none
     |none=>none)else none
    |none=>none
   |_,_=>none
  |_=>none)else none
 |_,_=>none
def Bz5 (ts:Array TypeId)(id:Nat)(sOp:Operand)(s x:AVal)(m:Mem):Option Out:=
 match s with
 | .vec old=>match m.get old with
   |some (.vec sz n f _ _)=>match Az2 P ts id sOp s x (bz6 m [old]++m)with
    |some out=>match out.wr with
     |x::l=>if x.1=old then none else some ⟨out.val,old::out.rd,x::(old,.dat sz n f)::l++bz6 m [old],out.obl⟩
     |[]=>none
    |none=>none
   |_=>none
 |_=>none
def Gzi (t:TypeId)(x:AVal)(lo hi mx:Option AVal):Option Out:=
 match x,lo,hi,mx with
 | .pure (.lst sz n f),none,some (.pure (.int _ h)),some (.pure (.int _ h'))=>match P.underlying t with
   |some (.slice e)=>if bzi P e=some sz then some ⟨.clip (.lst sz h.toNat f),[],[],some (0≤h/\h≤n/\h'=h)⟩else none
   |_=>none
 |_,_,_,_=>none
def Bz4 (ts:Array TypeId)(id:Nat)(s x:AVal)(m:Mem):Option Out:=
 match s,ts[0]?,ts[1]? with
 | .clip (.lst szc n f),some t,some t'=>if t=t' then(match P.underlying t with
   |some (.slice e)=>match bzi P e,ozs P e,gzt P e with
    |some (sz+1),some by_,some z=>if z.length=sz+1&&szc=sz+1 then(match Sze m (sz+1) x with
     |some (k,g,is)=>some ⟨.vec id,is,[(id,.vec (sz+1) (n+k) (appF n f g) 0 e)],some ((n+k) * by_≤140737488355328/\n+k≤maxLen/\0<k)⟩
     |none=>none)else none
    |_,_,_=>none
   |_=>none)else none
 |_,_,_=>none
def Bz6 (ts:Array TypeId)(id:Nat)(sOp:Operand)(s x:AVal)(m:Mem):Option Out:=
 match x with
 | .view j szv lo k=>match ts[0]?,ts[1]?,m.get j with
   |some t,some t',some (.vec szf n f shf ef)=>if t=t' then(match P.underlying t with
    |some (.slice e)=>match bzi P e,ozs P e with
     |some (sz+1),some by_=>match gzt P e with
      |some z=>if z.length=sz+1&&szv=sz+1&&szf=sz+1 then(match sOp,s with
       | .const (.slice none 0 0),_=>some ⟨.vec id,[j],[(id,.vec (sz+1) k (fun i=>f (lo+i)) 0 e)],some (k * by_≤140737488355328/\k≤maxLen/\lo+k≤n)⟩
       |_,.vec old=>match m.get old with
        |some (.vec sz' n' f' sh e')=>if sz'=sz+1&&e'=e&&old !=j then
         some ⟨.vec id,[old,j],[(id,.vec (sz+1) (n'+k) (appF n' f' (fun i=>f (lo+i))) sh e),(old,.gone)],some ((n'+k) * by_≤140737488355328/\n'+k≤maxLen/\lo+k≤n)⟩else none
        |_=>none
       |_,.view old szw 0 k1=>if old=j&&ef=e&&shf=0&&szw=sz+1 then
        some ⟨.vec id,[j],[(id,.vec (sz+1) (k1+k) (appF k1 f (fun i=>f (lo+i))) 0 e),(j,.gone)],some ((k1+k) * by_≤140737488355328/\k1+k≤maxLen/\k1≤n/\lo+k≤n)⟩else none
       |_,_=>none)else none
      |none=>none
     |_,_=>none
    |_=>none)else none
   |_,_,_=>none
 |_=>none
def Lz0 (ts:Array TypeId)(x:AVal)(m:Mem):Option Out:=
 match ts[0]? with
 |some t=>match P.underlying t,x with
  |some (.slice _),.pure (.lst _ n _)=>some (.v (.pure (.int .i64 n)))
  |some (.slice _),.bsl _ n=>some (.v (.pure (.int .i64 n)))
  |some (.slice _),.vec id=>match m.get id with
   |some (.vec _ n _ _ _)=>some ⟨.pure (.int .i64 n),[id],[],none⟩
   |some (.vecU _ n _ _ _ _ _ _ _)=>some ⟨.pure (.int .i64 n),[id],[],none⟩
   |some .nilv=>some ⟨.pure (.int .i64 (0:Nat)),[id],[],none⟩
   |_=>none
  |some .string,.pure (.str s)=>some (.v (.pure (.int .i64 s.size)))
  |some (.array n _),_=>some (.v (.pure (.int .i64 n)))
  |_,_=>none
 |none=>none
def nzu (t:TypeId)(id:Nat)(len cap:AVal):Option Out:=
 match len,cap with
 | .pure (.int .i64 l),.pure (.int .i64 c)=>match P.underlying t with
   |some (.slice e)=>match bzi P e,ozs P e,gzt P e with
    |some (sz+1),some by_,some z=>if z.length=sz+1 then(match allP (z.map dzq)with
     |some ps=>if ps.all (·.scalar)then(match dzk P e with
      |some true=>some ⟨.vec id,[],[(id,.vec (sz+1) l.toNat (fun _=>.agg ps) 0 e)],some (0≤l/\l≤c/\c≤9223372036854775807/\c * by_≤140737488355328)⟩
      |some false=>match ps with
       |[p]=>some ⟨.vec id,[],[(id,.vec (sz+1) l.toNat (fun _=>p) 0 e)],some (0≤l/\l≤c/\c≤9223372036854775807/\c * by_≤140737488355328)⟩
       |_=>none
      |none=>none)else none
     |none=>none)else none
    |_,_,_=>none
   |_=>none
 |_,_=>none
def tzj (d:Nat):Option AVal->Option Int
 |none=>some d
 |some (.pure (.int _ n))=>some n
 |_=>none
def Lz4 (t:TypeId)(id:Nat)(x:AVal)(lo hi mx:Option AVal)(m:Mem):Option Out:=
 match mx with
 |some _=>none
 |none=>match P.underlying t with
  |some (.slice e)=>match x with
   | .pure (.lst sz n f)=>match tzj 0 lo,tzj n hi with
     |some l,some h=>if bzi P e=some sz then some ⟨.pure (.lst sz (h.toNat-l.toNat) (fun i=>f (l.toNat+i))),[],[],some (0≤l/\l≤h/\h≤n)⟩else none
     |_,_=>none
   | .vec old=>match m.get old with
     |some (.vec sz n f k e')=>match lo with
      |none=>match tzj n hi with
       |some h=>if bzi P e=some sz then some ⟨.vec id,[old],[(id,.vec sz h.toNat f k e'),(old,.gone)],some (0≤h/\h≤n/\k≤h.toNat)⟩else none
       |none=>none
      |some _=>none
     |_=>none
   |_=>none
  |some .string=>match x with
   | .pure (.str s)=>match tzj 0 lo,tzj s.size hi with
     |some l,some h=>some ⟨.pure (.str (s.extract l.toNat h.toNat)),[],[],some (0≤l/\l≤h/\h≤s.size)⟩
     |_,_=>none
   |_=>none
  |_=>none
def tzs (t:TypeId)(x:AVal)(lo hi mx:Option AVal)(m:Mem):Option Out:=
 match mx with
 |some _=>none
 |none=>match P.underlying t with
  |some (.slice e)=>match kzb m x with
   |some (.lst sz n f,is)=>match tzj 0 lo,tzj n hi with
    |some l,some h=>if bzi P e=some sz then some ⟨.pure (.lst sz (h.toNat-l.toNat) (fun i=>f (l.toNat+i))),is,bz6 m is,some (0≤l/\l≤h/\h≤n)⟩else none
    |_,_=>none
   |_=>none
  |_=>none
def Gzj (t:TypeId)(x:AVal)(lo hi mx:Option AVal)(m:Mem):Option Out:=
 match x with
 | .vec old=>match m.get old with
   |some (.dat sz n f)=>match tzs P t (.pure (.lst sz n f)) lo hi mx []with
    |some out=>some ⟨out.val,old::out.rd,out.wr,out.obl⟩
    |none=>none
   |_=>none
 |_=>none
def Gzl (t:TypeId)(x:AVal)(lo hi mx:Option AVal)(m:Mem):Option Out:=
 match mx with
 |some _=>none
 |none=>match P.underlying t with
  |some (.slice e)=>match x with
   | .vec old=>match m.get old with
     |some (.vec sz n _ _ _)=>match tzj 0 lo,tzj n hi with
      |some l,some h=>if bzi P e=some sz then some ⟨.view old sz l.toNat (h.toNat-l.toNat),[old],[],some (0≤l/\l≤h/\h≤n)⟩else none
      |_,_=>none
     |_=>none
   |_=>none
  |_=>none
def Gzh (t:TypeId)(x:AVal)(lo hi mx:Option AVal):Option Out:=
 match x,lo,hi,mx with
 | .ptr id 0,none,none,none=>match P.underlying t with
   |some (.array n e)=>if bzi P e=some 1 then some (.v (.bsl id n))else none
   |_=>none
 |_,_,_,_=>none
def pzt (k:Nat)(f:Nat->PVal):Nat->List AVal->Option (List AVal)
 |_,[]=>some []
 |j,.pure (.int kd b)::l=>match f j,pzt k f (j+1) l with
  | .int kd' a,some r=>if kd'=kd then some (.pure (.int kd (if j<k then a else b))::r)else none
  |_,_=>none
 |_,_=>none
def Kzw (ts:Array TypeId)(d s:AVal)(m:Mem):Option Out:=
 match d,s,ts[0]? with
 | .bsl id n,.pure (.lst 1 k f),some t=>match m.get id,P.underlying t with
   |some (.box cs),some (.slice e)=>match pzt k f 0 (cs.take n)with
    |some cs'=>if n≤cs.length&&bzi P e=some 1 then some ⟨.pure (.int .i64 ((Nat.min k n:Nat):Int)),[id],[(id,.box (cs'++cs.drop n))],none⟩else none
    |none=>none
   |_,_=>none
 |_,_,_=>none
def Oz4 (ts:Array TypeId)(x:AVal):Option Out:=
 match x,ts[0]? with
 | .view _ _ _ n,some t=>match P.underlying t with
   |some (.slice _)=>some (.v (.pure (.int .i64 n)))
   |_=>none
 |_,_=>none
def pzz (t:TypeId)(x i:AVal):Option Out:=
 match x,i with
 | .view id sz lo n,.pure (.int _ i)=>match P.underlying t with
   |some (.slice e)=>if bzi P e=some sz then some ⟨.eptr id sz (lo+i.toNat) 0,[],[],some (0≤i/\i<n)⟩else none
   |_=>none
 |_,_=>none
def Bz8 (t:TypeId)(x:AVal)(lo hi mx:Option AVal)(m:Mem):Option Out:=
 match mx,x with
 |none,.view id sz o n=>match P.underlying t,m.get id,tzj 0 lo,tzj n hi with
  |some (.slice e),some (.vec _ _ _ _ _),some l,some h=>if bzi P e=some sz then some ⟨.view id sz (o+l.toNat) (h.toNat-l.toNat),[id],[],some (0≤l/\l≤h/\h≤n)⟩else none
  |_,_,_,_=>none
 |_,_=>none
def Fzk (f:Int->Int->Int)(k:IntKind):Int->List AVal->Option Int
 |a,[]=>some a
 |a,.pure (.int k' b)::l=>if k=k' then Fzk f k (f a b) l else none
 |_,_=>none
def Az3 (f:Int->Int->Int):List AVal->Option PVal
 | .pure (.int k a)::l=>match Fzk f k a l with
   |some r=>some (.int k r)
   |none=>none
 |_=>none
def Uzz:Operand->Bool
 | .const (.slice none 0 0)=>true
 |_=>false
def tzr (b:Builtin)(args:List Operand)(ts:Array TypeId)(id:Nat)(env:Operand->AVal)(m:Mem):Option Out:=
 match b with
 | .len=>match args with
   |[x]=>match Oz4 P ts (env x)with
    |some out=>some out
    |none=>Lz0 P ts (env x) m
   |_=>none
 | .copy=>match args with
   |[d,s]=>if ts.size=2 then Kzw P ts (env d) (env s) m else none
   |_=>none
 | .append=>match args with
   |[s,x]=>if ts.size=2 then(match Bz6 P ts id s (env s) (env x) m with
    |some out=>some out
    |none=>match Bz4 P ts id (env s) (env x) m with
     |some out=>some out
     |none=>Az2 P ts id s (env s) (env x) m)else none
   |_=>none
 | .min=>match Az3 (fun a b=>min a b) (args.map env)with
   |some p=>some (.v (.pure p))
   |none=>none
 | .max=>match Az3 (fun a b=>max a b) (args.map env)with
   |some p=>some (.v (.pure p))
   |none=>none
 |_=>none
def Vzz (k:TypeId):Option (List PVal):=
 match gzt P k,lzs P 20 k with
 |some z,some ks=>match allP (z.map dzq)with
  |some tm=>if dzk P k=some true&&fits ks tm&&cza tm tm then some tm else none
  |none=>none
 |_,_=>none
def Szk (e:TypeId):Option PVal:=
 match P.info? e with
 |some i=>match i.zero with
  |some (.agg cs)=>match allP (cs.toList.map dzq)with
   |some ps=>some (.agg ps)
   |none=>none
  |some v=>(dzq v).toP
  |none=>none
 |none=>none
def lzc (p q:List PVal):Bool:=
 match dz8 p q with
 |some b=>b
 |none=>false
def Bz7 (t:TypeId)(id:Nat):Option Out:=
 match P.underlying t with
 |some (.map k e)=>match Vzz P k,Szk P e with
  |some tm,some z=>some ⟨.map id,[],[(id,.map tm (fun _=>false) (fun _=>z))],none⟩
  |_,_=>none
 |_=>none
def Gzg (t:TypeId)(x ix:AVal)(ok:Bool)(m:Mem):Option Out:=
 match P.underlying t,x with
 |some (.map k e),.map j=>match m.get j,ix.toP with
  |some (.map tm dom val),some (.agg cs)=>match lzs P 20 k,Szk P e with
   |some ks,some z=>if dzk P k=some true&&fits ks tm&&cza tm cs then
    some ⟨if ok then .tup [.pure (val cs),.pure (.bool (dom cs))]else .pure (val cs),[j],[],some (dom cs=false->PSub z (val cs))⟩else none
   |_,_=>none
  |_,_=>none
 |_,_=>none
def nzv (t:TypeId)(x ix v:AVal)(m:Mem):Option Out:=
 match P.underlying t,x with
 |some (.map k _),.map j=>match m.get j,ix.toP,v.toP with
  |some (.map tm dom val),some (.agg cs),some p=>match lzs P 20 k with
   |some ks=>if dzk P k=some true&&fits ks tm&&cza tm cs then
    some ⟨.any,[j],[(j,.map tm (fun q=>lzc q cs||dom q) (fun q=>if lzc q cs then p else val q))],none⟩else none
   |none=>none
  |_,_,_=>none
 |_,_=>none
def nzs (t:TypeId)(len id:Nat)(env:Operand->AVal)(parts:List (Nat×Operand)):Option Out:=
 match P.underlying t with
 |some (.slice e)=>match bzi P e,gzt P e,szx env 0 parts with
  |some 1,some _,some l=>if l.length=len&&l.all (·.scalar)&&len≤60 then some ⟨.bsl id len,[],[(id,.box l)],none⟩else none
  |_,_,_=>none
 |_=>none
def pzw (t:TypeId)(x i:AVal):Option Out:=
 match x,i with
 | .bsl id n,.pure (.int _ i)=>match P.underlying t with
   |some (.slice e)=>if bzi P e=some 1 then some ⟨.ptr id i.toNat,[],[],some (0≤i/\i<n)⟩else none
   |_=>none
 |_,_=>none
def Ozh:TypeDesc->Bool
 | .interface _=>true
 |_=>false
def Kzy (t:TypeId)(x:AVal):Option Out:=
 match P.underlying t with
 |some d=>if Ozh d then none else some (.v (.iface t x))
 |none=>none
def Gze (x:AVal)(asserted:TypeId)(ok:Bool):Option Out:=
 match x,P.underlying asserted with
 | .iface t a,some d=>if Ozh d then none else
  if t=asserted then some (.v (if ok then .tup [a,.tt]else a))else
  if ok then(match P.info? asserted with
   |some i=>match i.zero with
    |some z=>some (.v (.tup [Izp z,.ff]))
    |none=>none
   |none=>none)else none
 |_,_=>none
def uzb (t:TypeId)(name:String):Option FuncId:=
 match P.info? t with
 |some i=>match i.methods.find? (·.name==name)with
  |some m=>if m.path.isEmpty then(match m.func,P.underlying t with
   |some (f,true),some (.pointer _)=>some f
   |some (_,false),some (.pointer _)=>none
   |some (f,false),some _=>some f
   |_,_=>none)else none
  |none=>none
 |none=>none
def qz1 (t:TypeId)(id:Nat)(len cap:AVal):Option Out:=
 match len,cap with
 | .pure (.int .i64 l),.pure (.int .i64 c)=>match P.underlying t with
   |some (.slice e)=>match bzi P e,ozs P e,gzt P e,P.underlying e with
    |some 1,some by_,some [.slice none 0 0],some (.slice e')=>match bzi P e' with
     |some sz=>some ⟨.vec id,[],[(id,.vecT sz l.toNat (fun _=>.lst sz 0 fun _=>.unk) e e' none)],some (0≤l/\l≤c/\c≤9223372036854775807/\c * by_≤140737488355328)⟩
     |none=>none
    |_,_,_,_=>none
   |_=>none
 |_,_=>none
def pzy (t:TypeId)(x i:AVal)(m:Mem):Option Out:=
 match x,i with
 | .vec id,.pure (.int _ i)=>match m.get id with
   |some (.vecT _ n _ _ _ _)=>match P.underlying t with
    |some (.slice e)=>if bzi P e=some 1 then some ⟨.eptr id 1 i.toNat 0,[id],[],some (0≤i/\i<n)⟩else none
    |_=>none
   |_=>none
 |_,_=>none
def Lz1 (t:TypeId)(id:Nat)(a:AVal)(m:Mem):Option Out:=
 match a with
 | .eptr j 1 i 0=>match m.get j with
   |some (.vecT sz n f e e' none)=>match dzk P t,f i with
    |some false,.lst sz' n' g=>if sz'=sz then some ⟨.vec id,[j],[(j,.vecT sz n f e e' (some i)),(id,.vec sz n' g 0 e')],some (i<n)⟩else none
    |_,_=>none
   |_=>none
 |_=>none
def Gzp (t:TypeId)(a v:AVal)(m:Mem):Option Out:=
 match a,v with
 | .eptr j 1 i 0,.vec k=>match m.get j,m.get k with
   |some (.vecT sz n f e e' (some i')),some (.vec sz' n' g 0 e'')=>if bzi P t=some 1&&sz'=sz&&e''=e' then
    some ⟨.any,[j,k],[(j,.vecT sz n (fun q=>if q=i then .lst sz n' g else f q) e e' none),(k,.gone)],some (i<n/\i=i')⟩else none
   |_,_=>none
 |_,_=>none
def Gzo (t:TypeId)(a v:AVal)(m:Mem):Option Out:=
 match a,v with
 | .ptr j off,.vec k=>match m.get j,m.get k with
   |some (.box cs),some (.vec sz n f _ e)=>match cs[off]? with
    |some (.pure (.lst _ _ _))=>if bzi P t=some 1&&2≤cs.length&&j !=k then
     some ⟨.any,[j,k],[(j,.box (cs.take off++[.pure (.lst sz n f)]++cs.drop (off+1))),(k,.vec sz n f n e)],none⟩else none
    |_=>none
   |_,_=>none
 |_,_=>none
def pur1 (m:Mem)(a b:AVal):AVal×List Nat:=
 match a,b with
 | .vec i,.pure (.lst _ _ _)=>(match kzb m (.vec i)with
   |some (p,is)=>(.pure p,is)
   |none=>(.vec i,[]))
 |a,_=>(a,[])
def purC (m:Mem):List AVal->List AVal->List AVal
 |a::l,b::l'=>(pur1 m a b).1::purC m l l'
 |l,_=>l
def purI (m:Mem):List AVal->List AVal->List Nat
 |a::l,b::l'=>(pur1 m a b).2++purI m l l'
 |_,_=>[]
def Gzn (t:TypeId)(a v:AVal)(m:Mem):Option Out:=
 match a,v with
 | .ptr id off,.agg vs=>match m.get id with
   |some (.box cs)=>if(purI m vs (cs.drop off)).isEmpty then none else match szt P t (.ptr id off) (.agg (purC m vs (cs.drop off))) (bz6 m (purI m vs (cs.drop off))++m)with
    |some out=>some {out with rd:=purI m vs (cs.drop off)++out.rd,wr:=out.wr++bz6 m (purI m vs (cs.drop off))}
    |none=>none
   |_=>none
 |_,_=>none
def tzt (t:TypeId)(a v:AVal)(m:Mem):Option Out:=
 match a,v with
 | .eptr j sz h off,.vec k=>match m.get j,m.get k with
   |some (.vec sz' n f sh e),some (.vec ..)=>if bzi P t=some 1&&sz=sz'&&off+1≤(f h).cells.length&&j !=k&&sh=0 then
    some ⟨.any,[j,k],[(j,.vecX sz n f e h off k)],some (h<n)⟩else none
   |_,_=>none
 |_,_=>none
def Lz3 (t:TypeId)(a:AVal)(m:Mem):Option Out:=
 match a with
 | .eptr j sz i off=>match m.get j with
   |some (.vecX sz' _ _ _ h off' k)=>if dzk P t=some false&&sz=sz'&&off=off'&&(bzi P t).isSome then some ⟨.vec k,[j],[],some (i=h)⟩else none
   |_=>none
 |_=>none
def qz0 (t:TypeId)(x i:AVal)(m:Mem):Option Out:=
 match x,i with
 | .vec id,.pure (.int _ i)=>match m.get id with
   |some (.vecX sz n _ _ _ _ _)=>match P.underlying t with
    |some (.slice e)=>if bzi P e=some sz then some ⟨.eptr id sz i.toNat 0,[id],[],some (0≤i/\i<n)⟩else none
    |_=>none
   |some (.vecU sz n _ _ _ _ _ _ _)=>match P.underlying t with
    |some (.slice e)=>if bzi P e=some sz then some ⟨.eptr id sz i.toNat 0,[id],[],some (0≤i/\i<n)⟩else none
    |_=>none
   |_=>none
 |_,_=>none
def Lz2 (t:TypeId)(q:Nat)(a:AVal)(m:Mem):Option Out:=
 match a with
 | .eptr id sz i 0=>match m.get id with
   |some (.vecU sz' n f k _ off _ _ hs)=>if sz=sz'&&bzi P t=some sz&&dzk P t=some true then(match q with
    |0=>if hs.isEmpty then some ⟨.pure (.agg (f i).cells),[id],[],some (k≤i/\i<n)⟩else none
    |h+1=>match hs[h]? with
     |some (h',k')=>some ⟨.agg (((f i).cells.map .pure).set off (.vec k')),[id],[],some (i=h')⟩
     |none=>none)else none
   |_=>none
 |_=>none
def Gzq (t:TypeId)(q:Nat)(a v:AVal)(m:Mem):Option Out:=
 match a with
 | .eptr id sz i 0=>match m.get id with
   |some (.vecU sz' n f k e off s' e' hs)=>match v.cells[off]?,allP (v.cells.set off (.pure .unk))with
    |some (.vec kk),some ps=>match m.get kk with
     |some (.vec ..)=>if sz=sz'&&bzi P t=some sz&&ps.length=sz&&ps.all (·.scalar)&&id !=kk then(match q with
      |0=>if hs.isEmpty then some ⟨.any,[id,kk],[(id,.vecU sz n (fun j=>if j=i then .agg ps else f j) k e off s' e' [(i,kk)])],some (i<n)⟩else none
      |h+1=>match hs[h]? with
       |some (h',_)=>some ⟨.any,[id,kk],[(id,.vecU sz n (fun j=>if j=i then .agg ps else f j) k e off s' e' (hs.set h (h',kk)))],some (i=h')⟩
       |none=>none)else none
     |_=>none
    |_,_=>none
   |_=>none
 |_=>none
def Bz9 (t:TypeId)(a v:AVal)(m:Mem):Option Out:=
 match a,v with
 | .eptr j sz h off,.vec k=>match m.get j,m.get k with
   |some (.vecX sz' n f e h' off' _),some (.vec ..)=>if bzi P t=some 1&&sz=sz'&&off=off'&&j !=k then
    some ⟨.any,[j,k],[(j,.vecX sz n f e h off k)],some (h=h')⟩else none
   |_,_=>none
 |_,_=>none
def Vzx:AVal->Bool
 | .vec _=>true
 |_=>false
def nzt (t:TypeId)(len id:Nat)(env:Operand->AVal)(m:Mem)(parts:List (Nat×Operand)):Option Out:=
 match P.underlying t,parts with
 |some (.slice e),[(0,x)]=>match bzi P e,env x with
  |some s,.agg cs=>match cs.findIdx? Vzx with
   |some off=>match cs[off]?,allP (cs.set off (.pure .unk))with
    |some (.vec k),some ps=>match m.get k with
     |some .nilv=>if len=1&&ps.length=s&&ps.all (·.scalar)&&1≤s&&s≤16777216&&(gzt P e).isSome then
      some ⟨.vec id,[k],[(id,.vecX s 1 (lget [.agg ps]) e 0 off k)],none⟩else none
     |_=>none
    |_,_=>none
   |none=>none
  |_,_=>none
 |_,_=>none
def pzx (t:TypeId)(x i:AVal):Option Out:=
 match x,i with
 | .ref (.agg cs),.pure (.int _ i)=>match P.underlying t with
   |some (.array len e)=>if 8<len then(match Mze P e len cs with
    |some (k,l)=>some ⟨.ref (.int k (l.getD i.toNat 0)),[],[],some (0≤i/\i<len)⟩
    |none=>none)else none
   |_=>none
 |_,_=>none
def Gzk (t:TypeId)(x:AVal)(lo hi mx:Option AVal)(m:Mem):Option Out:=
 match x,lo,hi,mx with
 | .ptr id 0,none,some (.pure (.int _ h)),none=>match P.underlying t,m.get id with
   |some (.array n e),some (.box cs)=>match allP cs with
    |some ps=>if bzi P e=some 1&&cs.length=n&&n≤60&&ps.all (·.scalar)then
     some ⟨.pure (.lst 1 h.toNat (lget ps)),[id],[(id,.gone)],some (0≤h/\h≤n)⟩else none
    |none=>none
   |_,_=>none
 |_,_,_,_=>none
def Tzg (op:BinOp)(t:TypeId)(x:AVal)(y:Operand):Option Out:=
 match y,P.underlying t with
 | .const (.pointer none),some (.pointer _)=>(match op,x with
   | .eql,.nilp=>some (.v .tt)
   | .eql,.ptr _ _=>some (.v .ff)
   | .neq,.nilp=>some (.v .ff)
   | .neq,.ptr _ _=>some (.v .tt)
   |_,_=>none)
 |_,_=>none
def evOp (o:Op)(id:Nat)(env:Operand->AVal)(m:Mem):Option Out:=
 match o with
 | .move x=>some (.v (env x))
 | .assign x=>if Uzz x then some ⟨.vec id,[],[(id,.nilv)],none⟩else some (.v (env x))
 | .pick c a b=>match env c with
   | .tt=>some (.v (env a))
   | .ff=>some (.v (env b))
   |_=>none
 | .alloc t=>match gzt P t with
   |some z=>if z.length<60&&z.all (fun v=>v.oneCell')then some ⟨.ptr id 0,[],(id,.box (lzr (id+1) z))::zmem (id+1) z,none⟩else none
   |none=>none
 | .box _ x=>if(env x).cells.all (·.scalar)then some ⟨.ptr id 0,[],[(id,.box (env x).cells)],none⟩else none
 | .build t ps=>Kzv P t id env ps.toList
 | .buildSlice t n ps=>match jzc P t n id env m ps.toList with
   |some out=>some out
   |none=>nzs P t n id env ps.toList
 | .load t a=>match Lz1 P t id (env a) m with
   |some out=>some out
   |none=>match Lz3 P t (env a) m with
    |some out=>some out
    |none=>sz4 P t (env a) m
 | .store t a v=>match Gzp P t (env a) (env v) m with
   |some out=>some out
   |none=>match tzt P t (env a) (env v) m with
   |some out=>some out
   |none=>match Bz9 P t (env a) (env v) m with
   |some out=>some out
   |none=>match Gzo P t (env a) (env v) m with
   |some out=>some out
   |none=>match Gzn P t (env a) (env v) m with
   |some out=>some out
   |none=>match Gzm P t (env a) (env v) m with
    |some out=>some out
    |none=>szt P t (env a) (env v) m
 | .nilCheck x=>match env x with
   | .ptr i o=>some (.v (.ptr i o))
   | .eptr a b c d=>some (.v (.eptr a b c d))
   | .ref p=>some (.v (.ref p))
   | .func f a b=>some (.v (.func f a b))
   | .iface t a=>some (.v (.iface t a))
   |_=>none
 | .binOp op t x y _=>match Tzg P op t (env x) y with
   |some out=>some out
   |none=>match(env x).toP,(env y).toP with
   |some p,some q=>match Qz5 P op t p q with
    |some (r,ob)=>some ⟨.pure r,[],[],ob⟩
    |none=>none
   |_,_=>none
 | .unOp op _ x=>match env x with
   | .tt=>match op with| .not=>some (.v .ff)|_=>none
   | .ff=>match op with| .not=>some (.v .tt)|_=>none
   | .pure p=>match evUn op p with
     |some r=>some (.v (.pure r))
     |none=>none
   |_=>none
 | .convert s d x=>match(env x).toP with
   |some p=>match Oz3 P d p with
    |some r=>if(P.underlying s).isSome then some (.v (.pure r))else none
    |none=>none
   |none=>none
 | .makeFunc fn a b=>match fn with
   | .func f=>some (.v (.func f (a.toList.map env) (b.toList.map env)))
   |_=>none
 | .makeSlice t l c=>nzu P t id (env l) (env c)
 | .makeMap t r=>match r with
   |none=>Bz7 P t id
   |some _=>none
 | .lookup t x ix ok=>Gzg P t (env x) (env ix) ok m
 | .mapUpdate t x k v=>nzv P t (env x) (env k) (env v) m
 | .insert t x k v=>nzv P t (env x) (env k) (env v) m
 | .slice t x lo hi mx=>match Gzi P t (env x) (lo.map env) (hi.map env) (mx.map env)with
   |some out=>some out
   |none=>match Gzh P t (env x) (lo.map env) (hi.map env) (mx.map env)with
   |some out=>some out
   |none=>match Gzk P t (env x) (lo.map env) (hi.map env) (mx.map env) m with
   |some out=>some out
   |none=>match Bz8 P t (env x) (lo.map env) (hi.map env) (mx.map env) m with
   |some out=>some out
   |none=>match Gzj P t (env x) (lo.map env) (hi.map env) (mx.map env) m with
   |some out=>some out
   |none=>Lz4 P t id (env x) (lo.map env) (hi.map env) (mx.map env) m
 | .fieldAddr s x f=>Kzx P s (env x) f
 | .field s x f=>Gzf P s (env x) f
 | .indexAddr t x i=>match pzy P t (env x) (env i) m with
   |some out=>some out
   |none=>match qz0 P t (env x) (env i) m with
   |some out=>some out
   |none=>match pzw P t (env x) (env i)with
    |some out=>some out
    |none=>match pzz P t (env x) (env i)with
    |some out=>some out
    |none=>match pzx P t (env x) (env i)with
    |some out=>some out
    |none=>szs P t (env x) (env i) m
 | .makeInterface t x=>Kzy P t (env x)
 | .typeAssert x _ a ok=>Gze P (env x) a ok
 | .index t x i=>Kzz P t (env x) (env i)
 | .range t x=>match P.underlying t,env x with
   |some .string,.pure (.str s)=>some ⟨.ptr id 0,[],[(id,.iter s 0)],none⟩
   |_,_=>none
 | .extract x i=>match env x with
   | .tup cs=>match cs[i]? with
     |some v=>some (.v v)
     |none=>none
   |_=>none
 | .call c=>match c.callee with
   | .builtin b=>tzr P b c.args.toList c.argTypes id env m
   |_=>none
 |_=>none
end
end Go.Abs
