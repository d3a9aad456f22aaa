import Derived.Test.YtnfbbidmdkfilaaGreatDoorZESoundV
open Bool renaming and_assoc->zi,and_eq_true->qm,not_eq_true'->qX
open Go renaming TypeId->qq,Value->qr,Program->qo,run_underlying->zf
open Go.Result renaming andThen_ok->xU
open List renaming cons_append->xX,drop_drop->zj,take_append_drop->wG,replicate->qs,eq_nil_of_length_eq_zero->zk
open Option renaming map_eq_some_iff->za
namespace Go.Abs
variable {F:Cells} {w:World} {ρ:Env} {P:qo}
def IsCells (P:qo)(F:Cells)(w:World)(t:qq)(x:qr)(ps:List PVal):Prop:=
 (ezh P t=some true/\∃vs:Array qr,x=.agg vs/\ps.length=vs.size/\∀ (j:Nat) (p:PVal) (v:qr),ps[j]?=some p->vs[j]?=some v->PRel F w p v)\/
 (ezh P t=some false/\∃p,ps=[p]/\PRel F w p x)
theorem uzl:∀ {a e b g:List PVal} {r:Bool},a.length=e.length->dzv (a++b) (e++g)=some r->
 ∃f c,dzv a e=some f/\dzv b g=some c/\r=(f&&c)
 |[],[],b,g,r,_,h=>⟨true,r,rfl,ju,jt⟩
 |[],_::_,_,_,_,l,_=>jv
 |_::_,[],_,_,_,l,_=>jv
 |x::a,y::e,b,g,r,l,h=>by
  have d:a.length=e.length:=by simpa using l
  simp only[xX]at h;cases x<;>cases y<;>simp only[dzv]at h<;>try(cases h;done)
  all_goals
   first
   |(split at h
     ·simp only[za]at h;obtain⟨q,j,rfl⟩:=h;obtain⟨f,c,i,k,rfl⟩:=uzl d j;rename_i m;exact⟨_,c,by simp[dzv,i,m];rfl,k,by simp[zi]⟩
     ·cases h)
   |(simp only[za]at h
     obtain⟨q,j,rfl⟩:=h;obtain⟨f,c,i,k,rfl⟩:=uzl d j;exact⟨_,c,by simp[dzv,i];rfl,k,by simp[zi]⟩)
theorem IsCells.part {t:qq}{s:Nat}{vs:Array qr}{ps:List PVal}(off:Nat)(c:bzi P t=some s)(e:ps.length=vs.size)
 (h:∀ (j:Nat) (p:PVal) (v:qr),ps[j]?=some p->vs[j]?=some v->PRel F w p v) (b:off+s<=vs.size) (a:(ezh P t=some true)\/(ezh P t=some false/\s=1)):
 ∃x,(Go.part t vs off).run P w=.ok x w/\IsCells P F w t x ((ps.drop off).take s):=by
 rcases a with a|⟨a,rfl⟩
 ·refine⟨_,qz9 (.inl ⟨a,s,c,rfl⟩),.inl ⟨a,_,rfl,jv,λj p v d f=>?_⟩⟩
  grind
 ·refine⟨vs[off],qz9 (.inr ⟨a,jt⟩),.inr ⟨a,ps[off],?_,h off _ _ jt jt⟩⟩
  grind[List.drop_eq_getElem_cons]
theorem yzf:∀ {a b:List Nat} {ps:List PVal},fits (a++b) ps=true->fits a (ps.take a.length)=true/\fits b (ps.drop a.length)=true/\a.length<=ps.length
 |[],b,ps,h=>by simpa[fits]using h
 |k::a,b,[],h=>by simp[fits]at h
 |k::a,b,p::ps,h=>by
  simp only[xX,fits,qm]at h;obtain⟨c,e,d⟩:=yzf h.2;simp[fits,h.1,c,e,d]
theorem rz7:∀ {a:List Nat} {ps:List PVal},fits a ps=true->ps.length=a.length
 |[],[],_=>rfl
 |[],_::_,h=>by simp[fits]at h
 |_::_,[],h=>by simp[fits]at h
 |_::a,_::ps,h=>by
  simp only[fits,qm]at h;simp[rz7 h.2]
def Pzj (P:qo)(t:qq)(a:List Nat):Prop:=(ezh P t=some true)\/(ezh P t=some false/\a.length=1)
theorem Pzb {d:Nat}{t:qq}{b:List Nat}(h:tz3 P d t=some b):Pzj P t b:=by
 cases d with
 |zero=>simp[tz3]at h
 |succ d=>
  simp only[tz3]at h
  split at h<;>rename_i a<;>first
   |(simp at h;subst h;right;simp[ezh,a];done)
   |(left;simp[ezh,a];done)
   |simp_all
def azcq (P:qo)(F:Cells)(w:World)(D:Nat)(t:qq)(b:List Nat):Prop:=
 ∀ (x y:qr) (ps a:List PVal) (r:Bool),IsCells P F w t x ps->IsCells P F w t y a->fits b ps=true->fits b a=true->dzv ps a=some r->
   (Op.equalIn D t x y).run P w=.ok r w
theorem az93 {D:Nat}{e:qq}{a b:List Nat}(E:azcq P F w D e a)(n:Pzj P e a)(k:bzi P e=some a.length)(I:0<a.length){xs i:Array qr}{ps c:List PVal}
 (s:ps.length=xs.size) (g:c.length=i.size) (z:∀ (j:Nat) (p:PVal) (v:qr),ps[j]?=some p->xs[j]?=some v->PRel F w p v)
 (u:∀ (j:Nat) (p:PVal) (v:qr),c[j]?=some p->i[j]?=some v->PRel F w p v) {off:Nat} {r:Bool}
 (K:fits (a++b) (ps.drop off)=true) (L:fits (a++b) (c.drop off)=true) (h:dzv (ps.drop off) (c.drop off)=some r):
 ∃x y d f,(part e xs off).run P w=.ok x w/\(part e i off).run P w=.ok y w/\(Op.equalIn D e x y).run P w=.ok d w/\r=(d&&f)/\
  fits b (ps.drop (off+a.length))=true/\fits b (c.drop (off+a.length))=true/\dzv (ps.drop (off+a.length)) (c.drop (off+a.length))=some f:=by
 obtain⟨t,m,G⟩:=yzf K;obtain⟨M,l,H⟩:=yzf L;rw[zj]at m l;simp only[List.length_drop]at G H;rw[<-wG a.length (ps.drop off),<-wG a.length (c.drop off),zj,zj]at h;obtain⟨d,f,B,o,rfl⟩:=uzl ju h;obtain⟨x,C,J⟩:=IsCells.part (P:=P) (F:=F) (w:=w) off k s z qa n;obtain⟨y,A,q⟩:=IsCells.part (P:=P) (F:=F) (w:=w) off k g u qa n;exact⟨x,y,d,f,C,A,E x y _ _ d J q t M B,rfl,m,l,o⟩
theorem az4u {D:Nat}{e:qq}{a:List Nat}(t:azcq P F w D e a)(A:Pzj P e a)(m:bzi P e=some a.length)(d:0<a.length){xs l:Array qr}{ps f:List PVal}
 (q:ps.length=xs.size) (c:f.length=l.size) (s:∀ (j:Nat) (p:PVal) (v:qr),ps[j]?=some p->xs[j]?=some v->PRel F w p v)
 (z:∀ (j:Nat) (p:PVal) (v:qr),f[j]?=some p->l[j]?=some v->PRel F w p v):
 ∀ (k i:Nat) (r:Bool),fits (qs k a).flatten (ps.drop (i * a.length))=true->fits (qs k a).flatten (f.drop (i * a.length))=true->
   dzv (ps.drop (i * a.length)) (f.drop (i * a.length))=some r->(Op.eqItems D e (P.cellsOf e) xs l (List.range' i k)).run P w=.ok r w
 |0,i,r,g,n,h=>by
  have N:=rz7 g;have M:=rz7 n
  simp_all[zk,dzv,Op.eqItems]
 |k+1,i,r,g,n,h=>by
  have u:P.cellsOf e=a.length:=by
   obtain⟨G,hi,o⟩:=hzy m;simp[Program.cellsOf,hi,o]
  obtain⟨x,y,J,I,K,H,L,rfl,C,B,E⟩:=az93 t A m d q c s z g n h;rw[show i * a.length+a.length=(i+1) * a.length by rw[Nat.add_mul];omega]at C B E;have b:=az4u t A m d q c s z k (i+1) I C B E;rw[List.range'_succ];rw[u]at b;simp only[Op.eqItems,u,Sem.run_bind,K,H,L,xU];cases J
  ·simp
  ·simpa using b
theorem Zzd {D:Nat}{g:qq->Option (List Nat)}{xs n:Array qr}{ps e:List PVal}(C:∀t a,g t=some a->azcq P F w D t a/\Pzj P t a)
 (z:ps.length=xs.size) (d:e.length=n.size) (A:∀ (j:Nat) (p:PVal) (v:qr),ps[j]?=some p->xs[j]?=some v->PRel F w p v)
 (q:∀ (j:Nat) (p:PVal) (v:qr),e[j]?=some p->n[j]?=some v->PRel F w p v):
 ∀ (i:List Field) (off:Nat) (a:List Nat) (r:Bool),Izu P g i off=some a->fits a (ps.drop off)=true->fits a (e.drop off)=true->
   dzv (ps.drop off) (e.drop off)=some r->(Op.eqFields D xs n i).run P w=.ok r w
 |[],off,a,r,h,k,l,m=>by
  simp[Izu]at h;subst h;rw[zk (rz7 k),zk (rz7 l)]at m
  simp_all[dzv,Op.eqFields]
 |f::i,off,a,r,h,k,l,m=>by
  simp only[Izu]at h;split at h
  ·rename_i s;simp only[qm,qf,bne_iff_ne,ne_eq]at s;obtain⟨rfl,b⟩:=s;split at h
   ·rename_i Q o;split at h
    ·rename_i u;simp only[qm,qf,qX]at u;split at h
     ·rename_i R c;simp at h;subst h;obtain⟨L,K⟩:=C _ _ o;obtain⟨x,y,N,I,G,J,O,rfl,M,H,E⟩:=az93 L K u.1 jv z d A q k l m;have B:=Zzd C z d A q i _ _ I c M H E;simp only[Op.eqFields,ne_eq,b,not_false_eq_true,if_true,Sem.run_bind,G,J,O,xU];cases N;all_goals simp_all
     grind
    grind
   grind
  grind
theorem Pz9:∀ (d:Nat) (t:qq) (o:List Nat),tz3 P d t=some o->∀ (D:Nat),azcq P F w (D+d) t o
 |0,_,_,h,_=>by simp[tz3]at h
 |d+1,t,o,h,D=>by
  intro x y ps z r J G c b H;have i:ezh P t=some false->∃p q,ps=[p]/\z=[q]/\PRel F w p x/\PRel F w q y:=by
   intro Q;rcases J with⟨B,_⟩|⟨_,p,rfl,m⟩
   ·simp_all
   ·rcases G with⟨B,_⟩|⟨_,q,rfl,l⟩;all_goals simp_all
  have s:ezh P t=some true->(∃vs:Array qr,x=.agg vs/\ps.length=vs.size/\∀ (j:Nat) (p:PVal) (v:qr),ps[j]?=some p->vs[j]?=some v->PRel F w p v)/\
   (∃vs:Array qr,y=.agg vs/\z.length=vs.size/\∀ (j:Nat) (p:PVal) (v:qr),z[j]?=some p->vs[j]?=some v->PRel F w p v):=by
   intro Q;rcases J with⟨_,B⟩|⟨B,_⟩
   ·rcases G with⟨_,O⟩|⟨O,_⟩;all_goals simp_all
   simp_all
  rw[show D+(d+1)=(D+d)+1 from rfl];simp only[tz3]at h;split at h<;>rename_i k
  ·obtain⟨p,q,rfl,rfl,m,l⟩:=i (by simp[ezh,k]);simp at h;subst h;cases m<;>simp[fits,Nz4]at c
   cases l<;>simp[fits,Nz4]at b
   simp_all[dzv,Op.equalIn,zf]
  ·obtain⟨p,q,rfl,rfl,m,l⟩:=i (by simp[ezh,k]);simp at h;subst h;cases m<;>simp[fits,Nz4]at c
   cases l<;>simp[fits,Nz4]at b
   simp[dzv]at H;obtain⟨rfl,rfl⟩:=H;simp[Op.equalIn,zf k]
  ·obtain⟨p,q,rfl,rfl,m,l⟩:=i (by simp[ezh,k]);simp at h;subst h;cases m<;>simp[fits,Nz4]at c
   cases l<;>simp[fits,Nz4]at b
   simp_all[dzv,Op.equalIn,zf]
  ·rename_i n e;split at h
   ·rename_i N I;split at h
    ·rename_i A;simp only[qm,qf,qX]at A;obtain⟨⟨xs,rfl,E,f⟩,⟨C,rfl,a,g⟩⟩:=s (by simp[ezh,k]);obtain⟨L,hi,M⟩:=hzy A.1;rw[run_equalIn_array w (D+d) xs C k hi,List.range_eq_range'];exact az4u (Pz9 d e N I D) (Pzb I) A.1 jv E a f g n 0 r ju ju ju
    grind
   grind
  ·rename_i K;split at h
   ·cases h
   ·obtain⟨⟨xs,rfl,E,f⟩,⟨C,rfl,a,g⟩⟩:=s (by simp[ezh,k]);have R:P.underlying t=some (.struct (P.fieldsOf t)):=by grind[Program.fieldsOf]
    have u:P.fieldsOf t=K:=ju
    rw[run_equalIn_struct w (D+d) t xs C R ju,u];exact Zzd (λt o h=>⟨Pz9 d t o h D,Pzb h⟩) E a f g K.toList 0 o r h ju ju ju
  grind
theorem Lzj:∀ (d:Nat) (t:qq) (b:List Nat),tz3 P d t=some b->∀D,d<=D->P.eqGuardType D t=false
 |0,_,_,h,_,_=>by simp[tz3]at h
 |d+1,t,b,h,0,p=>qa
 |d+1,t,b,h,D+1,p=>by
  simp only[tz3]at h;simp only[Program.eqGuardType];split at h<;>rename_i o<;>(try simp only[o])
  ·rename_i n e;split at h
   ·rename_i g k;exact Lzj d e g k D qa
   ·cases h
  ·split at h
   ·cases h
   ·rw[<-Array.any_toList]
    have:∀ (l:List Field) (off:Nat) (b:List Nat),Izu P (tz3 P d) l off=some b->(l.any λf=>f.name != "_" &&P.eqGuardType D f.type)=false:=by
     intro l;induction l with
     |nil=>simp
     |cons f l m=>
      intro off b a;simp only[Izu]at a;split at a
      ·split at a
       ·rename_i g i;split at a
        ·split at a
         ·rename_i q j;simp[m _ _ j,Lzj d _ _ i D qa]
         ·cases a
        ·cases a
       ·cases a
      ·cases a
    exact this _ _ _ h
  ·cases h
end Go.Abs
